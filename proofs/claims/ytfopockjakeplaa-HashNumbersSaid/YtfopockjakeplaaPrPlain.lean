/- Numbers by digits to the base 2^24, the primes and the first bits of their cube roots. Plain lists. No condition. -/
import Derived.Test.YtfopockjakeplaaHash1
import Derived.KernelRfl
namespace Go.Proofs.Ytfopockjakeplaa

def val : List Nat → Nat
  | [] => 0
  | d :: l => d + 16777216 * val l
def canon : List Nat → Prop
  | [] => True
  | d :: l => d < 16777216 ∧ canon l ∧ (l = [] → d ≠ 0)
def dgf : Nat → Nat → List Nat
  | 0, _ => []
  | f + 1, a => if a = 0 then [] else a % 16777216 :: dgf f (a / 16777216)
/-- a number's digits -/
def cdg (n : Nat) : List Nat := dgf 32 n
theorem val_dgf : ∀ (f a : Nat), a < 16777216 ^ f → val (dgf f a) = a
  | 0, a, h => by simp at h; subst h; rfl
  | f + 1, a, h => by
    rw [dgf]
    by_cases h0 : a = 0
    · rw [if_pos h0, h0]; rfl
    · rw [if_neg h0, val, val_dgf f _ (by rw [Nat.div_lt_iff_lt_mul (by omega), ← Nat.pow_succ]; exact h)]
      omega
theorem canon_pos : ∀ (l : List Nat), canon l → l ≠ [] → 0 < val l
  | [], _, h => absurd rfl h
  | [d], h, _ => by
    have := h.2.2 rfl
    simp [val]; omega
  | d :: e :: l, h, _ => by
    have := canon_pos (e :: l) h.2.1 (by simp)
    rw [val]; omega
theorem dgf_canon : ∀ (f a : Nat), a < 16777216 ^ f → canon (dgf f a)
  | 0, _, _ => trivial
  | f + 1, a, h => by
    rw [dgf]
    by_cases h0 : a = 0
    · rw [if_pos h0]; trivial
    · rw [if_neg h0]
      have h1 : a / 16777216 < 16777216 ^ f := by rw [Nat.div_lt_iff_lt_mul (by omega), ← Nat.pow_succ]; exact h
      refine ⟨by omega, dgf_canon f _ h1, fun e => ?_⟩
      have := val_dgf f _ h1
      rw [e] at this
      simp [val] at this
      omega
theorem dgf_val : ∀ (l : List Nat) (f : Nat), canon l → val l < 16777216 ^ f → dgf f (val l) = l
  | [], 0, _, _ => rfl
  | [], f + 1, _, _ => by simp [val, dgf]
  | d :: l, 0, hc, h => by
    have := canon_pos (d :: l) hc (by simp)
    simp at h; omega
  | d :: l, f + 1, hc, h => by
    have hp := canon_pos (d :: l) hc (by simp)
    have h1 := hc.1
    rw [dgf, if_neg (by omega)]
    have e1 : val (d :: l) % 16777216 = d := by rw [val]; omega
    have e2 : val (d :: l) / 16777216 = val l := by rw [val]; omega
    rw [e1, e2, dgf_val l f hc.2.1 (by
      rw [← e2, Nat.div_lt_iff_lt_mul (by omega), ← Nat.pow_succ]; exact h)]
theorem cdg_val {n : Nat} (h : n < 16777216 ^ 32) : val (cdg n) = n := val_dgf 32 n h
theorem cdg_canon {n : Nat} (h : n < 16777216 ^ 32) : canon (cdg n) := dgf_canon 32 n h
theorem cdg_of {l : List Nat} (hc : canon l) (h : val l < 16777216 ^ 32) : l = cdg (val l) := (dgf_val l 32 hc h).symm
theorem canon_dig : ∀ (l : List Nat), canon l → ∀ x ∈ l, x < 16777216
  | [], _, x, h => by simp at h
  | d :: l, hc, x, h => by
    rcases List.mem_cons.1 h with rfl | h
    · exact hc.1
    · exact canon_dig l hc.2.1 x h
theorem val_lt : ∀ (l : List Nat), (∀ x ∈ l, x < 16777216) → val l < 16777216 ^ l.length
  | [], _ => by simp [val]
  | d :: l, h => by
    have h1 := h d (by simp)
    have h2 := val_lt l fun x hx => h x (by simp [hx])
    rw [val, List.length_cons, Nat.pow_succ]; omega
theorem canon_ge : ∀ (l : List Nat), canon l → l ≠ [] → 16777216 ^ (l.length - 1) ≤ val l
  | [], _, h => absurd rfl h
  | [d], h, _ => by
    have := h.2.2 rfl
    simp [val]; omega
  | d :: e :: l, h, _ => by
    have := canon_ge (e :: l) h.2.1 (by simp)
    rw [val]
    simp only [List.length_cons, Nat.add_sub_cancel] at this ⊢
    rw [Nat.pow_succ]; omega
theorem cdg_len {n m : Nat} (h : n < 16777216 ^ m) (hm : m ≤ 32) : (cdg n).length ≤ m := by
  have hb : n < 16777216 ^ 32 := Nat.lt_of_lt_of_le h (Nat.pow_le_pow_right (by omega) hm)
  rcases Nat.lt_or_ge m (cdg n).length with h1 | h1
  · exfalso
    have h2 := canon_ge (cdg n) (cdg_canon hb) (by intro e; rw [e] at h1; simp at h1)
    rw [cdg_val hb] at h2
    have h3 : 16777216 ^ m ≤ 16777216 ^ ((cdg n).length - 1) := Nat.pow_le_pow_right (by omega) (by omega)
    omega
  · exact h1
theorem val_set : ∀ (l : List Nat) (p v : Nat), p < l.length → val (l.set p v) + l.getD p 0 * 16777216 ^ p = val l + v * 16777216 ^ p
  | [], p, v, h => by simp at h
  | d :: l, 0, v, _ => by simp [val]; omega
  | d :: l, p + 1, v, h => by
    have := val_set l p v (by simpa using h)
    rw [List.set_cons_succ, val, val, List.getD_cons_succ, Nat.pow_succ, ← Nat.mul_assoc, ← Nat.mul_assoc]
    omega
theorem getD_set_self {l : List Nat} {p v : Nat} (h : p < l.length) : (l.set p v).getD p 0 = v := by
  simp [List.getD_eq_getElem?_getD, h]
theorem getD_set_other {l : List Nat} {p q v : Nat} (h : p ≠ q) : (l.set p v).getD q 0 = l.getD q 0 := by
  simp [List.getD_eq_getElem?_getD, List.getElem?_set_ne h]
/-- at a place z is added, what is too much goes on -/
def carry (l : List Nat) (p z : Nat) : List Nat := ((l.set p (l.getD p 0 + z)).set (p + 1) (l.getD (p + 1) 0 + (l.getD p 0 + z) / 16777216)).set p ((l.getD p 0 + z) % 16777216)
theorem carry_len (l : List Nat) (p z : Nat) : (carry l p z).length = l.length := by simp [carry]
theorem carry_val {l : List Nat} {p z : Nat} (h : p + 1 < l.length) : val (carry l p z) = val l + z * 16777216 ^ p := by
  have h1 := val_set l p (l.getD p 0 + z) (by omega)
  have h2 := val_set (l.set p (l.getD p 0 + z)) (p + 1) (l.getD (p + 1) 0 + (l.getD p 0 + z) / 16777216) (by simpa using h)
  have h3 := val_set ((l.set p (l.getD p 0 + z)).set (p + 1) (l.getD (p + 1) 0 + (l.getD p 0 + z) / 16777216)) p ((l.getD p 0 + z) % 16777216) (by simp; omega)
  rw [getD_set_other (by omega)] at h2
  rw [getD_set_other (by omega), getD_set_self (by omega)] at h3
  unfold carry
  obtain ⟨x, hx⟩ : ∃ x, x = l.getD p 0 + z := ⟨_, rfl⟩
  rw [← hx] at h1 h2 h3 ⊢
  have e1 : (x / 16777216) * 16777216 ^ (p + 1) + x % 16777216 * 16777216 ^ p = x * 16777216 ^ p := by
    rw [Nat.pow_succ, Nat.mul_comm (16777216 ^ p) 16777216, ← Nat.mul_assoc, ← Nat.add_mul]
    congr 1; omega
  have e2 : x * 16777216 ^ p = l.getD p 0 * 16777216 ^ p + z * 16777216 ^ p := by rw [hx, Nat.add_mul]
  rw [Nat.add_mul] at h2
  omega
theorem carry_get (l : List Nat) (p z q : Nat) (h : p + 1 < l.length) : (carry l p z).getD q 0 = if q = p then (l.getD p 0 + z) % 16777216 else if q = p + 1 then l.getD (p + 1) 0 + (l.getD p 0 + z) / 16777216 else l.getD q 0 := by
  unfold carry
  by_cases h1 : q = p
  · subst h1
    rw [if_pos rfl, getD_set_self (by simp; omega)]
  · rw [if_neg h1, getD_set_other (fun e => h1 e.symm)]
    by_cases h2 : q = p + 1
    · subst h2
      rw [if_pos rfl, getD_set_self (by simp; omega)]
    · rw [if_neg h2, getD_set_other (fun e => h2 e.symm), getD_set_other (fun e => h1 e.symm)]
theorem val_take : ∀ (l : List Nat) (k : Nat), k ≤ l.length → val l = val (l.take k) + 16777216 ^ k * val (l.drop k)
  | l, 0, _ => by simp [val]
  | [], k + 1, h => by simp at h
  | d :: l, k + 1, h => by
    rw [List.take_succ_cons, List.drop_succ_cons, val, val, val_take l k (by simpa using h), Nat.pow_succ, Nat.mul_add, ← Nat.mul_assoc, Nat.mul_comm 16777216 (16777216 ^ k), Nat.add_assoc]
theorem val_zero : ∀ (n : Nat), val (List.replicate n 0) = 0
  | 0 => rfl
  | n + 1 => by rw [List.replicate_succ, val, val_zero n]
/-- the digits are told, the last one is no nought -/
theorem canon_of : ∀ (l : List Nat), (∀ x ∈ l, x < 16777216) → (l = [] ∨ l.getD (l.length - 1) 0 ≠ 0) → canon l
  | [], _, _ => trivial
  | [d], h, hl => ⟨h d (by simp), trivial, fun _ => by simpa using hl⟩
  | d :: e :: l, h, hl => by
    refine ⟨h d (by simp), canon_of (e :: l) (fun x hx => h x (by simp [hx])) ?_, fun e => by cases e⟩
    right
    rcases hl with hl | hl
    · cases hl
    · simpa using hl
/-- noughts at the end count nothing -/
theorem val_strip {l : List Nat} {n : Nat} (h : n < l.length) (h0 : l.getD n 0 = 0) : val (l.take (n + 1)) = val (l.take n) := by
  rw [List.take_add_one, List.getElem?_eq_getElem h]
  rw [List.getD_eq_getElem?_getD, List.getElem?_eq_getElem h] at h0
  have h0' : l[n] = 0 := h0
  rw [h0']
  have : ∀ m : List Nat, val (m ++ [0]) = val m := fun m => by
    induction m with
    | nil => rfl
    | cons a m ih => rw [List.cons_append, val, val, ih]
  simpa using this (l.take n)
theorem val_more : ∀ (a b : List Nat) (i : Nat), a.length = b.length → (∀ x ∈ a, x < 16777216) → (∀ x ∈ b, x < 16777216) → i < a.length → a.drop (i + 1) = b.drop (i + 1) → b.getD i 0 < a.getD i 0 → val b < val a
  | [], _, i, _, _, _, h, _, _ => by simp at h
  | _ :: _, [], _, h, _, _, _, _, _ => by simp at h
  | x :: a, y :: b, 0, hl, ha, hb, h, hd, hlt => by
    simp at hd hlt
    rw [val, val, hd]; omega
  | x :: a, y :: b, i + 1, hl, ha, hb, h, hd, hlt => by
    have := val_more a b i (by simpa using hl) (fun z hz => ha z (by simp [hz])) (fun z hz => hb z (by simp [hz])) (by simpa using h) (by simpa using hd) (by simpa using hlt)
    have h1 := ha x (by simp); have h2 := hb y (by simp)
    rw [val, val]; omega
theorem val_len {a b : List Nat} (ha : canon a) (hb : canon b) (h : b.length < a.length) : val b < val a := by
  have h1 := canon_ge a ha (by intro e; rw [e] at h; simp at h)
  have h2 := val_lt b (canon_dig b hb)
  have h3 : 16777216 ^ b.length ≤ 16777216 ^ (a.length - 1) := Nat.pow_le_pow_right (by omega) (by omega)
  omega

/-- is a number a prime? -/
def prm : Nat → Nat → Nat → Bool
  | 0, _, n => decide (1 < n)
  | f + 1, d, n => if n < d * d then decide (1 < n) else if n % d = 0 then false else prm f (d + 1) n
def isP (n : Nat) : Bool := prm n 2 n
/-- the first bits of a cube root -/
def crt : Nat → Nat → Nat → Nat
  | 0, a, _ => a
  | f + 1, a, n => crt f (if (a + 2 ^ f) ^ 3 ≤ n * 16777216 ^ 4 then a + 2 ^ f else a) n
def rtP (n : Nat) : Nat := crt 36 0 n % 4294967296
/-- the numbers of the primes below -/
def rl (p : Nat) : List Nat := ((List.range p).filter isP).map rtP
theorem rl_all : rl 312 = ks := by kernel_rfl
theorem rl_succ (p : Nat) : rl (p + 1) = if isP p = true then rl p ++ [rtP p] else rl p := by
  unfold rl
  rw [List.range_succ, List.filter_append, List.map_append]
  by_cases h : isP p = true
  · rw [if_pos h]; simp [h]
  · rw [if_neg h]; simp [h]
theorem rl_mono : ∀ (k p : Nat), ∃ l, rl (p + k) = rl p ++ l
  | 0, p => ⟨[], by simp⟩
  | k + 1, p => by
    obtain ⟨l, hl⟩ := rl_mono k p
    rw [show p + (k + 1) = (p + k) + 1 by omega, rl_succ, hl]
    split
    · exact ⟨l ++ [rtP (p + k)], by rw [List.append_assoc]⟩
    · exact ⟨l, rfl⟩
theorem ks_len64 : ks.length = 64 := by kernel_rfl
theorem rl_end {p : Nat} (hp : p ≤ 312) (h : 64 ≤ (rl p).length) : rl p = ks := by
  obtain ⟨l, hl⟩ := rl_mono (312 - p) p
  rw [show p + (312 - p) = 312 by omega, rl_all] at hl
  have h1 := congrArg List.length hl
  rw [List.length_append, ks_len64] at h1
  have : l = [] := List.eq_nil_of_length_eq_zero (by omega)
  rw [hl, this, List.append_nil]
theorem rl_less {p : Nat} (h : (rl p).length < 64) : p < 312 := by
  rcases Nat.lt_or_ge p 312 with h1 | h1
  · exact h1
  · exfalso
    obtain ⟨l, hl⟩ := rl_mono (p - 312) 312
    rw [show 312 + (p - 312) = p by omega, rl_all] at hl
    rw [hl, List.length_append, ks_len64] at h
    omega
end Go.Proofs.Ytfopockjakeplaa
