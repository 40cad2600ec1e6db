/- Ways: the sums by which one of many comes to their root, in plain lists. No condition. -/
import Derived.Test.YtfopockjakeplaaMkD
import Derived.Test.YtfopockjakeplaaTwPlain
namespace Go.Proofs.Ytfopockjakeplaa

theorem upl_getE (l : List Nat) : ∀ i, i < (l.length + 1) / 2 → (upl l).getD i 0 = if 2 * i + 1 = l.length then prs (l.getD (2 * i) 0) (l.getD (2 * i) 0) else prs (l.getD (2 * i) 0) (l.getD (2 * i + 1) 0) := by
  induction l using upl.induct with
  | case1 => intro i h; simp at h
  | case2 a =>
    intro i h
    have : i = 0 := by simp at h; omega
    subst this
    rw [upl, if_pos (by simp), List.getD_cons_zero, Nat.mul_zero, List.getD_cons_zero]
  | case3 a b l ih =>
    intro i h
    cases i with
    | zero => rw [upl, if_neg (by simp), List.getD_cons_zero, Nat.mul_zero, List.getD_cons_zero, List.getD_cons_succ, List.getD_cons_zero]
    | succ i =>
      have e0 := ih i (by simp at h; omega)
      have e1 : 2 * (i + 1) = 2 * i + 1 + 1 := by omega
      rw [upl, List.getD_cons_succ, e0, e1, List.getD_cons_succ, List.getD_cons_succ, List.getD_cons_succ, List.getD_cons_succ, List.length_cons, List.length_cons]
      by_cases e : 2 * i + 1 = l.length
      · rw [if_pos e, if_pos (by omega)]
      · rw [if_neg e, if_neg (by omega)]

/-- a row with its last one doubled, where they are odd -/
def pad (l : List Nat) : List Nat := if l.length % 2 = 1 then l ++ [l.getD (l.length - 1) 0] else l
/-- the other one of a pair -/
def sib (l : List Nat) (i : Nat) : Nat := (pad l).getD (i ^^^ 1) 0
/-- the way of one of many to their root -/
def wayL : Nat → List Nat → Nat → List Nat
  | 0, _, _ => []
  | f + 1, l, i => if l.length ≤ 1 then [] else sib l i :: wayL f (upl l) (i / 2)
/-- how many levels lie over so many -/
def lev : Nat → Nat → Nat
  | 0, _ => 0
  | f + 1, n => if n ≤ 1 then 0 else lev f ((n + 1) / 2) + 1
/-- have two unlike pairs one sum, on the way of two? -/
def cw : Nat → Nat → Nat → List Nat → Bool
  | _, _, _, [] => false
  | a, b, i, x :: l => (decide (ledS a i x = ledS b i x) && decide (a ≠ b)) || cw (ledS a i x) (ledS b i x) (i / 2) l

theorem pad_len (l : List Nat) : (pad l).length = (l.length + 1) / 2 * 2 := by
  unfold pad; split
  · rw [List.length_append, List.length_singleton]; omega
  · omega
theorem wayL_len : ∀ (f : Nat) (l : List Nat) (i : Nat), (wayL f l i).length = lev f l.length
  | 0, _, _ => rfl
  | f + 1, l, i => by
    rw [wayL, lev]; split
    · rfl
    · rw [List.length_cons, wayL_len f, upl_len]
theorem xor1 (i : Nat) : i ^^^ 1 = if i % 2 = 0 then i + 1 else i - 1 := by
  have h1 : (i ^^^ 1) / 2 = i / 2 := by rw [Nat.xor_div_two]; simp
  have h2 : (i ^^^ 1) % 2 = (i + 1) % 2 := by
    have := Nat.xor_mod_two_pow (a := i) (b := 1) (n := 1)
    rw [Nat.pow_one] at this
    rw [this]
    rcases Nat.mod_two_eq_zero_or_one i with h | h
    · rw [h]; simp; omega
    · rw [h]; simp; omega
  split <;> omega
theorem sib_up (l : List Nat) (i : Nat) (h : i < l.length) (_h2 : 2 ≤ l.length) : ledS (l.getD i 0) i (sib l i) = (upl l).getD (i / 2) 0 := by
  rw [upl_getE l (i / 2) (by omega)]
  unfold ledS sib pad
  rw [xor1]
  by_cases he : i % 2 = 0
  · rw [if_pos he, if_pos he, show 2 * (i / 2) = i by omega]
    by_cases hl : i + 1 = l.length
    · rw [if_pos hl, if_pos (by omega), List.getD_eq_getElem?_getD (l := l ++ _), List.getElem?_append_right (by omega), show i + 1 - l.length = 0 by omega, show l.length - 1 = i by omega]
      rfl
    · rw [if_neg hl]
      split
      · rw [List.getD_eq_getElem?_getD (l := l ++ _), List.getElem?_append_left (by omega), ← List.getD_eq_getElem?_getD]
      · rfl
  · rw [if_neg he, if_neg he, show 2 * (i / 2) = i - 1 by omega, if_neg (show ¬ i - 1 + 1 = l.length by omega), show i - 1 + 1 = i by omega]
    split
    · rw [List.getD_eq_getElem?_getD (l := l ++ _), List.getElem?_append_left (by omega), ← List.getD_eq_getElem?_getD]
    · rfl
theorem way_leads : ∀ (f : Nat) (l : List Nat) (i : Nat) (t : Bool), i < l.length → l.length ≤ f + 1 → led (l.getD i 0) i (wayL f l i) = (mroot f l t).1
  | 0, l, i, t, h, hf => by
    obtain rfl : i = 0 := by omega
    rfl
  | f + 1, l, i, t, h, hf => by
    rw [wayL, mroot]
    split
    · obtain rfl : i = 0 := by omega
      rfl
    · rw [led, sib_up l i h (by omega)]
      exact way_leads f _ _ _ (by rw [upl_len]; omega) (by rw [upl_len]; omega)
theorem cw_of : ∀ (l : List Nat) (a b i : Nat), a ≠ b → led a i l = led b i l → cw a b i l = true
  | [], a, b, i, h, e => absurd e h
  | x :: l, a, b, i, h, e => by
    rw [cw]
    by_cases hs : ledS a i x = ledS b i x
    · simp [hs, h]
    · rw [cw_of l _ _ _ hs e, Bool.or_true]
/-- a row of which the first so many are the level above already -/
def mix (p : List Nat) (k : Nat) : List Nat := (upl p).take k ++ p.drop k
theorem mix_len (p : List Nat) (k : Nat) (h : k ≤ (upl p).length) : (mix p k).length = p.length := by
  have := upl_len p
  rw [mix, List.length_append, List.length_take, List.length_drop]
  omega
theorem mix_zero (p : List Nat) : mix p 0 = p := by simp [mix]
theorem mix_get (p : List Nat) (k j : Nat) (h : k ≤ (upl p).length) (hj : k ≤ j) : (mix p k).getD j 0 = p.getD j 0 := by
  rw [mix, List.getD_eq_getElem?_getD, List.getElem?_append_right (by rw [List.length_take]; omega), List.length_take, Nat.min_eq_left h, List.getElem?_drop, show k + (j - k) = j by omega, ← List.getD_eq_getElem?_getD]
theorem mix_set (p : List Nat) (k : Nat) (h : k < (upl p).length) : (mix p k).set k ((upl p).getD k 0) = mix p (k + 1) := by
  have hl := upl_len p
  have e1 : (upl p).take (k + 1) = (upl p).take k ++ [(upl p).getD k 0] := by rw [List.take_add_one]; simp [List.getElem?_eq_getElem h]
  have e2 : p.drop k = p[k]'(by omega) :: p.drop (k + 1) := List.drop_eq_getElem_cons (by omega)
  rw [mix, mix, e1, e2, List.append_assoc, List.set_append_right _ _ (by rw [List.length_take]; omega), List.length_take, Nat.min_eq_left (by omega), Nat.sub_self]
  rfl
theorem pad_even (l : List Nat) : (pad l).length % 2 = 0 := by have := pad_len l; omega
theorem upl_pad (l : List Nat) : upl (pad l) = upl l := by
  unfold pad
  split
  · rename_i h
    have e : l = l.take (l.length - 1) ++ [l.getD (l.length - 1) 0] := by
      have h1 : l.take (l.length - 1 + 1) = l.take (l.length - 1) ++ [l.getD (l.length - 1) 0] := by rw [List.take_add_one]; simp [List.getElem?_eq_getElem (show l.length - 1 < l.length by omega)]
      rw [← h1, List.take_of_length_le (by omega)]
    have hp : (l.take (l.length - 1)).length % 2 = 0 := by rw [List.length_take]; omega
    generalize l.getD (l.length - 1) 0 = y at e ⊢
    generalize l.take (l.length - 1) = x at e hp
    rw [e, List.append_assoc, upl_app x _ hp, upl_app x _ hp]
    rfl
  · rfl
theorem mix_end (l : List Nat) : (mix (pad l) ((pad l).length / 2)).take ((pad l).length / 2) = upl l := by
  have h1 := upl_len (pad l)
  have h2 := pad_even l
  have h3 : (upl (pad l)).length = (pad l).length / 2 := by omega
  rw [mix, List.take_append_of_le_length (by rw [List.length_take]; omega), List.take_take, Nat.min_self, List.take_of_length_le (by omega), upl_pad]
theorem pad_up (l : List Nat) (k : Nat) (h : k < (pad l).length / 2) : prs ((pad l).getD (2 * k) 0) ((pad l).getD (2 * k + 1) 0) = (upl (pad l)).getD k 0 := by
  have h2 := pad_even l
  rw [upl_getE (pad l) k (by omega), if_neg (by omega)]
theorem pad_lt {l : List Nat} (h : ∀ x ∈ l, x < 2 ^ 256) : ∀ x ∈ pad l, x < 2 ^ 256 := by
  unfold pad
  split
  · intro x hx
    rcases List.mem_append.1 hx with hx | hx
    · exact h x hx
    · rw [List.mem_singleton] at hx
      rw [hx, List.getD_eq_getElem?_getD, List.getElem?_eq_getElem (by omega)]
      exact h _ (List.getElem_mem _)
  · exact h
theorem lev_end (f n : Nat) (h : n ≤ 1) : lev f n = 0 := by
  cases f with
  | zero => rfl
  | succ f => rw [lev, if_pos h]
theorem lev_step {f n : Nat} (h : 1 < n) (hf : n ≤ f + 1) : ∃ f', (n + 1) / 2 ≤ f' + 1 ∧ lev f n = lev f' ((n + 1) / 2) + 1 := by
  cases f with
  | zero => omega
  | succ f => exact ⟨f, by omega, by rw [lev, if_neg (by omega)]⟩
theorem lev_le : ∀ (f n : Nat), lev f n ≤ f
  | 0, _ => Nat.le_refl _
  | f + 1, n => by
    have := lev_le f ((n + 1) / 2)
    rw [lev]
    split <;> omega
end Go.Proofs.Ytfopockjakeplaa
