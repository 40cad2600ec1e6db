/- Plain laws of bits: sums, differences, order, shifts, words. No program in sight. No condition. -/
import Derived.Test.YtdffblfofdniaaaNumPlain
namespace Go.Proofs.Ytdffblfofdniaaa

/-- bit k as a number -/
theorem bit01 (n k : Nat) : (n.testBit k = true ∧ n / 2 ^ k % 2 = 1) ∨ (n.testBit k = false ∧ n / 2 ^ k % 2 = 0) := by
  rw [Nat.testBit_eq_decide_div_mod_eq]
  rcases Nat.mod_two_eq_zero_or_one (n / 2 ^ k) with h | h <;> rw [h] <;> simp
theorem mod_next (n k : Nat) : n % 2 ^ (k + 1) = n % 2 ^ k + 2 ^ k * (n / 2 ^ k % 2) := by rw [Nat.pow_succ, Nat.mod_mul]
theorem add_over (n m P : Nat) (hP : 0 < P) : (n + m) / P = n / P + m / P + if P ≤ n % P + m % P then 1 else 0 := by
  have h1 := Nat.div_add_mod n P
  have h2 := Nat.div_add_mod m P
  have ha := Nat.mod_lt n hP
  have hb := Nat.mod_lt m hP
  have e : n + m = (n % P + m % P) + P * (n / P + m / P) := by rw [Nat.mul_add]; omega
  rw [e, Nat.add_mul_div_left _ _ hP]
  split
  · rename_i h
    have : (n % P + m % P) / P = 1 := by rw [Nat.div_eq_sub_div hP h, Nat.div_eq_of_lt (by omega)]
    omega
  · rename_i h
    rw [Nat.div_eq_of_lt (by omega)]; omega
theorem add_bit (n m k : Nat) : (n + m).testBit k = ((n.testBit k != m.testBit k) != decide (2 ^ k ≤ n % 2 ^ k + m % 2 ^ k)) := by
  have h := add_over n m (2 ^ k) (Nat.two_pow_pos k)
  have h0 := bit01 (n + m) k
  have h1 := bit01 n k
  have h2 := bit01 m k
  by_cases hc : 2 ^ k ≤ n % 2 ^ k + m % 2 ^ k
  · rw [if_pos hc] at h
    rw [decide_eq_true hc]
    rcases h0 with ⟨e0, f0⟩ | ⟨e0, f0⟩ <;> rcases h1 with ⟨e1, f1⟩ | ⟨e1, f1⟩ <;> rcases h2 with ⟨e2, f2⟩ | ⟨e2, f2⟩ <;> rw [e0, e1, e2] <;> first | rfl | omega
  · rw [if_neg hc] at h
    rw [decide_eq_false hc]
    rcases h0 with ⟨e0, f0⟩ | ⟨e0, f0⟩ <;> rcases h1 with ⟨e1, f1⟩ | ⟨e1, f1⟩ <;> rcases h2 with ⟨e2, f2⟩ | ⟨e2, f2⟩ <;> rw [e0, e1, e2] <;> first | rfl | omega
theorem carry_step (n m k : Nat) : decide (2 ^ (k + 1) ≤ n % 2 ^ (k + 1) + m % 2 ^ (k + 1)) =
    (n.testBit k && m.testBit k || decide (2 ^ k ≤ n % 2 ^ k + m % 2 ^ k) && (n.testBit k || m.testBit k)) := by
  rw [mod_next, mod_next, Nat.pow_succ]
  have h1 := bit01 n k
  have h2 := bit01 m k
  have ha := Nat.mod_lt n (Nat.two_pow_pos k)
  have hb := Nat.mod_lt m (Nat.two_pow_pos k)
  generalize 2 ^ k = P at *
  by_cases hc : P ≤ n % P + m % P
  · rw [decide_eq_true hc]
    rcases h1 with ⟨e1, f1⟩ | ⟨e1, f1⟩ <;> rcases h2 with ⟨e2, f2⟩ | ⟨e2, f2⟩ <;> rw [e1, e2, f1, f2] <;> simp <;> omega
  · rw [decide_eq_false hc]
    rcases h1 with ⟨e1, f1⟩ | ⟨e1, f1⟩ <;> rcases h2 with ⟨e2, f2⟩ | ⟨e2, f2⟩ <;> rw [e1, e2, f1, f2] <;> simp <;> omega

/-- n less m, in 256 bits, and 2^256 more -/
def subz (n m : Nat) : Nat := n + (2 ^ 256 - m % 2 ^ 256)
theorem subz_borrow (n m k : Nat) (hk : k ≤ 256) : decide (2 ^ k ≤ subz n m % 2 ^ k + (m % 2 ^ 256) % 2 ^ k) = decide (n % 2 ^ k < m % 2 ^ k) := by
  have hd : 2 ^ k ∣ 2 ^ 256 := Nat.pow_dvd_pow 2 hk
  have e : subz n m + m % 2 ^ 256 = n + 2 ^ 256 := by unfold subz; have := Nat.mod_lt m (Nat.two_pow_pos 256); omega
  have e2 : (m % 2 ^ 256) % 2 ^ k = m % 2 ^ k := Nat.mod_mod_of_dvd _ hd
  have e3 : (subz n m + m % 2 ^ 256) % 2 ^ k = n % 2 ^ k := by
    rw [e]
    obtain ⟨c, hc⟩ := hd
    rw [hc, Nat.add_mul_mod_self_left]
  rw [Nat.add_mod, e2] at e3
  rw [e2]
  have hz := Nat.mod_lt (subz n m) (Nat.two_pow_pos k)
  have hm := Nat.mod_lt m (Nat.two_pow_pos k)
  generalize subz n m % 2 ^ k = z at *
  generalize m % 2 ^ k = y at *
  generalize n % 2 ^ k = x at *
  generalize 2 ^ k = P at *
  by_cases h : P ≤ z + y
  · rw [decide_eq_true h, decide_eq_true]
    have : (z + y) % P = z + y - P := by rw [Nat.mod_eq_sub_mod h, Nat.mod_eq_of_lt (by omega)]
    omega
  · rw [decide_eq_false h, decide_eq_false]
    rw [Nat.mod_eq_of_lt (by omega)] at e3
    omega
theorem sub_bit (n m k : Nat) (hk : k < 256) : (subz n m).testBit k = ((n.testBit k != m.testBit k) != decide (n % 2 ^ k < m % 2 ^ k)) := by
  have e : subz n m + m % 2 ^ 256 = n + 2 ^ 256 := by unfold subz; have := Nat.mod_lt m (Nat.two_pow_pos 256); omega
  have h1 := add_bit (subz n m) (m % 2 ^ 256) k
  rw [e, subz_borrow n m k (by omega)] at h1
  have h2 : (n + 2 ^ 256).testBit k = n.testBit k := by
    rw [Nat.add_comm, Nat.testBit_two_pow_add_gt hk]
  have h3 : (m % 2 ^ 256).testBit k = m.testBit k := by rw [Nat.testBit_mod_two_pow]; simp [hk]
  rw [h2, h3] at h1
  rw [h1]
  cases (subz n m).testBit k <;> cases m.testBit k <;> cases decide (n % 2 ^ k < m % 2 ^ k) <;> rfl
theorem borrow_step (n m k : Nat) : decide (n % 2 ^ (k + 1) < m % 2 ^ (k + 1)) =
    ((!n.testBit k) && (m.testBit k || decide (n % 2 ^ k < m % 2 ^ k)) || m.testBit k && decide (n % 2 ^ k < m % 2 ^ k)) := by
  rw [mod_next, mod_next]
  have h1 := bit01 n k
  have h2 := bit01 m k
  have ha := Nat.mod_lt n (Nat.two_pow_pos k)
  have hb := Nat.mod_lt m (Nat.two_pow_pos k)
  generalize 2 ^ k = P at *
  by_cases hc : n % P < m % P
  · rw [decide_eq_true hc]
    rcases h1 with ⟨e1, f1⟩ | ⟨e1, f1⟩ <;> rcases h2 with ⟨e2, f2⟩ | ⟨e2, f2⟩ <;> rw [e1, e2, f1, f2] <;> simp <;> omega
  · rw [decide_eq_false hc]
    rcases h1 with ⟨e1, f1⟩ | ⟨e1, f1⟩ <;> rcases h2 with ⟨e2, f2⟩ | ⟨e2, f2⟩ <;> rw [e1, e2, f1, f2] <;> simp <;> omega

theorem div_next (n k : Nat) : n / 2 ^ k = 2 * (n / 2 ^ (k + 1)) + n / 2 ^ k % 2 := by
  rw [Nat.pow_succ, ← Nat.div_div_eq_div_mul]; omega
theorem less_here (n m k : Nat) (h : n / 2 ^ (k + 1) = m / 2 ^ (k + 1)) (hne : n.testBit k ≠ m.testBit k) : m.testBit k = decide (n < m) := by
  have h1 := bit01 n k
  have h2 := bit01 m k
  have e1 := div_next n k
  have e2 := div_next m k
  rw [h] at e1
  rcases h1 with ⟨b1, f1⟩ | ⟨b1, f1⟩ <;> rcases h2 with ⟨b2, f2⟩ | ⟨b2, f2⟩
  · rw [b1, b2] at hne; exact absurd rfl hne
  · rw [b2]
    symm; apply decide_eq_false
    intro hlt
    have := Nat.div_le_div_right (c := 2 ^ k) (Nat.le_of_lt hlt)
    omega
  · rw [b2]
    symm; apply decide_eq_true
    have : n / 2 ^ k < m / 2 ^ k := by omega
    exact Nat.lt_of_not_le fun hle => by have := Nat.div_le_div_right (c := 2 ^ k) hle; omega
  · rw [b1, b2] at hne; exact absurd rfl hne
theorem less_same (n m k : Nat) (h : n / 2 ^ (k + 1) = m / 2 ^ (k + 1)) (he : n.testBit k = m.testBit k) : n / 2 ^ k = m / 2 ^ k := by
  have h1 := bit01 n k
  have h2 := bit01 m k
  have e1 := div_next n k
  have e2 := div_next m k
  rcases h1 with ⟨b1, f1⟩ | ⟨b1, f1⟩ <;> rcases h2 with ⟨b2, f2⟩ | ⟨b2, f2⟩ <;> first | omega | (rw [b1, b2] at he; cases he)

theorem shl_bit (n s i : Nat) : (n * 2 ^ s).testBit i = (decide (0 ≤ (i : Int) - s) && n.testBit ((i : Int) - s).toNat) := by
  rw [← Nat.shiftLeft_eq, Nat.testBit_shiftLeft]
  by_cases h : s ≤ i
  · rw [show ((i : Int) - s).toNat = i - s by omega]
    simp only [ge_iff_le, h, decide_true, Bool.true_and]
    rw [decide_eq_true (by omega), Bool.true_and]
  · rw [decide_eq_false (show ¬ (0 : Int) ≤ (i : Int) - s by omega)]
    simp [h]
theorem shr_bit (n s i : Nat) : (n / 2 ^ s).testBit i = (decide (0 ≤ (i : Int) - -(s : Int)) && n.testBit ((i : Int) - -(s : Int)).toNat) := by
  rw [Nat.testBit_div_two_pow, decide_eq_true (by omega), Bool.true_and, show ((i : Int) - -(s : Int)).toNat = s + i by omega, Nat.add_comm]

/-- word j of the document's Words, the bits from k on being in -/
def wk (n k j : Nat) : Nat := if 64 * (j + 1) ≤ k then 0 else n / 2 ^ max (64 * j) k % 2 ^ (64 * (j + 1) - max (64 * j) k)
theorem wk_lt (n k j : Nat) : wk n k j < 18446744073709551616 := by
  unfold wk
  split
  · omega
  · exact Nat.lt_of_lt_of_le (Nat.mod_lt _ (Nat.two_pow_pos _)) (by rw [show (18446744073709551616 : Nat) = 2 ^ 64 from rfl]; exact Nat.pow_le_pow_right (by omega) (by omega))
theorem wk_start (n j : Nat) (hj : j < 4) : wk n 256 j = 0 := by unfold wk; rw [if_pos (by omega)]
theorem wk_end (n j : Nat) : (wk n 0 j : Int) = lw n j := by
  unfold wk lw
  rw [if_neg (by omega), show max (64 * j) 0 = 64 * j by omega, show 64 * (j + 1) - 64 * j = 64 by omega]
theorem wk_other (n k j : Nat) (h : j ≠ k / 64) : wk n k j = wk n (k + 1) j := by
  unfold wk
  by_cases h1 : 64 * (j + 1) ≤ k
  · rw [if_pos h1, if_pos (by omega)]
  · rw [if_neg h1, if_neg (by omega), show max (64 * j) k = 64 * j by omega, show max (64 * j) (k + 1) = 64 * j by omega]
theorem wk_step (n k : Nat) : wk n k (k / 64) = wk n (k + 1) (k / 64) * 2 + n / 2 ^ k % 2 ∧ wk n (k + 1) (k / 64) < 9223372036854775808 := by
  obtain ⟨j, hj⟩ : ∃ j, j = k / 64 := ⟨_, rfl⟩
  rw [← hj]
  unfold wk
  rw [if_neg (by omega), show max (64 * j) k = k by omega]
  by_cases h : 64 * (j + 1) ≤ k + 1
  · rw [if_pos h, show 64 * (j + 1) - k = 1 by omega]; omega
  · rw [if_neg h, show max (64 * j) (k + 1) = k + 1 by omega]
    obtain ⟨d, hd⟩ := Nat.exists_eq_add_of_le (show k + 1 ≤ 64 * (j + 1) by omega)
    rw [show 64 * (j + 1) - k = d + 1 by omega, show 64 * (j + 1) - (k + 1) = d by omega]
    have hd63 : d ≤ 63 := by omega
    refine ⟨?_, Nat.lt_of_lt_of_le (Nat.mod_lt _ (Nat.two_pow_pos _)) (by rw [show (9223372036854775808 : Nat) = 2 ^ 63 from rfl]; exact Nat.pow_le_pow_right (by omega) hd63)⟩
    rw [Nat.pow_succ 2 k, ← Nat.div_div_eq_div_mul, Nat.pow_succ, Nat.mul_comm (2 ^ d), Nat.mod_mul]
    omega
end Go.Proofs.Ytdffblfofdniaaa
