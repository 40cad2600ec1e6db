/- Targets and work in plain numbers. No condition. -/
import Derived.Test.YtnbppbnjkmopeaaBt3
import Derived.Test.YtnbppbnjkmopeaaBt1
import Derived.Test.YtnbppbnjkmopeaaCmpP
namespace Go.Proofs.Ytnbppbnjkmopeaa

theorem easy_tgt : tgt 545259519 = (8388607 * 2 ^ 232, true) := by kernel_rfl
theorem easy_wrk : wrk (8388607 * 2 ^ 232) = 2 := by kernel_rfl
theorem easy_lt : 8388607 * 2 ^ 232 < 2 ^ 256 := by decide
theorem tgt_pos {b : Nat} (h : (tgt b).2 = true) : 1 ≤ (tgt b).1 := by
  unfold tgt at *
  split at h
  · cases h
  rename_i h0
  split at h
  · cases h
  rename_i h1
  rw [if_neg h0, if_neg h1]
  split at h
  · rename_i h2
    rw [if_pos h2]
    dsimp only at h ⊢
    exact Nat.pos_of_ne_zero fun e => by rw [decide_eq_true e] at h; cases h
  · rename_i h2
    rw [if_neg h2]
    split at h
    · cases h
    · rename_i h3
      rw [if_neg h3]
      exact Nat.mul_pos (Nat.pos_of_ne_zero h0) (Nat.two_pow_pos _)
theorem wk_div (t : Nat) (h1 : 1 ≤ t) (h2 : t < 2 ^ 256) : wrk t = 2 ^ 256 / (t + 1) := by
  have e := Nat.div_eq_sub_div (a := 2 ^ 256) (b := t + 1) (by omega) (by omega)
  have h3 : 2 ^ 256 / (t + 1) ≤ 2 ^ 256 / 2 := Nat.div_le_div_left (by omega) (by omega)
  unfold wrk
  split
  · have : t + 1 = 2 ^ 256 := by omega
    rw [this, Nat.div_self (by omega)]
  · rw [show 2 ^ 256 - 1 - t = 2 ^ 256 - (t + 1) by omega, ← e, Nat.mod_eq_of_lt (by omega)]
theorem wk_pos (t : Nat) (h1 : 1 ≤ t) (h2 : t < 2 ^ 256) : 1 ≤ wrk t := by
  rw [wk_div t h1 h2]
  exact Nat.div_pos (show t + 1 ≤ 2 ^ 256 by omega) (by omega)
theorem wk_anti (x y : Nat) (h1 : 1 ≤ x) (h : x ≤ y) (h2 : y < 2 ^ 256) : wrk y ≤ wrk x := by
  rw [wk_div x h1 (by omega), wk_div y (by omega) h2]
  exact Nat.div_le_div_left (by omega) (by omega)
theorem wk_lt (t : Nat) : wrk t < 2 ^ 256 := by
  unfold wrk
  split
  · decide
  · exact Nat.mod_lt _ (by omega)
/-- how many are no greater -/
def cntle (l : List Nat) (a : Nat) : Nat := (l.filter fun x => decide (x ≤ a)).length
theorem cntle_mono (l : List Nat) {a b : Nat} (h : a ≤ b) : cntle l a ≤ cntle l b := by
  unfold cntle
  induction l with
  | nil => simp
  | cons x l ih =>
    simp only [List.filter_cons]
    by_cases h1 : x ≤ a
    · rw [decide_eq_true h1, decide_eq_true (show x ≤ b by omega)]
      simpa using ih
    · rw [decide_eq_false h1]
      by_cases h2 : x ≤ b
      · rw [decide_eq_true h2]; simp; omega
      · rw [decide_eq_false h2]; simpa using ih
theorem cntle_step {l : List Nat} {k : Nat} (h : k < l.length) (a : Nat) : cntle (l.take (k + 1)) a = cntle (l.take k) a + if l.getD k 0 ≤ a then 1 else 0 := by
  unfold cntle
  have e : l.take (k + 1) = l.take k ++ [l.getD k 0] := by rw [List.take_add_one]; simp [List.getElem?_eq_getElem h]
  rw [e, List.filter_append, List.length_append]
  congr 1
  by_cases h1 : l.getD k 0 ≤ a
  · rw [if_pos h1]; simp only [List.filter_cons, decide_eq_true h1]; rfl
  · rw [if_neg h1]; simp only [List.filter_cons, decide_eq_false h1]; rfl
theorem cntle_le (l : List Nat) (k a : Nat) : cntle (l.take k) a ≤ k := by
  unfold cntle
  have h1 := List.length_filter_le (fun x => decide (x ≤ a)) (l.take k)
  have h2 := List.length_take_le k l
  omega
end Go.Proofs.Ytnbppbnjkmopeaa
