/- The short form of targets: what bits.Target, bits.Short, bits.Work answer, as natural numbers. No condition. -/
import Derived.Test.YtnbppbnjkmopeaaShPlain
import Derived.Test.YtnbppbnjkmopeaaNumDiv
import Derived.Laws.BitsAllLaws
namespace Go.Proofs.Ytnbppbnjkmopeaa

/-- what short bits mean -/
def tgt (b : Nat) : Nat × Bool :=
  if b % 8388608 = 0 then (0, false)
  else if b / 8388608 % 2 = 1 then (0, false)
  else if b / 16777216 ≤ 3 then (b % 8388608 / 2 ^ (8 * (3 - b / 16777216)), !decide (b % 8388608 / 2 ^ (8 * (3 - b / 16777216)) = 0))
  else if 256 < bitLen (b % 8388608) + 8 * (b / 16777216 - 3) then (0, false)
  else (b % 8388608 * 2 ^ (8 * (b / 16777216 - 3)), true)

theorem and_low (b : Nat) (h : b < 4294967296) : bits .and .u32 (b : Int) 8388607 = ((b % 8388608 : Nat) : Int) := by
  have := u32_and_nat b 8388607 h (by omega)
  rw [show ((8388607 : Nat) : Int) = 8388607 from rfl] at this
  rw [this, Nat.and_two_pow_sub_one_eq_mod b 23]
theorem and_top (b : Nat) (h : b < 4294967296) : bits .and .u32 (b : Int) 8388608 = ((b / 8388608 % 2 * 8388608 : Nat) : Int) := by
  have := u32_and_nat b 8388608 h (by omega)
  rw [show ((8388608 : Nat) : Int) = 8388608 from rfl] at this
  rw [this]
  congr 1
  apply Nat.eq_of_testBit_eq
  intro j
  rw [Nat.testBit_and, show (8388608 : Nat) = 2 ^ 23 from rfl, Nat.testBit_two_pow]
  have h2 : b / 2 ^ 23 % 2 = 0 ∨ b / 2 ^ 23 % 2 = 1 := by omega
  have h3 := Nat.testBit_eq_decide_div_mod_eq (x := b) (i := 23)
  by_cases hj : 23 = j
  · subst hj
    rw [h3]
    rcases h2 with e | e <;> rw [e] <;> first | rfl | (simp; done) | decide
  · rcases h2 with e | e <;> rw [e] <;> simp [hj]
    rw [show (8388608 : Nat) = 2 ^ 23 from rfl, Nat.testBit_two_pow]
    simpa using hj
/-- 'tgt' by its parts -/
theorem tgt_zero {b : Nat} (h : b % 8388608 = 0) : tgt b = (0, false) := by unfold tgt; rw [if_pos h]
theorem tgt_top {b : Nat} (h : b / 8388608 % 2 = 1) : tgt b = (0, false) := by unfold tgt; split <;> first | rfl | rw [if_pos h]
theorem tgt_small {b : Nat} (hm : b % 8388608 ≠ 0) (ht : b / 8388608 % 2 ≠ 1) (hs : b / 16777216 ≤ 3) :
    tgt b = (b % 8388608 / 2 ^ (8 * (3 - b / 16777216)), !decide (b % 8388608 / 2 ^ (8 * (3 - b / 16777216)) = 0)) := by unfold tgt; rw [if_neg hm, if_neg ht, if_pos hs]
theorem tgt_far {b : Nat} (hm : b % 8388608 ≠ 0) (ht : b / 8388608 % 2 ≠ 1) (hs : ¬ b / 16777216 ≤ 3) (hl : 256 < bitLen (b % 8388608) + 8 * (b / 16777216 - 3)) : tgt b = (0, false) := by
  unfold tgt; rw [if_neg hm, if_neg ht, if_neg hs, if_pos hl]
theorem tgt_fits {b : Nat} (hm : b % 8388608 ≠ 0) (ht : b / 8388608 % 2 ≠ 1) (hs : ¬ b / 16777216 ≤ 3) (hl : ¬ 256 < bitLen (b % 8388608) + 8 * (b / 16777216 - 3)) :
    tgt b = (b % 8388608 * 2 ^ (8 * (b / 16777216 - 3)), true) := by unfold tgt; rw [if_neg hm, if_neg ht, if_neg hs, if_neg hl]
theorem lt_two_bitLen (n : Nat) : n < 2 ^ bitLen n := (bitLen_spec n).1
theorem bitLen_pos {n : Nat} (h : n ≠ 0) : 0 < bitLen n := by unfold bitLen; rw [if_neg h]; omega
theorem shl_fits {m k : Nat} (h : bitLen m + k ≤ 256) : m * 2 ^ k < 2 ^ 256 := by
  have h1 := lt_two_bitLen m
  calc m * 2 ^ k < 2 ^ bitLen m * 2 ^ k := Nat.mul_lt_mul_of_pos_right h1 (Nat.two_pow_pos k)
    _ = 2 ^ (bitLen m + k) := (Nat.pow_add _ _ _).symm
    _ ≤ 2 ^ 256 := Nat.pow_le_pow_right (by omega) h
end Go.Proofs.Ytnbppbnjkmopeaa
