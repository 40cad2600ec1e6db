/- The short form of targets: what bits.Target, bits.Short, bits.Work answer, as natural numbers. No condition. bits.Target. No condition. bits.Short. No condition. -/
import Derived.Test.YtnbppbnjkmopeaaShPlain
import Derived.Test.YtnbppbnjkmopeaaNumAr
import Derived.Laws.BitsAllLaws
import Derived.Test.YtnbppbnjkmopeaaNumSh
namespace Go.Proofs.Ytnbppbnjkmopeaa

/-- what short bits mean -/
def tgt (b : Nat) : Nat × Bool :=
  if b % 8388608 = 0 then (0, false)
  else if b / 8388608 % 2 = 1 then (0, false)
  else if b / 16777216 ≤ 3 then (b % 8388608 / 2 ^ (8 * (3 - b / 16777216)), !decide (b % 8388608 / 2 ^ (8 * (3 - b / 16777216)) = 0))
  else if 256 < bitLen (b % 8388608) + 8 * (b / 16777216 - 3) then (0, false)
  else (b % 8388608 * 2 ^ (8 * (b / 16777216 - 3)), true)

theorem and_low (b : Nat) (h : b < 4294967296) : bits .and .u32 (b : Int) 8388607 = ((b % 8388608 : Nat) : Int) := by
  have := u32_and_nat b 8388607 h (by omega)
  rw [show ((8388607 : Nat) : Int) = 8388607 from rfl] at this
  rw [this, Nat.and_two_pow_sub_one_eq_mod b 23]
theorem and_top (b : Nat) (h : b < 4294967296) : bits .and .u32 (b : Int) 8388608 = ((b / 8388608 % 2 * 8388608 : Nat) : Int) := by
  have := u32_and_nat b 8388608 h (by omega)
  rw [show ((8388608 : Nat) : Int) = 8388608 from rfl] at this
  rw [this]
  congr 1
  apply Nat.eq_of_testBit_eq
  intro j
  rw [Nat.testBit_and, show (8388608 : Nat) = 2 ^ 23 from rfl, Nat.testBit_two_pow]
  have h2 : b / 2 ^ 23 % 2 = 0 ∨ b / 2 ^ 23 % 2 = 1 := by omega
  have h3 := Nat.testBit_eq_decide_div_mod_eq (x := b) (i := 23)
  by_cases hj : 23 = j
  · subst hj
    rw [h3]
    rcases h2 with e | e <;> rw [e] <;> first | rfl | (simp; done) | decide
  · rcases h2 with e | e <;> rw [e] <;> simp [hj]
    rw [show (8388608 : Nat) = 2 ^ 23 from rfl, Nat.testBit_two_pow]
    simpa using hj
/-- 'tgt' by its parts -/
theorem tgt_zero {b : Nat} (h : b % 8388608 = 0) : tgt b = (0, false) := by unfold tgt; rw [if_pos h]
theorem tgt_top {b : Nat} (h : b / 8388608 % 2 = 1) : tgt b = (0, false) := by unfold tgt; split <;> first | rfl | rw [if_pos h]
theorem tgt_small {b : Nat} (hm : b % 8388608 ≠ 0) (ht : b / 8388608 % 2 ≠ 1) (hs : b / 16777216 ≤ 3) :
    tgt b = (b % 8388608 / 2 ^ (8 * (3 - b / 16777216)), !decide (b % 8388608 / 2 ^ (8 * (3 - b / 16777216)) = 0)) := by unfold tgt; rw [if_neg hm, if_neg ht, if_pos hs]
theorem tgt_far {b : Nat} (hm : b % 8388608 ≠ 0) (ht : b / 8388608 % 2 ≠ 1) (hs : ¬ b / 16777216 ≤ 3) (hl : 256 < bitLen (b % 8388608) + 8 * (b / 16777216 - 3)) : tgt b = (0, false) := by
  unfold tgt; rw [if_neg hm, if_neg ht, if_neg hs, if_pos hl]
theorem tgt_fits {b : Nat} (hm : b % 8388608 ≠ 0) (ht : b / 8388608 % 2 ≠ 1) (hs : ¬ b / 16777216 ≤ 3) (hl : ¬ 256 < bitLen (b % 8388608) + 8 * (b / 16777216 - 3)) :
    tgt b = (b % 8388608 * 2 ^ (8 * (b / 16777216 - 3)), true) := by unfold tgt; rw [if_neg hm, if_neg ht, if_neg hs, if_neg hl]
theorem lt_two_bitLen (n : Nat) : n < 2 ^ bitLen n := (bitLen_spec n).1
theorem bitLen_pos {n : Nat} (h : n ≠ 0) : 0 < bitLen n := by unfold bitLen; rw [if_neg h]; omega
theorem shl_fits {m k : Nat} (h : bitLen m + k ≤ 256) : m * 2 ^ k < 2 ^ 256 := by
  have h1 := lt_two_bitLen m
  calc m * 2 ^ k < 2 ^ bitLen m * 2 ^ k := Nat.mul_lt_mul_of_pos_right h1 (Nat.two_pow_pos k)
    _ = 2 ^ (bitLen m + k) := (Nat.pow_add _ _ _).symm
    _ ≤ 2 ^ 256 := Nat.pow_le_pow_right (by omega) h
end Go.Proofs.Ytnbppbnjkmopeaa
namespace Go.Proofs.Ytnbppbnjkmopeaa
open Go.RowKit

set_option maxRecDepth 100000 in
set_option maxHeartbeats 1000000 in
theorem target_any (b : Nat) (hb : b < 4294967296) (w : World) :
    Calls Try.prog 28 #[.int .u32 b] w fun e w' => e = .returned (.tuple #[nv (tgt b).1, .bool (tgt b).2]) ∧ Below w.heap.size w w' := by
  have ha := and_low b hb
  have ht := and_top b hb
  obtain ⟨s, hs⟩ : ∃ s, s = b / 16777216 := ⟨_, rfl⟩
  obtain ⟨m, hm⟩ : ∃ m, m = b % 8388608 := ⟨_, rfl⟩
  obtain ⟨t, htt⟩ : ∃ t, t = b / 8388608 % 2 := ⟨_, rfl⟩
  have tz := @tgt_zero b
  have tt := @tgt_top b
  have ts := @tgt_small b
  have tf := @tgt_far b
  have tg := @tgt_fits b
  rw [← hs] at ts tf tg
  rw [← hm] at ha tz ts tf tg
  rw [← htt] at ht tt ts tf tg
  have es : (b : Int) / 16777216 = (s : Int) := by omega
  have hm8 : m < 8388608 := by omega
  have hs8 : s < 256 := by omega
  have ht2 : t < 2 := by omega
  have HTZ := Lib.hid tz; have HTT := Lib.hid tt; have HTS := Lib.hid ts; have HTF := Lib.hid tf; have HTG := Lib.hid tg
  clear hs hm htt tz tt ts tf tg hb
  generalize tgt b = T at *
  have B : Below w.heap.size w w := Below.refl _ _
  have K0 := Lib.hid (heap_new w zblk)
  go_enter Try.func28, Try.ntmps28
  by_cases h0 : m = 0
  · have e := HTZ.out h0
    subst e
    obtain ⟨K0_0, K0_1, K0_2, K0_3, K0_f, K0_z⟩ := cells4 K0.out
    subst h0
    go_wp2_with fail
    exact bodyPost_ret (v := .tuple #[.agg #[.int .u64 0, .int .u64 0, .int .u64 0, .int .u64 0], .bool false]) (by simp [results, Try.results28, go_sem]) rfl ⟨rfl, (by repeat' (first | (with_reducible exact Below.refl _ _) | (with_reducible assumption) | (with_reducible refine below_alloc ?_ _) | (with_reducible refine Below.drew ?_) | (with_reducible refine below_drewN ?_ _) | (with_reducible refine Below.setCell ?_ ?_ _) | go_size))⟩
  · by_cases h1 : t = 1
    · have e := HTT.out h1
      subst e
      subst h1
      go_wp2_with fail
      all_goals exact bodyPost_ret (v := .tuple #[.agg #[.int .u64 0, .int .u64 0, .int .u64 0, .int .u64 0], .bool false]) (by simp [results, Try.results28, go_sem]) rfl ⟨rfl, (by repeat' (first | (with_reducible exact Below.refl _ _) | (with_reducible assumption) | (with_reducible refine below_alloc ?_ _) | (with_reducible refine Below.drew ?_) | (with_reducible refine below_drewN ?_ _) | (with_reducible refine Below.setCell ?_ ?_ _) | go_size))⟩
    · obtain rfl : t = 0 := by omega
      have h0' : ¬ (m : Int) = 0 := by omega
      go_wp2_with fail
      refine (of_nat m _ (by omega)).mono ?_
      rintro e w1 ⟨rfl, hb1⟩
      have Ka := Lib.hid (keep_alloc (nblk m) (below_keep hb1 K0.out)); have Kb := Lib.hid (heap_new w1 (nblk m))
      have B' := below_next (w := w) (by repeat' (first | (with_reducible exact Below.refl _ _) | (with_reducible assumption) | (with_reducible refine below_alloc ?_ _) | (with_reducible refine Below.drew ?_) | (with_reducible refine below_drewN ?_ _) | (with_reducible refine Below.setCell ?_ ?_ _) | go_size)) hb1
      have hz := Lib.hid (show w.heap.size < w1.heap.size from block_lt (below_keep hb1 K0.out))
      clear hb1 B K0
      have B := B'; have K0 := Ka; have K1 := Kb
      clear B' Ka Kb
      by_cases h3 : s ≤ 3
      · have e := HTS.out h0 h1 h3
        have h3' : (s : Int) ≤ 3 := by omega
        obtain ⟨q, hq⟩ : ∃ q, q = m / 2 ^ (8 * (3 - s)) := ⟨_, rfl⟩
        have hql : q < 2 ^ 256 := by rw [hq]; exact Nat.lt_of_le_of_lt (Nat.div_le_self _ _) (by omega)
        have cs : Hid (∀ w, Calls Try.prog 82 #[nv m, .int .i64 (8 * (3 - (s : Int)))] w fun e w' => e = .returned (nv q) ∧ Below w.heap.size w w') := Lib.hid fun w => by
          have := shr_any m (by omega) (8 * (3 - (s : Int))) w
          unfold shrN at this
          rwa [if_neg (by omega), show (8 * (3 - (s : Int))).toNat = 8 * (3 - s) by omega, ← hq] at this
        rw [← hq] at e
        have HE := Lib.hid e
        have HQ := Lib.hid hql
        clear hq hql HTZ HTT HTS HTF HTG e
        go_wp2_with fail
        refine (cs.out _).mono ?_
        rintro e w2 ⟨rfl, hbw2⟩
        have K0' := Lib.hid (below_keep hbw2 (by first | exact K0.out | exact keep_alloc _ (K0.out) | exact keep_alloc _ (keep_alloc _ (K0.out)) | exact keep_alloc _ (keep_alloc _ (keep_alloc _ (K0.out))) | exact keep_alloc _ (keep_alloc _ (keep_alloc _ (keep_alloc _ (K0.out)))) | exact keep_alloc _ (keep_alloc _ (keep_alloc _ (keep_alloc _ (keep_alloc _ (K0.out)))))))
        have K1' := Lib.hid (below_keep hbw2 (by first | exact K1.out | exact keep_alloc _ (K1.out) | exact keep_alloc _ (keep_alloc _ (K1.out)) | exact keep_alloc _ (keep_alloc _ (keep_alloc _ (K1.out))) | exact keep_alloc _ (keep_alloc _ (keep_alloc _ (keep_alloc _ (K1.out)))) | exact keep_alloc _ (keep_alloc _ (keep_alloc _ (keep_alloc _ (keep_alloc _ (K1.out)))))))
        have B' := below_next (w := w) (by repeat' (first | (with_reducible exact Below.refl _ _) | (with_reducible assumption) | (with_reducible refine below_alloc ?_ _) | (with_reducible refine Below.drew ?_) | (with_reducible refine below_drewN ?_ _) | (with_reducible refine Below.setCell ?_ ?_ _) | go_size)) hbw2
        clear hbw2 B K0 K1
        have B := B'; clear B'
        have K0 := K0'; clear K0'
        obtain ⟨K0_0, K0_1, K0_2, K0_3, K0_f, K0_z⟩ := cells4 K0.out
        have K1 := K1'; clear K1'
        obtain ⟨K1_0, K1_1, K1_2, K1_3, K1_f, K1_z⟩ := cells4 K1.out
        clear cs
        go_wp2_with fail
        refine wp_abs (fun W => W.heap[w.heap.size]? = some zblk ∧ W.heap[w1.heap.size]? = some (nblk q) ∧ Below w.heap.size w W) ⟨(set4_other _ _ _ _ (by have := hz.out; omega)).trans K0.out, set4 _ _ _ _ K1.out, by have := hz.out; exact (by repeat' (first | (with_reducible exact Below.refl _ _) | (with_reducible assumption) | (with_reducible refine below_alloc ?_ _) | (with_reducible refine Below.drew ?_) | (with_reducible refine below_drewN ?_ _) | (with_reducible refine Below.setCell ?_ ?_ _) | go_size))⟩ ?_
        clear K0 K1 B K0_0 K0_1 K0_2 K0_3 K0_f K0_z K1_0 K1_1 K1_2 K1_3 K1_f K1_z
        rintro V ⟨k0, k1, B⟩
        have K0 := Lib.hid k0; have K1 := Lib.hid k1
        clear k0 k1
        obtain ⟨K1_0, K1_1, K1_2, K1_3, K1_f, K1_z⟩ := cells4 K1.out
        go_region_with ((go_at_call 53; refine (zero_any q HQ.out _).mono ?_; rintro e wx ⟨rfl, hbx⟩; have hSx := below_next (w := w) (by repeat' (first | (with_reducible exact Below.refl _ _) | (with_reducible assumption) | (with_reducible refine below_alloc ?_ _) | (with_reducible refine Below.drew ?_) | (with_reducible refine below_drewN ?_ _) | (with_reducible refine Below.setCell ?_ ?_ _) | go_size)) hbx; have hzx := hSx.size; have X0 := Lib.hid (below_keep hbx K0.out); have X1 := Lib.hid (below_keep hbx K1.out); obtain ⟨X0_0, X0_1, X0_2, X0_3, X0_f, X0_z⟩ := cells4 X0.out; obtain ⟨X1_0, X1_1, X1_2, X1_3, X1_f, X1_z⟩ := cells4 X1.out))
        all_goals
          go_wp2_with fail
          obtain ⟨r0, r1, r2, r3, rf, rz⟩ := cells4 (set4 (.int .u64 (lw q 0)) (.int .u64 (lw q 1)) (.int .u64 (lw q 2)) (.int .u64 (lw q 3)) X0.out)
          exact bodyPost_ret (v := .tuple #[nv q, .bool (!decide (q = 0))]) (by simp [results, Try.results28, go_sem, r0, r1, r2, r3]) rfl ⟨by rw [HE.out], (by repeat' (first | (with_reducible exact Below.refl _ _) | (with_reducible assumption) | (with_reducible refine below_alloc ?_ _) | (with_reducible refine Below.drew ?_) | (with_reducible refine below_drewN ?_ _) | (with_reducible refine Below.setCell ?_ ?_ _) | go_size))⟩
      · have h3' : ¬ (s : Int) ≤ 3 := by omega
        have HM := Lib.hid (show m < 2 ^ 256 by omega)
        have hbl := bitLen_num m (by omega)
        go_wp2_with fail
        refine (len_any m HM.out _).mono ?_
        rintro e w2 ⟨rfl, hbw2⟩
        have K0' := Lib.hid (below_keep hbw2 (by first | exact K0.out | exact keep_alloc _ (K0.out) | exact keep_alloc _ (keep_alloc _ (K0.out)) | exact keep_alloc _ (keep_alloc _ (keep_alloc _ (K0.out))) | exact keep_alloc _ (keep_alloc _ (keep_alloc _ (keep_alloc _ (K0.out)))) | exact keep_alloc _ (keep_alloc _ (keep_alloc _ (keep_alloc _ (keep_alloc _ (K0.out)))))))
        have K1' := Lib.hid (below_keep hbw2 (by first | exact K1.out | exact keep_alloc _ (K1.out) | exact keep_alloc _ (keep_alloc _ (K1.out)) | exact keep_alloc _ (keep_alloc _ (keep_alloc _ (K1.out))) | exact keep_alloc _ (keep_alloc _ (keep_alloc _ (keep_alloc _ (K1.out)))) | exact keep_alloc _ (keep_alloc _ (keep_alloc _ (keep_alloc _ (keep_alloc _ (K1.out)))))))
        have B' := below_next (w := w) (by repeat' (first | (with_reducible exact Below.refl _ _) | (with_reducible assumption) | (with_reducible refine below_alloc ?_ _) | (with_reducible refine Below.drew ?_) | (with_reducible refine below_drewN ?_ _) | (with_reducible refine Below.setCell ?_ ?_ _) | go_size)) hbw2
        clear hbw2 B K0 K1
        have B := B'; clear B'
        have K0 := K0'; clear K0'
        obtain ⟨K0_0, K0_1, K0_2, K0_3, K0_f, K0_z⟩ := cells4 K0.out
        have K1 := K1'; clear K1'
        obtain ⟨K1_0, K1_1, K1_2, K1_3, K1_f, K1_z⟩ := cells4 K1.out
        by_cases h5 : 256 < bitLen m + 8 * (s - 3)
        · have HE := Lib.hid (HTF.out h0 h1 h3 h5)
          clear HTZ HTT HTS HTF HTG
          have h5' : 256 < (bitLen m : Int) + 8 * ((s : Int) - 3) := by omega
          clear h5
          go_wp2_with fail
          obtain ⟨r0, r1, r2, r3, rf, rz⟩ := cells4 (set4 (.int .u64 0) (.int .u64 0) (.int .u64 0) (.int .u64 0) K0.out)
          exact bodyPost_ret (v := .tuple #[.agg #[.int .u64 0, .int .u64 0, .int .u64 0, .int .u64 0], .bool false]) (by simp [results, Try.results28, go_sem, r0, r1, r2, r3]) rfl ⟨by rw [HE.out]; rfl, (by repeat' (first | (with_reducible exact Below.refl _ _) | (with_reducible assumption) | (with_reducible refine below_alloc ?_ _) | (with_reducible refine Below.drew ?_) | (with_reducible refine below_drewN ?_ _) | (with_reducible refine Below.setCell ?_ ?_ _) | go_size))⟩
        · have e := HTG.out h0 h1 h3 h5
          have hp := bitLen_pos h0
          have hf := shl_fits (m := m) (k := 8 * (s - 3)) (by omega)
          clear HTZ HTT HTS HTF HTG
          have h5' : ¬ 256 < (bitLen m : Int) + 8 * ((s : Int) - 3) := by omega
          obtain ⟨q, hq⟩ : ∃ q, q = m * 2 ^ (8 * (s - 3)) := ⟨_, rfl⟩
          have cs : Hid (∀ w, Calls Try.prog 83 #[nv m, .int .i64 (8 * ((s : Int) - 3))] w fun e w' => e = .returned (nv q) ∧ Below w.heap.size w w') := Lib.hid fun w => by
            have := shl_any m (by omega) (8 * ((s : Int) - 3)) w
            unfold shlN at this
            rwa [if_neg (by omega), show (8 * ((s : Int) - 3)).toNat = 8 * (s - 3) by omega, Nat.mod_eq_of_lt hf, ← hq] at this
          rw [← hq] at e
          have HE := Lib.hid e
          clear hq hf hp h5 e
          go_wp2_with fail
          refine (cs.out _).mono ?_
          rintro e w3 ⟨rfl, hbw3⟩
          have K0' := Lib.hid (below_keep hbw3 (by first | exact K0.out | exact keep_alloc _ (K0.out) | exact keep_alloc _ (keep_alloc _ (K0.out)) | exact keep_alloc _ (keep_alloc _ (keep_alloc _ (K0.out))) | exact keep_alloc _ (keep_alloc _ (keep_alloc _ (keep_alloc _ (K0.out)))) | exact keep_alloc _ (keep_alloc _ (keep_alloc _ (keep_alloc _ (keep_alloc _ (K0.out)))))))
          have K1' := Lib.hid (below_keep hbw3 (by first | exact K1.out | exact keep_alloc _ (K1.out) | exact keep_alloc _ (keep_alloc _ (K1.out)) | exact keep_alloc _ (keep_alloc _ (keep_alloc _ (K1.out))) | exact keep_alloc _ (keep_alloc _ (keep_alloc _ (keep_alloc _ (K1.out)))) | exact keep_alloc _ (keep_alloc _ (keep_alloc _ (keep_alloc _ (keep_alloc _ (K1.out)))))))
          have B' := below_next (w := w) (by repeat' (first | (with_reducible exact Below.refl _ _) | (with_reducible assumption) | (with_reducible refine below_alloc ?_ _) | (with_reducible refine Below.drew ?_) | (with_reducible refine below_drewN ?_ _) | (with_reducible refine Below.setCell ?_ ?_ _) | go_size)) hbw3
          clear hbw3 B K0 K1 K0_0 K0_1 K0_2 K0_3 K0_f K0_z K1_0 K1_1 K1_2 K1_3 K1_f K1_z
          have B := B'; clear B'
          have K0 := K0'; clear K0'
          obtain ⟨K0_0, K0_1, K0_2, K0_3, K0_f, K0_z⟩ := cells4 K0.out
          have K1 := K1'; clear K1'
          obtain ⟨K1_0, K1_1, K1_2, K1_3, K1_f, K1_z⟩ := cells4 K1.out
          go_wp2_with fail
          obtain ⟨r0, r1, r2, r3, rf, rz⟩ := cells4 (set4 (.int .u64 (lw q 0)) (.int .u64 (lw q 1)) (.int .u64 (lw q 2)) (.int .u64 (lw q 3)) K0.out)
          exact bodyPost_ret (v := .tuple #[nv q, .bool true]) (by simp [results, Try.results28, go_sem, r0, r1, r2, r3]) rfl ⟨by rw [HE.out], (by repeat' (first | (with_reducible exact Below.refl _ _) | (with_reducible assumption) | (with_reducible refine below_alloc ?_ _) | (with_reducible refine Below.drew ?_) | (with_reducible refine below_drewN ?_ _) | (with_reducible refine Below.setCell ?_ ?_ _) | go_size))⟩
end Go.Proofs.Ytnbppbnjkmopeaa
namespace Go.Proofs.Ytnbppbnjkmopeaa
open Go.RowKit

/-- the three highest bytes, ahead of the turn -/
def shw (n : Nat) : Nat := if (bitLen n + 7) / 8 ≤ 3 then n * 2 ^ (8 * (3 - (bitLen n + 7) / 8)) else n / 2 ^ (8 * ((bitLen n + 7) / 8 - 3))
/-- the short bits of a number -/
def sht (n : Nat) : Nat := if shw n / 8388608 % 2 = 1 then ((bitLen n + 7) / 8 + 1) * 16777216 + shw n / 256 else (bitLen n + 7) / 8 * 16777216 + shw n

theorem shw_lt (n : Nat) : shw n < 16777216 := by
  have h := lt_two_bitLen n
  unfold shw
  generalize bitLen n = L at *
  split
  · calc n * 2 ^ (8 * (3 - (L + 7) / 8)) < 2 ^ L * 2 ^ (8 * (3 - (L + 7) / 8)) := Nat.mul_lt_mul_of_pos_right h (Nat.two_pow_pos _)
      _ = 2 ^ (L + 8 * (3 - (L + 7) / 8)) := (Nat.pow_add _ _ _).symm
      _ ≤ 2 ^ 24 := Nat.pow_le_pow_right (by omega) (by omega)
  · rw [Nat.div_lt_iff_lt_mul (Nat.two_pow_pos _)]
    calc n < 2 ^ L := h
      _ ≤ 2 ^ (24 + 8 * ((L + 7) / 8 - 3)) := Nat.pow_le_pow_right (by omega) (by omega)
      _ = 16777216 * 2 ^ (8 * ((L + 7) / 8 - 3)) := by rw [Nat.pow_add]

theorem and_top64 (b : Nat) (h : b < 16777216) : bits .and .u64 (b : Int) 8388608 = ((b / 8388608 % 2 * 8388608 : Nat) : Int) := by
  have h1 := u64_and_nat b 8388608 (by omega) (by omega)
  have h2 := u32_and_nat b 8388608 (by omega) (by omega)
  rw [show ((8388608 : Nat) : Int) = 8388608 from rfl] at h1 h2
  rw [h1, ← h2, and_top b (by omega)]
theorem or_join (z m : Nat) (hz : z < 256) (hm : m < 16777216) : bits .or .u32 ((z * 16777216 : Nat) : Int) (m : Int) = ((z * 16777216 + m : Nat) : Int) := by
  rw [u32_or_nat _ _ (by omega) (by omega), nat_join 24 _ _ (by omega) hm]

theorem or_join0 (z m : Nat) (hz : z < 256) (hm : m < 16777216) : bits .or .u32 ((z : Int) * 16777216) (m : Int) = ((z * 16777216 + m : Nat) : Int) := by
  rw [← or_join z m hz hm, Int.natCast_mul]; rfl
theorem or_join1 (z m : Nat) (hz : z < 255) (hm : m < 16777216) : bits .or .u32 (((z : Int) + 1) * 16777216) (m : Int) = (((z + 1) * 16777216 + m : Nat) : Int) := by
  rw [← or_join0 (z + 1) m (by omega) hm, Int.natCast_add]; rfl
theorem lw_small (n : Nat) (h : n < 18446744073709551616) : lw n 0 = (n : Int) := by rw [lw_at0, Nat.mod_eq_of_lt h]

theorem run_index_num0 (n : Nat) (w : World) : (Instr.index 47 (nv n) (.int .i64 0)).run Try.prog w = .ok (.int .u64 (lw n 0)) w := by
  have hu : Try.prog.underlying 47 = some (.array 4 45) := by kernel_rfl
  have he : Try.prog.underlying 45 = some (.int .u64) := by kernel_rfl
  have hs : (sizeOf 45).run Try.prog w = .ok 1 w := by kernel_rfl
  have hc : (0 : Int) ≤ 0 ∧ (0 : Int) < ((4 : Nat) : Int) := by omega
  simp only [Instr.index, asIntOf, Sem.run_bind, Sem.run_pure, Result.andThen_ok, run_underlying hu, hc, and_self, if_true, hs, Nat.mul_one]
  simp [part, isAgg, run_underlying he]

set_option maxRecDepth 100000 in
set_option maxHeartbeats 1000000 in
theorem short_any (n : Nat) (hn : n < 2 ^ 256) (w : World) :
    Calls Try.prog 122 #[nv n] w fun e w' => e = .returned (.int .u32 (sht n)) ∧ Below w.heap.size w w' := by
  have HN := Lib.hid hn
  have hL := bitLen_num n hn
  have h8 := shw_lt n
  have hlt := lt_two_bitLen n
  have ht : sht n = if shw n / 8388608 % 2 = 1 then ((bitLen n + 7) / 8 + 1) * 16777216 + shw n / 256 else (bitLen n + 7) / 8 * 16777216 + shw n := rfl
  have hw : shw n = if (bitLen n + 7) / 8 ≤ 3 then n * 2 ^ (8 * (3 - (bitLen n + 7) / 8)) else n / 2 ^ (8 * ((bitLen n + 7) / 8 - 3)) := rfl
  generalize sht n = S at *
  generalize shw n = W at *
  have cl := Lib.hid fun w => len_any n hn w
  generalize bitLen n = L at *
  obtain ⟨z, hz⟩ : ∃ z, z = (L + 7) / 8 := ⟨_, rfl⟩
  rw [← hz] at ht hw
  have es : ((L : Int) + 7) / 8 = (z : Int) := by omega
  have hz2 : z < 33 := by omega
  have HZ := Lib.hid hz; have HT := Lib.hid ht; have HW := Lib.hid hw; have HLT := Lib.hid hlt
  clear hn hlt ht hw hz
  have B : Below w.heap.size w w := Below.refl _ _
  have K0 := Lib.hid (heap_new w (nblk n))
  go_enter Try.func122, Try.ntmps122
  go_wp2_with fail
  refine (cl.out _).mono ?_
  rintro e w1 ⟨rfl, hbw1⟩
  have K0' := Lib.hid (below_keep hbw1 (by first | exact K0.out | exact keep_alloc _ (K0.out) | exact keep_alloc _ (keep_alloc _ (K0.out)) | exact keep_alloc _ (keep_alloc _ (keep_alloc _ (K0.out))) | exact keep_alloc _ (keep_alloc _ (keep_alloc _ (keep_alloc _ (K0.out)))) | exact keep_alloc _ (keep_alloc _ (keep_alloc _ (keep_alloc _ (keep_alloc _ (K0.out)))))))
  have B' := below_next (w := w) (by repeat' (first | (with_reducible exact Below.refl _ _) | (with_reducible assumption) | (with_reducible refine below_alloc ?_ _) | (with_reducible refine Below.drew ?_) | (with_reducible refine below_drewN ?_ _) | (with_reducible refine Below.setCell ?_ ?_ _) | go_size)) hbw1
  clear hbw1 B K0
  have B := B'; clear B'
  have K0 := K0'; clear K0'
  obtain ⟨K0_0, K0_1, K0_2, K0_3, K0_f, K0_z⟩ := cells4 K0.out
  by_cases h3 : z ≤ 3
  · have h3' : (z : Int) ≤ 3 := by omega
    have ew : IntKind.u64.wrap (lw n 0 * 2 ^ (8 * (3 - z))) = (W : Int) := by
      have hw := HW.out
      rw [if_pos h3] at hw
      have hn24 : n < 16777216 := Nat.lt_of_lt_of_le HLT.out (by rw [show (16777216 : Nat) = 2 ^ 24 from rfl]; exact Nat.pow_le_pow_right (by omega) (by have := HZ.out; omega))
      rw [lw_small n (by omega), wrap_mul, ← hw, Nat.mod_eq_of_lt (by omega)]
    clear h3
    by_cases h1 : W / 8388608 % 2 = 1
    · have hv : (W : Int) / 256 = ((W / 256 : Nat) : Int) := by omega
      have ha : bits .and .u64 (W : Int) 8388608 = 8388608 := by rw [and_top64 W h8, h1]; rfl
      have hV : W / 256 < 16777216 := by omega
      have hor := or_join1 z (W / 256) (by omega) hV
      have hS : S = (z + 1) * 16777216 + W / 256 := by rw [HT.out, if_pos h1]
      rw [← hS] at hor
      generalize W / 256 = V at *
      clear hS h1
      go_wp2_with fail
      go_ret
      refine ⟨?_, (by repeat' (first | (with_reducible exact Below.refl _ _) | (with_reducible assumption) | (with_reducible refine below_alloc ?_ _) | (with_reducible refine Below.drew ?_) | (with_reducible refine below_drewN ?_ _) | (with_reducible refine Below.setCell ?_ ?_ _) | go_size))⟩
      first | rfl | (rw [show (V : Int) % 4294967296 = (V : Int) by omega, hor])
    · have ha : bits .and .u64 (W : Int) 8388608 = 0 := by rw [and_top64 W h8, show W / 8388608 % 2 = 0 by omega]; rfl
      have hor := or_join0 z W (by omega) h8
      have hS : S = z * 16777216 + W := by rw [HT.out, if_neg h1]
      rw [← hS] at hor
      clear hS h1
      go_wp2_with fail
      go_ret
      refine ⟨?_, (by repeat' (first | (with_reducible exact Below.refl _ _) | (with_reducible assumption) | (with_reducible refine below_alloc ?_ _) | (with_reducible refine Below.drew ?_) | (with_reducible refine below_drewN ?_ _) | (with_reducible refine Below.setCell ?_ ?_ _) | go_size))⟩
      first | rfl | (rw [show (W : Int) % 4294967296 = (W : Int) by omega, hor])
  · have h3' : ¬ (z : Int) ≤ 3 := by omega
    have cs : Hid (∀ w, Calls Try.prog 82 #[nv n, .int .i64 (8 * ((z : Int) - 3))] w fun e w' => e = .returned (nv W) ∧ Below w.heap.size w w') := Lib.hid fun w => by
      have := shr_any n HN.out (8 * ((z : Int) - 3)) w
      unfold shrN at this
      have hw := HW.out
      rw [if_neg h3] at hw
      rwa [if_neg (by omega), show (8 * ((z : Int) - 3)).toNat = 8 * (z - 3) by omega, ← hw] at this
    have e0 := lw_small W (by omega)
    have hib : ∀ W', (Instr.index 47 (nv W) (.int .i64 0)).run Try.prog W' = .ok (.int .u64 (W : Int)) W' := fun W' => by rw [← e0]; exact run_index_num0 W W'
    clear h3
    go_wp2_with fail
    refine (cs.out _).mono ?_
    rintro e w2 ⟨rfl, hbw2⟩
    have K0' := Lib.hid (below_keep hbw2 (by first | exact K0.out | exact keep_alloc _ (K0.out) | exact keep_alloc _ (keep_alloc _ (K0.out)) | exact keep_alloc _ (keep_alloc _ (keep_alloc _ (K0.out))) | exact keep_alloc _ (keep_alloc _ (keep_alloc _ (keep_alloc _ (K0.out)))) | exact keep_alloc _ (keep_alloc _ (keep_alloc _ (keep_alloc _ (keep_alloc _ (K0.out)))))))
    have B' := below_next (w := w) (by repeat' (first | (with_reducible exact Below.refl _ _) | (with_reducible assumption) | (with_reducible refine below_alloc ?_ _) | (with_reducible refine Below.drew ?_) | (with_reducible refine below_drewN ?_ _) | (with_reducible refine Below.setCell ?_ ?_ _) | go_size)) hbw2
    clear hbw2 B K0 K0_0 K0_1 K0_2 K0_3 K0_f K0_z
    have B := B'; clear B'
    have K0 := K0'; clear K0'
    obtain ⟨K0_0, K0_1, K0_2, K0_3, K0_f, K0_z⟩ := cells4 K0.out
    clear cs
    by_cases h1 : W / 8388608 % 2 = 1
    · have hv : (W : Int) / 256 = ((W / 256 : Nat) : Int) := by omega
      have ha : bits .and .u64 (W : Int) 8388608 = 8388608 := by rw [and_top64 W h8, h1]; rfl
      have hV : W / 256 < 16777216 := by omega
      have hor := or_join1 z (W / 256) (by omega) hV
      have hS : S = (z + 1) * 16777216 + W / 256 := by rw [HT.out, if_pos h1]
      rw [← hS] at hor
      generalize W / 256 = V at *
      clear hS h1
      go_wp2_with fail
      go_ret
      refine ⟨?_, (by repeat' (first | (with_reducible exact Below.refl _ _) | (with_reducible assumption) | (with_reducible refine below_alloc ?_ _) | (with_reducible refine Below.drew ?_) | (with_reducible refine below_drewN ?_ _) | (with_reducible refine Below.setCell ?_ ?_ _) | go_size))⟩
      first | rfl | (rw [show (V : Int) % 4294967296 = (V : Int) by omega, hor])
    · have ha : bits .and .u64 (W : Int) 8388608 = 0 := by rw [and_top64 W h8, show W / 8388608 % 2 = 0 by omega]; rfl
      have hor := or_join0 z W (by omega) h8
      have hS : S = z * 16777216 + W := by rw [HT.out, if_neg h1]
      rw [← hS] at hor
      clear hS h1
      go_wp2_with fail
      go_ret
      refine ⟨?_, (by repeat' (first | (with_reducible exact Below.refl _ _) | (with_reducible assumption) | (with_reducible refine below_alloc ?_ _) | (with_reducible refine Below.drew ?_) | (with_reducible refine below_drewN ?_ _) | (with_reducible refine Below.setCell ?_ ?_ _) | go_size))⟩
      first | rfl | (rw [show (W : Int) % 4294967296 = (W : Int) by omega, hor])
end Go.Proofs.Ytnbppbnjkmopeaa
