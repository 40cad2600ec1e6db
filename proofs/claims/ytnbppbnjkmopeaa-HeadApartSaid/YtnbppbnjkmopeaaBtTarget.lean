/- bits.Target. No condition. -/
import Derived.Test.YtnbppbnjkmopeaaBtPlain
import Derived.Test.YtnbppbnjkmopeaaNumTwo
import Derived.Test.YtnbppbnjkmopeaaNumSh
namespace Go.Proofs.Ytnbppbnjkmopeaa
open Go.RowKit

set_option maxRecDepth 100000 in
set_option maxHeartbeats 1000000 in
theorem target_any (b : Nat) (hb : b < 4294967296) (w : World) :
    Calls Try.prog 28 #[.int .u32 b] w fun e w' => e = .returned (.tuple #[nv (tgt b).1, .bool (tgt b).2]) ∧ Below w.heap.size w w' := by
  have ha := and_low b hb
  have ht := and_top b hb
  obtain ⟨s, hs⟩ : ∃ s, s = b / 16777216 := ⟨_, rfl⟩
  obtain ⟨m, hm⟩ : ∃ m, m = b % 8388608 := ⟨_, rfl⟩
  obtain ⟨t, htt⟩ : ∃ t, t = b / 8388608 % 2 := ⟨_, rfl⟩
  have tz := @tgt_zero b
  have tt := @tgt_top b
  have ts := @tgt_small b
  have tf := @tgt_far b
  have tg := @tgt_fits b
  rw [← hs] at ts tf tg
  rw [← hm] at ha tz ts tf tg
  rw [← htt] at ht tt ts tf tg
  have es : (b : Int) / 16777216 = (s : Int) := by omega
  have hm8 : m < 8388608 := by omega
  have hs8 : s < 256 := by omega
  have ht2 : t < 2 := by omega
  have HTZ := Lib.hid tz; have HTT := Lib.hid tt; have HTS := Lib.hid ts; have HTF := Lib.hid tf; have HTG := Lib.hid tg
  clear hs hm htt tz tt ts tf tg hb
  generalize tgt b = T at *
  have B : Below w.heap.size w w := Below.refl _ _
  have K0 := Lib.hid (heap_new w zblk)
  go_enter Try.func28, Try.ntmps28
  by_cases h0 : m = 0
  · have e := HTZ.out h0
    subst e
    obtain ⟨K0_0, K0_1, K0_2, K0_3, K0_f, K0_z⟩ := cells4 K0.out
    subst h0
    go_wp2_with fail
    exact bodyPost_ret (v := .tuple #[.agg #[.int .u64 0, .int .u64 0, .int .u64 0, .int .u64 0], .bool false]) (by simp [results, Try.results28, go_sem]) rfl ⟨rfl, (by repeat' (first | (with_reducible exact Below.refl _ _) | (with_reducible assumption) | (with_reducible refine below_alloc ?_ _) | (with_reducible refine Below.drew ?_) | (with_reducible refine below_drewN ?_ _) | (with_reducible refine Below.setCell ?_ ?_ _) | go_size))⟩
  · by_cases h1 : t = 1
    · have e := HTT.out h1
      subst e
      subst h1
      go_wp2_with fail
      all_goals exact bodyPost_ret (v := .tuple #[.agg #[.int .u64 0, .int .u64 0, .int .u64 0, .int .u64 0], .bool false]) (by simp [results, Try.results28, go_sem]) rfl ⟨rfl, (by repeat' (first | (with_reducible exact Below.refl _ _) | (with_reducible assumption) | (with_reducible refine below_alloc ?_ _) | (with_reducible refine Below.drew ?_) | (with_reducible refine below_drewN ?_ _) | (with_reducible refine Below.setCell ?_ ?_ _) | go_size))⟩
    · obtain rfl : t = 0 := by omega
      have h0' : ¬ (m : Int) = 0 := by omega
      go_wp2_with fail
      refine (of_nat m _ (by omega)).mono ?_
      rintro e w1 ⟨rfl, hb1⟩
      have Ka := Lib.hid (keep_alloc (nblk m) (below_keep hb1 K0.out)); have Kb := Lib.hid (heap_new w1 (nblk m))
      have B' := below_next (w := w) (by repeat' (first | (with_reducible exact Below.refl _ _) | (with_reducible assumption) | (with_reducible refine below_alloc ?_ _) | (with_reducible refine Below.drew ?_) | (with_reducible refine below_drewN ?_ _) | (with_reducible refine Below.setCell ?_ ?_ _) | go_size)) hb1
      have hz := Lib.hid (show w.heap.size < w1.heap.size from block_lt (below_keep hb1 K0.out))
      clear hb1 B K0
      have B := B'; have K0 := Ka; have K1 := Kb
      clear B' Ka Kb
      by_cases h3 : s ≤ 3
      · have e := HTS.out h0 h1 h3
        have h3' : (s : Int) ≤ 3 := by omega
        obtain ⟨q, hq⟩ : ∃ q, q = m / 2 ^ (8 * (3 - s)) := ⟨_, rfl⟩
        have hql : q < 2 ^ 256 := by rw [hq]; exact Nat.lt_of_le_of_lt (Nat.div_le_self _ _) (by omega)
        have cs : Hid (∀ w, Calls Try.prog 82 #[nv m, .int .i64 (8 * (3 - (s : Int)))] w fun e w' => e = .returned (nv q) ∧ Below w.heap.size w w') := Lib.hid fun w => by
          have := shr_any m (by omega) (8 * (3 - (s : Int))) w
          unfold shrN at this
          rwa [if_neg (by omega), show (8 * (3 - (s : Int))).toNat = 8 * (3 - s) by omega, ← hq] at this
        rw [← hq] at e
        have HE := Lib.hid e
        have HQ := Lib.hid hql
        clear hq hql HTZ HTT HTS HTF HTG e
        go_wp2_with fail
        refine (cs.out _).mono ?_
        rintro e w2 ⟨rfl, hbw2⟩
        have K0' := Lib.hid (below_keep hbw2 (by first | exact K0.out | exact keep_alloc _ (K0.out) | exact keep_alloc _ (keep_alloc _ (K0.out)) | exact keep_alloc _ (keep_alloc _ (keep_alloc _ (K0.out))) | exact keep_alloc _ (keep_alloc _ (keep_alloc _ (keep_alloc _ (K0.out)))) | exact keep_alloc _ (keep_alloc _ (keep_alloc _ (keep_alloc _ (keep_alloc _ (K0.out)))))))
        have K1' := Lib.hid (below_keep hbw2 (by first | exact K1.out | exact keep_alloc _ (K1.out) | exact keep_alloc _ (keep_alloc _ (K1.out)) | exact keep_alloc _ (keep_alloc _ (keep_alloc _ (K1.out))) | exact keep_alloc _ (keep_alloc _ (keep_alloc _ (keep_alloc _ (K1.out)))) | exact keep_alloc _ (keep_alloc _ (keep_alloc _ (keep_alloc _ (keep_alloc _ (K1.out)))))))
        have B' := below_next (w := w) (by repeat' (first | (with_reducible exact Below.refl _ _) | (with_reducible assumption) | (with_reducible refine below_alloc ?_ _) | (with_reducible refine Below.drew ?_) | (with_reducible refine below_drewN ?_ _) | (with_reducible refine Below.setCell ?_ ?_ _) | go_size)) hbw2
        clear hbw2 B K0 K1
        have B := B'; clear B'
        have K0 := K0'; clear K0'
        obtain ⟨K0_0, K0_1, K0_2, K0_3, K0_f, K0_z⟩ := cells4 K0.out
        have K1 := K1'; clear K1'
        obtain ⟨K1_0, K1_1, K1_2, K1_3, K1_f, K1_z⟩ := cells4 K1.out
        clear cs
        go_wp2_with fail
        refine wp_abs (fun W => W.heap[w.heap.size]? = some zblk ∧ W.heap[w1.heap.size]? = some (nblk q) ∧ Below w.heap.size w W) ⟨(set4_other _ _ _ _ (by have := hz.out; omega)).trans K0.out, set4 _ _ _ _ K1.out, by have := hz.out; exact (by repeat' (first | (with_reducible exact Below.refl _ _) | (with_reducible assumption) | (with_reducible refine below_alloc ?_ _) | (with_reducible refine Below.drew ?_) | (with_reducible refine below_drewN ?_ _) | (with_reducible refine Below.setCell ?_ ?_ _) | go_size))⟩ ?_
        clear K0 K1 B K0_0 K0_1 K0_2 K0_3 K0_f K0_z K1_0 K1_1 K1_2 K1_3 K1_f K1_z
        rintro V ⟨k0, k1, B⟩
        have K0 := Lib.hid k0; have K1 := Lib.hid k1
        clear k0 k1
        obtain ⟨K1_0, K1_1, K1_2, K1_3, K1_f, K1_z⟩ := cells4 K1.out
        go_region_with ((go_at_call 53; refine (zero_any q HQ.out _).mono ?_; rintro e wx ⟨rfl, hbx⟩; have hSx := below_next (w := w) (by repeat' (first | (with_reducible exact Below.refl _ _) | (with_reducible assumption) | (with_reducible refine below_alloc ?_ _) | (with_reducible refine Below.drew ?_) | (with_reducible refine below_drewN ?_ _) | (with_reducible refine Below.setCell ?_ ?_ _) | go_size)) hbx; have hzx := hSx.size; have X0 := Lib.hid (below_keep hbx K0.out); have X1 := Lib.hid (below_keep hbx K1.out); obtain ⟨X0_0, X0_1, X0_2, X0_3, X0_f, X0_z⟩ := cells4 X0.out; obtain ⟨X1_0, X1_1, X1_2, X1_3, X1_f, X1_z⟩ := cells4 X1.out))
        all_goals
          go_wp2_with fail
          obtain ⟨r0, r1, r2, r3, rf, rz⟩ := cells4 (set4 (.int .u64 (lw q 0)) (.int .u64 (lw q 1)) (.int .u64 (lw q 2)) (.int .u64 (lw q 3)) X0.out)
          exact bodyPost_ret (v := .tuple #[nv q, .bool (!decide (q = 0))]) (by simp [results, Try.results28, go_sem, r0, r1, r2, r3]) rfl ⟨by rw [HE.out], (by repeat' (first | (with_reducible exact Below.refl _ _) | (with_reducible assumption) | (with_reducible refine below_alloc ?_ _) | (with_reducible refine Below.drew ?_) | (with_reducible refine below_drewN ?_ _) | (with_reducible refine Below.setCell ?_ ?_ _) | go_size))⟩
      · have h3' : ¬ (s : Int) ≤ 3 := by omega
        have HM := Lib.hid (show m < 2 ^ 256 by omega)
        have hbl := bitLen_num m (by omega)
        go_wp2_with fail
        refine (len_any m HM.out _).mono ?_
        rintro e w2 ⟨rfl, hbw2⟩
        have K0' := Lib.hid (below_keep hbw2 (by first | exact K0.out | exact keep_alloc _ (K0.out) | exact keep_alloc _ (keep_alloc _ (K0.out)) | exact keep_alloc _ (keep_alloc _ (keep_alloc _ (K0.out))) | exact keep_alloc _ (keep_alloc _ (keep_alloc _ (keep_alloc _ (K0.out)))) | exact keep_alloc _ (keep_alloc _ (keep_alloc _ (keep_alloc _ (keep_alloc _ (K0.out)))))))
        have K1' := Lib.hid (below_keep hbw2 (by first | exact K1.out | exact keep_alloc _ (K1.out) | exact keep_alloc _ (keep_alloc _ (K1.out)) | exact keep_alloc _ (keep_alloc _ (keep_alloc _ (K1.out))) | exact keep_alloc _ (keep_alloc _ (keep_alloc _ (keep_alloc _ (K1.out)))) | exact keep_alloc _ (keep_alloc _ (keep_alloc _ (keep_alloc _ (keep_alloc _ (K1.out)))))))
        have B' := below_next (w := w) (by repeat' (first | (with_reducible exact Below.refl _ _) | (with_reducible assumption) | (with_reducible refine below_alloc ?_ _) | (with_reducible refine Below.drew ?_) | (with_reducible refine below_drewN ?_ _) | (with_reducible refine Below.setCell ?_ ?_ _) | go_size)) hbw2
        clear hbw2 B K0 K1
        have B := B'; clear B'
        have K0 := K0'; clear K0'
        obtain ⟨K0_0, K0_1, K0_2, K0_3, K0_f, K0_z⟩ := cells4 K0.out
        have K1 := K1'; clear K1'
        obtain ⟨K1_0, K1_1, K1_2, K1_3, K1_f, K1_z⟩ := cells4 K1.out
        by_cases h5 : 256 < bitLen m + 8 * (s - 3)
        · have HE := Lib.hid (HTF.out h0 h1 h3 h5)
          clear HTZ HTT HTS HTF HTG
          have h5' : 256 < (bitLen m : Int) + 8 * ((s : Int) - 3) := by omega
          clear h5
          go_wp2_with fail
          obtain ⟨r0, r1, r2, r3, rf, rz⟩ := cells4 (set4 (.int .u64 0) (.int .u64 0) (.int .u64 0) (.int .u64 0) K0.out)
          exact bodyPost_ret (v := .tuple #[.agg #[.int .u64 0, .int .u64 0, .int .u64 0, .int .u64 0], .bool false]) (by simp [results, Try.results28, go_sem, r0, r1, r2, r3]) rfl ⟨by rw [HE.out]; rfl, (by repeat' (first | (with_reducible exact Below.refl _ _) | (with_reducible assumption) | (with_reducible refine below_alloc ?_ _) | (with_reducible refine Below.drew ?_) | (with_reducible refine below_drewN ?_ _) | (with_reducible refine Below.setCell ?_ ?_ _) | go_size))⟩
        · have e := HTG.out h0 h1 h3 h5
          have hp := bitLen_pos h0
          have hf := shl_fits (m := m) (k := 8 * (s - 3)) (by omega)
          clear HTZ HTT HTS HTF HTG
          have h5' : ¬ 256 < (bitLen m : Int) + 8 * ((s : Int) - 3) := by omega
          obtain ⟨q, hq⟩ : ∃ q, q = m * 2 ^ (8 * (s - 3)) := ⟨_, rfl⟩
          have cs : Hid (∀ w, Calls Try.prog 83 #[nv m, .int .i64 (8 * ((s : Int) - 3))] w fun e w' => e = .returned (nv q) ∧ Below w.heap.size w w') := Lib.hid fun w => by
            have := shl_any m (by omega) (8 * ((s : Int) - 3)) w
            unfold shlN at this
            rwa [if_neg (by omega), show (8 * ((s : Int) - 3)).toNat = 8 * (s - 3) by omega, Nat.mod_eq_of_lt hf, ← hq] at this
          rw [← hq] at e
          have HE := Lib.hid e
          clear hq hf hp h5 e
          go_wp2_with fail
          refine (cs.out _).mono ?_
          rintro e w3 ⟨rfl, hbw3⟩
          have K0' := Lib.hid (below_keep hbw3 (by first | exact K0.out | exact keep_alloc _ (K0.out) | exact keep_alloc _ (keep_alloc _ (K0.out)) | exact keep_alloc _ (keep_alloc _ (keep_alloc _ (K0.out))) | exact keep_alloc _ (keep_alloc _ (keep_alloc _ (keep_alloc _ (K0.out)))) | exact keep_alloc _ (keep_alloc _ (keep_alloc _ (keep_alloc _ (keep_alloc _ (K0.out)))))))
          have K1' := Lib.hid (below_keep hbw3 (by first | exact K1.out | exact keep_alloc _ (K1.out) | exact keep_alloc _ (keep_alloc _ (K1.out)) | exact keep_alloc _ (keep_alloc _ (keep_alloc _ (K1.out))) | exact keep_alloc _ (keep_alloc _ (keep_alloc _ (keep_alloc _ (K1.out)))) | exact keep_alloc _ (keep_alloc _ (keep_alloc _ (keep_alloc _ (keep_alloc _ (K1.out)))))))
          have B' := below_next (w := w) (by repeat' (first | (with_reducible exact Below.refl _ _) | (with_reducible assumption) | (with_reducible refine below_alloc ?_ _) | (with_reducible refine Below.drew ?_) | (with_reducible refine below_drewN ?_ _) | (with_reducible refine Below.setCell ?_ ?_ _) | go_size)) hbw3
          clear hbw3 B K0 K1 K0_0 K0_1 K0_2 K0_3 K0_f K0_z K1_0 K1_1 K1_2 K1_3 K1_f K1_z
          have B := B'; clear B'
          have K0 := K0'; clear K0'
          obtain ⟨K0_0, K0_1, K0_2, K0_3, K0_f, K0_z⟩ := cells4 K0.out
          have K1 := K1'; clear K1'
          obtain ⟨K1_0, K1_1, K1_2, K1_3, K1_f, K1_z⟩ := cells4 K1.out
          go_wp2_with fail
          obtain ⟨r0, r1, r2, r3, rf, rz⟩ := cells4 (set4 (.int .u64 (lw q 0)) (.int .u64 (lw q 1)) (.int .u64 (lw q 2)) (.int .u64 (lw q 3)) K0.out)
          exact bodyPost_ret (v := .tuple #[nv q, .bool true]) (by simp [results, Try.results28, go_sem, r0, r1, r2, r3]) rfl ⟨by rw [HE.out], (by repeat' (first | (with_reducible exact Below.refl _ _) | (with_reducible assumption) | (with_reducible refine below_alloc ?_ _) | (with_reducible refine Below.drew ?_) | (with_reducible refine below_drewN ?_ _) | (with_reducible refine Below.setCell ?_ ?_ _) | go_size))⟩
end Go.Proofs.Ytnbppbnjkmopeaa
