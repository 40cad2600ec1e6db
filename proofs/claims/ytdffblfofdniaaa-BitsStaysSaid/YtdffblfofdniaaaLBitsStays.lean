/- The law BitsStays: if blocks took as long as they should the bits stay. No condition. -/
import Derived.Test.YtdffblfofdniaaaBtMeans
import Derived.Test.YtdffblfofdniaaaBtNext
import Derived.Test.YtdffblfofdniaaaNumOpen
import Derived.Test.YtdffblfofdniaaaHead
namespace Go.Proofs.Ytdffblfofdniaaa
open Go.ChangeShapes Go.WideShapes Go.ChangeAt Go.RowKit

theorem spn_same (s : Nat) (h : 1 ≤ s) : spn (s : Int) (s : Int) = s := by unfold spn; omega
theorem spn_low (took : Int) (s : Nat) (h1 : 1 ≤ s) (h : took ≤ s) : spn took s ≤ s := by unfold spn; omega
theorem spn_high (took : Int) (s : Nat) (h1 : 1 ≤ s) (h : s ≤ took) : s ≤ spn took s := by unfold spn; omega
theorem spn_most (took : Int) (s : Nat) (h1 : 1 ≤ s) : spn took s ≤ 4 * s := by unfold spn; omega
/-- the targets of the law -/
theorem stays (t k s : Nat) (ht : t < 2 ^ 212) (hs : 1 ≤ s) (hs2 : s ≤ 1099511627776) (hk : k ≤ 4 * s) : nxN t k s (2 ^ 256 - 1) = t * k / s ∧ t * k / s < 2 ^ 256 := by
  have h : t * k < 2 ^ 256 := by
    calc t * k ≤ t * 4398046511104 := Nat.mul_le_mul_left _ (by omega)
      _ < 2 ^ 256 := by omega
  have h2 : t * k / s ≤ t * k := Nat.div_le_self _ _
  refine ⟨?_, by omega⟩
  unfold nxN
  rw [if_neg (by omega)]
  omega

set_option maxRecDepth 100000 in
set_option maxHeartbeats 4000000 in
theorem BitsStays_walk (a : Nat) (ha : a < 2 ^ 256) (took : Int) (ht : (Lit.int .i64 took).wf = true) (should : Int) (hs : (Lit.int .i64 should).wf = true) (w : World) :
    Calls Try.prog 16 #[nv a, .int .i64 took, .int .i64 should] w fun e w' => e = .returned (.bool true) ∧ Below w.heap.size w w' := by
  have HA := Lib.hid ha
  have B : Below w.heap.size w w := Below.refl _ _
  have K0 := Lib.hid (heap_new w (nblk a))
  have cs := Lib.hid fun w => short_any a ha w
  have ct := Lib.hid fun w => target_any (sht a) (sht_lt a ha) w
  have HSL := Lib.hid (sht_lt a ha)
  rw [tgt_sht1 a ha] at ct
  have ho1 : a ≠ 0 → (tgt (sht a)).2 = true := fun h => by rw [tgt_sht h ha]
  have ho0 : a = 0 → (tgt (sht a)).2 = false := fun h => by rw [h, sht_zero, tgt_zero0]
  have htn : (tgt (sht a)).1 = rnd a := tgt_sht1 a ha
  have hrr : rnd (rnd a) = rnd a := rnd_rnd a
  have hsr : a ≠ 0 → sht (rnd a) = sht a := sht_rnd
  have hr0 : a ≠ 0 → rnd a ≠ 0 := fun h => by have := rnd_ge h; have := Nat.two_pow_pos (bitLen a - 1); omega
  have HR := Lib.hid (show rnd a < 2 ^ 256 by have := rnd_le a; omega)
  obtain ⟨o, hoo⟩ : ∃ o, o = (tgt (sht a)).2 := ⟨_, rfl⟩
  obtain ⟨t, htt⟩ : ∃ t, t = rnd a := ⟨_, rfl⟩
  obtain ⟨S, hS⟩ : ∃ S, S = sht a := ⟨_, rfl⟩
  have HN1 := Lib.hid (show ∀ took : Int, (Lit.int .i64 took).wf = true → ∀ (l : Nat), l < 2 ^ 256 → ∀ w, _ from fun took ht l hl w => next_any (sht a) (sht_lt a ha) took should l hl ht hs w)
  rw [htn] at HN1
  rw [← hoo] at ct ho1 ho0 HN1
  rw [← htt] at ct hrr hsr hr0 HR HN1
  rw [← hS] at cs ct hsr HN1
  have HRR := Lib.hid hrr; have HSR := Lib.hid hsr; have HR0 := Lib.hid hr0; have HO1 := Lib.hid ho1
  clear ha hrr hsr hr0 hoo htt hS htn HSL
  go_enter Try.func16, Try.ntmps16
  go_wp2_with fail
  refine (means_any _).mono ?_
  rintro e w1 ⟨rfl, hbw1⟩
  have K0' := Lib.hid (below_keep hbw1 (by first | exact K0.out | exact keep_alloc _ (K0.out) | exact keep_alloc _ (keep_alloc _ (K0.out)) | exact keep_alloc _ (keep_alloc _ (keep_alloc _ (K0.out))) | exact keep_alloc _ (keep_alloc _ (keep_alloc _ (keep_alloc _ (K0.out)))) | exact keep_alloc _ (keep_alloc _ (keep_alloc _ (keep_alloc _ (keep_alloc _ (K0.out)))))))
  have B' := below_next (w := w) (by repeat' (first | (with_reducible exact Below.refl _ _) | (with_reducible assumption) | (with_reducible refine below_alloc ?_ _) | (with_reducible refine Below.drew ?_) | (with_reducible refine below_drewN ?_ _) | (with_reducible refine Below.setCell ?_ ?_ _) | go_size)) hbw1
  clear hbw1 B K0
  have B := B'; clear B'
  have K0 := K0'; clear K0'
  obtain ⟨K0_0, K0_1, K0_2, K0_3, K0_f, K0_z⟩ := cells4 K0.out
  go_wp2_with fail
  refine (cs.out _).mono ?_
  rintro e w2 ⟨rfl, hbw2⟩
  have K0' := Lib.hid (below_keep hbw2 (by first | exact K0.out | exact keep_alloc _ (K0.out) | exact keep_alloc _ (keep_alloc _ (K0.out)) | exact keep_alloc _ (keep_alloc _ (keep_alloc _ (K0.out))) | exact keep_alloc _ (keep_alloc _ (keep_alloc _ (keep_alloc _ (K0.out)))) | exact keep_alloc _ (keep_alloc _ (keep_alloc _ (keep_alloc _ (keep_alloc _ (K0.out)))))))
  have B' := below_next (w := w) (by repeat' (first | (with_reducible exact Below.refl _ _) | (with_reducible assumption) | (with_reducible refine below_alloc ?_ _) | (with_reducible refine Below.drew ?_) | (with_reducible refine below_drewN ?_ _) | (with_reducible refine Below.setCell ?_ ?_ _) | go_size)) hbw2
  clear hbw2 B K0 K0_0 K0_1 K0_2 K0_3 K0_f K0_z
  have B := B'; clear B'
  have K0 := K0'; clear K0'
  obtain ⟨K0_0, K0_1, K0_2, K0_3, K0_f, K0_z⟩ := cells4 K0.out
  go_wp2_with fail
  refine (ct.out _).mono ?_
  rintro e w3 ⟨rfl, hb3⟩
  have K1 := Lib.hid (heap_new w3 (nblk t))
  have B' := below_next (w := w) (by repeat' (first | (with_reducible exact Below.refl _ _) | (with_reducible assumption) | (with_reducible refine below_alloc ?_ _) | (with_reducible refine Below.drew ?_) | (with_reducible refine below_drewN ?_ _) | (with_reducible refine Below.setCell ?_ ?_ _) | go_size)) hb3
  clear hb3 B K0 K0_0 K0_1 K0_2 K0_3 K0_f K0_z cs ct
  have B := B'
  clear B'
  by_cases ha0 : a = 0
  · have h := ho0 ha0
    subst h
    clear ho0 ho1 ha0
    go_wp2_with fail
    go_ret
    exact ⟨rfl, (by repeat' (first | (with_reducible exact Below.refl _ _) | (with_reducible assumption) | (with_reducible refine below_alloc ?_ _) | (with_reducible refine Below.drew ?_) | (with_reducible refine below_drewN ?_ _) | (with_reducible refine Below.setCell ?_ ?_ _) | go_size))⟩
  · have h := ho1 ha0
    subst h
    by_cases h1 : should < 1
    · clear ho0 ho1 ha0
      go_wp2_with fail
      go_ret
      exact ⟨rfl, (by repeat' (first | (with_reducible exact Below.refl _ _) | (with_reducible assumption) | (with_reducible refine below_alloc ?_ _) | (with_reducible refine Below.drew ?_) | (with_reducible refine below_drewN ?_ _) | (with_reducible refine Below.setCell ?_ ?_ _) | go_size))⟩
    · by_cases h2 : 1099511627776 < should
      · clear ho0 ho1 ha0
        go_wp2_with fail
        go_ret
        exact ⟨rfl, (by repeat' (first | (with_reducible exact Below.refl _ _) | (with_reducible assumption) | (with_reducible refine below_alloc ?_ _) | (with_reducible refine Below.drew ?_) | (with_reducible refine below_drewN ?_ _) | (with_reducible refine Below.setCell ?_ ?_ _) | go_size))⟩
      · obtain ⟨s, rfl⟩ := Int.eq_ofNat_of_zero_le (show 0 ≤ should by omega)
        have hs1 : 1 ≤ s := by omega
        have hs2 : s ≤ 1099511627776 := by omega
        have HSR := HSR.out ha0; have HR0 := HR0.out ha0
        have HSRh := Lib.hid HSR; have HR0h := Lib.hid HR0
        clear ho0 ho1 ha0 HSR HR0 HO1
        have cnot : Hid (∀ w, Calls Try.prog 42 #[.agg #[.int .u64 0, .int .u64 0, .int .u64 0, .int .u64 0]] w fun e w' => e = .returned (nv (2 ^ 256 - 1)) ∧ Below w.heap.size w w') := Lib.hid fun w => not_any 0 (by omega) w
        obtain ⟨M, hM⟩ : ∃ M, M = 2 ^ 256 - 1 := ⟨_, rfl⟩
        rw [← hM] at cnot
        have HM := Lib.hid hM
        clear hM
        go_wp2_with fail
        refine (cnot.out _).mono ?_
        rintro e w4 ⟨rfl, hbw4⟩
        have K1' := Lib.hid (below_keep hbw4 (by first | exact K1.out | exact keep_alloc _ (K1.out) | exact keep_alloc _ (keep_alloc _ (K1.out)) | exact keep_alloc _ (keep_alloc _ (keep_alloc _ (K1.out))) | exact keep_alloc _ (keep_alloc _ (keep_alloc _ (keep_alloc _ (K1.out)))) | exact keep_alloc _ (keep_alloc _ (keep_alloc _ (keep_alloc _ (keep_alloc _ (K1.out)))))))
        have B' := below_next (w := w) (by repeat' (first | (with_reducible exact Below.refl _ _) | (with_reducible assumption) | (with_reducible refine below_alloc ?_ _) | (with_reducible refine Below.drew ?_) | (with_reducible refine below_drewN ?_ _) | (with_reducible refine Below.setCell ?_ ?_ _) | go_size)) hbw4
        clear hbw4 B K1
        have B := B'; clear B'
        have K1 := K1'; clear K1'
        obtain ⟨K1_0, K1_1, K1_2, K1_3, K1_f, K1_z⟩ := cells4 K1.out
        clear cnot
        have K2 := Lib.hid (heap_new w4 (nblk M))
        go_wp2_with fail
        have K1' := Lib.hid (keep_alloc (nblk M) K1.out)
        refine (len_any t HR.out _).mono ?_
        rintro e w5 ⟨rfl, hbw5⟩
        have K1' := Lib.hid (below_keep hbw5 (by first | exact K1.out | exact keep_alloc _ (K1.out) | exact keep_alloc _ (keep_alloc _ (K1.out)) | exact keep_alloc _ (keep_alloc _ (keep_alloc _ (K1.out))) | exact keep_alloc _ (keep_alloc _ (keep_alloc _ (keep_alloc _ (K1.out)))) | exact keep_alloc _ (keep_alloc _ (keep_alloc _ (keep_alloc _ (keep_alloc _ (K1.out)))))))
        have K2' := Lib.hid (below_keep hbw5 (by first | exact K2.out | exact keep_alloc _ (K2.out) | exact keep_alloc _ (keep_alloc _ (K2.out)) | exact keep_alloc _ (keep_alloc _ (keep_alloc _ (K2.out))) | exact keep_alloc _ (keep_alloc _ (keep_alloc _ (keep_alloc _ (K2.out)))) | exact keep_alloc _ (keep_alloc _ (keep_alloc _ (keep_alloc _ (keep_alloc _ (K2.out)))))))
        have B' := below_next (w := w) (by repeat' (first | (with_reducible exact Below.refl _ _) | (with_reducible assumption) | (with_reducible refine below_alloc ?_ _) | (with_reducible refine Below.drew ?_) | (with_reducible refine below_drewN ?_ _) | (with_reducible refine Below.setCell ?_ ?_ _) | go_size)) hbw5
        clear hbw5 B K1 K2 K1_0 K1_1 K1_2 K1_3 K1_f K1_z
        have B := B'; clear B'
        have K1 := K1'; clear K1'
        obtain ⟨K1_0, K1_1, K1_2, K1_3, K1_f, K1_z⟩ := cells4 K1.out
        have K2 := K2'; clear K2'
        obtain ⟨K2_0, K2_1, K2_2, K2_3, K2_f, K2_z⟩ := cells4 K2.out
        clear K1'
        by_cases h44 : 256 < bitLen t + 44
        · have h44' : (256 : Int) < (bitLen t : Int) + 44 := by omega
          have hbl := bitLen_num t HR.out
          clear h44
          go_wp2_with fail
          go_ret
          exact ⟨rfl, (by repeat' (first | (with_reducible exact Below.refl _ _) | (with_reducible assumption) | (with_reducible refine below_alloc ?_ _) | (with_reducible refine Below.drew ?_) | (with_reducible refine below_drewN ?_ _) | (with_reducible refine Below.setCell ?_ ?_ _) | go_size))⟩
        · have h44' : ¬ (256 : Int) < (bitLen t : Int) + 44 := by omega
          have ht2 : t < 2 ^ 212 := Nat.lt_of_lt_of_le (lt_two_bitLen t) (Nat.pow_le_pow_right (by omega) (by omega))
          have hM256 : M < 2 ^ 256 := by rw [HM.out]; omega
          obtain ⟨e1, -⟩ := stays t s s ht2 hs1 hs2 (by omega)
          rw [Nat.mul_div_cancel _ (show 0 < s by omega)] at e1
          have n1 : Hid (∀ w, Calls Try.prog 52 #[.int .u32 S, .int .i64 s, .int .i64 s, nv M] w fun e w' => e = .returned (.tuple #[.int .u32 S, .bool true]) ∧ Below w.heap.size w w') := Lib.hid fun w => by
            have := HN1.out s hs M hM256 w
            rw [if_pos (by refine ⟨?_, ?_, ?_⟩ <;> first | trivial | omega), spn_same s hs1, Int.toNat_natCast, HM.out, e1, HSRh.out] at this
            rwa [HM.out]
          obtain ⟨e2, e3⟩ := stays t (spn took s) s ht2 hs1 hs2 (spn_most took s hs1)
          have n2 : Hid (∀ w, Calls Try.prog 52 #[.int .u32 S, .int .i64 took, .int .i64 s, nv M] w fun e w' => e = .returned (.tuple #[.int .u32 (sht (t * spn took s / s)), .bool true]) ∧ Below w.heap.size w w') := Lib.hid fun w => by
            have := HN1.out took ht M hM256 w
            rw [if_pos (by refine ⟨?_, ?_, ?_⟩ <;> first | trivial | omega), Int.toNat_natCast, HM.out, e2] at this
            rwa [HM.out]
          have hlo : took ≤ s → t * spn took s / s ≤ t := fun h => by
            rw [Nat.div_le_iff_le_mul_add_pred (by omega), Nat.mul_comm s]
            exact Nat.le_trans (Nat.mul_le_mul_left _ (spn_low took s hs1 h)) (Nat.le_add_right _ _)
          have hhi : (s : Int) ≤ took → t ≤ t * spn took s / s := fun h => by
            rw [Nat.le_div_iff_mul_le (by omega)]
            exact Nat.mul_le_mul_left _ (spn_high took s hs1 h)
          generalize t * spn took s / s = N at *
          have ct := Lib.hid fun w => target_any (sht N) (sht_lt N e3) w
          rw [tgt_sht1 N e3] at ct
          have hz : N ≠ 0 → (tgt (sht N)).2 = true := fun h => by rw [tgt_sht h e3]
          have hlo2 : took ≤ s → cmpn (rnd N) t ≤ 0 := fun h => cmpn_le.2 (Nat.le_trans (rnd_le N) (hlo h))
          have hhi2 : (s : Int) ≤ took → 0 ≤ cmpn (rnd N) t := fun h => cmpn_ge.2 (by rw [← HRR.out]; exact rnd_mono (hhi h))
          have hz2 : (s : Int) ≤ took → (tgt (sht N)).2 = true := fun h => hz (by have := hhi h; have := HR0h.out; omega)
          have HRN := Lib.hid (show rnd N < 2 ^ 256 by have := rnd_le N; omega)
          generalize (tgt (sht N)).2 = oz at *
          generalize rnd N = rn at *
          generalize sht N = sn at *
          have HLO := Lib.hid hlo2; have HHI := Lib.hid hhi2; have HZ2 := Lib.hid hz2
          clear HN1 hlo hhi hz hlo2 hhi2 hz2 e1 e2 e3 ht2 hM256 h44 HM HRR HSRh HR0h hs ht
          go_wp2_with fail
          refine (n1.out _).mono ?_
          rintro e w6 ⟨rfl, hbw6⟩
          have K1' := Lib.hid (below_keep hbw6 (by first | exact K1.out | exact keep_alloc _ (K1.out) | exact keep_alloc _ (keep_alloc _ (K1.out)) | exact keep_alloc _ (keep_alloc _ (keep_alloc _ (K1.out))) | exact keep_alloc _ (keep_alloc _ (keep_alloc _ (keep_alloc _ (K1.out)))) | exact keep_alloc _ (keep_alloc _ (keep_alloc _ (keep_alloc _ (keep_alloc _ (K1.out)))))))
          have K2' := Lib.hid (below_keep hbw6 (by first | exact K2.out | exact keep_alloc _ (K2.out) | exact keep_alloc _ (keep_alloc _ (K2.out)) | exact keep_alloc _ (keep_alloc _ (keep_alloc _ (K2.out))) | exact keep_alloc _ (keep_alloc _ (keep_alloc _ (keep_alloc _ (K2.out)))) | exact keep_alloc _ (keep_alloc _ (keep_alloc _ (keep_alloc _ (keep_alloc _ (K2.out)))))))
          have B' := below_next (w := w) (by repeat' (first | (with_reducible exact Below.refl _ _) | (with_reducible assumption) | (with_reducible refine below_alloc ?_ _) | (with_reducible refine Below.drew ?_) | (with_reducible refine below_drewN ?_ _) | (with_reducible refine Below.setCell ?_ ?_ _) | go_size)) hbw6
          clear hbw6 B K1 K2 K1_0 K1_1 K1_2 K1_3 K1_f K1_z K2_0 K2_1 K2_2 K2_3 K2_f K2_z
          have B := B'; clear B'
          have K1 := K1'; clear K1'
          obtain ⟨K1_0, K1_1, K1_2, K1_3, K1_f, K1_z⟩ := cells4 K1.out
          have K2 := K2'; clear K2'
          obtain ⟨K2_0, K2_1, K2_2, K2_3, K2_f, K2_z⟩ := cells4 K2.out
          go_wp2_with fail
          refine (n2.out _).mono ?_
          rintro e w7 ⟨rfl, hbw7⟩
          have K1' := Lib.hid (below_keep hbw7 (by first | exact K1.out | exact keep_alloc _ (K1.out) | exact keep_alloc _ (keep_alloc _ (K1.out)) | exact keep_alloc _ (keep_alloc _ (keep_alloc _ (K1.out))) | exact keep_alloc _ (keep_alloc _ (keep_alloc _ (keep_alloc _ (K1.out)))) | exact keep_alloc _ (keep_alloc _ (keep_alloc _ (keep_alloc _ (keep_alloc _ (K1.out)))))))
          have K2' := Lib.hid (below_keep hbw7 (by first | exact K2.out | exact keep_alloc _ (K2.out) | exact keep_alloc _ (keep_alloc _ (K2.out)) | exact keep_alloc _ (keep_alloc _ (keep_alloc _ (K2.out))) | exact keep_alloc _ (keep_alloc _ (keep_alloc _ (keep_alloc _ (K2.out)))) | exact keep_alloc _ (keep_alloc _ (keep_alloc _ (keep_alloc _ (keep_alloc _ (K2.out)))))))
          have B' := below_next (w := w) (by repeat' (first | (with_reducible exact Below.refl _ _) | (with_reducible assumption) | (with_reducible refine below_alloc ?_ _) | (with_reducible refine Below.drew ?_) | (with_reducible refine below_drewN ?_ _) | (with_reducible refine Below.setCell ?_ ?_ _) | go_size)) hbw7
          clear hbw7 B K1 K2 K1_0 K1_1 K1_2 K1_3 K1_f K1_z K2_0 K2_1 K2_2 K2_3 K2_f K2_z
          have B := B'; clear B'
          have K1 := K1'; clear K1'
          obtain ⟨K1_0, K1_1, K1_2, K1_3, K1_f, K1_z⟩ := cells4 K1.out
          have K2 := K2'; clear K2'
          obtain ⟨K2_0, K2_1, K2_2, K2_3, K2_f, K2_z⟩ := cells4 K2.out
          go_wp2_with fail
          refine (ct.out _).mono ?_
          rintro e w8 ⟨rfl, hbw8⟩
          have K1' := Lib.hid (below_keep hbw8 (by first | exact K1.out | exact keep_alloc _ (K1.out) | exact keep_alloc _ (keep_alloc _ (K1.out)) | exact keep_alloc _ (keep_alloc _ (keep_alloc _ (K1.out))) | exact keep_alloc _ (keep_alloc _ (keep_alloc _ (keep_alloc _ (K1.out)))) | exact keep_alloc _ (keep_alloc _ (keep_alloc _ (keep_alloc _ (keep_alloc _ (K1.out)))))))
          have K2' := Lib.hid (below_keep hbw8 (by first | exact K2.out | exact keep_alloc _ (K2.out) | exact keep_alloc _ (keep_alloc _ (K2.out)) | exact keep_alloc _ (keep_alloc _ (keep_alloc _ (K2.out))) | exact keep_alloc _ (keep_alloc _ (keep_alloc _ (keep_alloc _ (K2.out)))) | exact keep_alloc _ (keep_alloc _ (keep_alloc _ (keep_alloc _ (keep_alloc _ (K2.out)))))))
          have B' := below_next (w := w) (by repeat' (first | (with_reducible exact Below.refl _ _) | (with_reducible assumption) | (with_reducible refine below_alloc ?_ _) | (with_reducible refine Below.drew ?_) | (with_reducible refine below_drewN ?_ _) | (with_reducible refine Below.setCell ?_ ?_ _) | go_size)) hbw8
          clear hbw8 B K1 K2 K1_0 K1_1 K1_2 K1_3 K1_f K1_z K2_0 K2_1 K2_2 K2_3 K2_f K2_z
          have B := B'; clear B'
          have K1 := K1'; clear K1'
          obtain ⟨K1_0, K1_1, K1_2, K1_3, K1_f, K1_z⟩ := cells4 K1.out
          have K2 := K2'; clear K2'
          obtain ⟨K2_0, K2_1, K2_2, K2_3, K2_f, K2_z⟩ := cells4 K2.out
          have K3 := Lib.hid (heap_new w8 (nblk rn))
          have K1' := Lib.hid (keep_alloc (nblk rn) K1.out)
          by_cases hge : (s : Int) ≤ took
          · have h := HZ2.out hge
            subst h
            have hc1 := HHI.out hge
            by_cases hle : took ≤ s
            · have hc2 := HLO.out hle
              go_wp2_with fail
              refine (cmp_any rn t HRN.out HR.out _).mono ?_
              rintro e w9 ⟨rfl, hbw9⟩
              have K1' := Lib.hid (below_keep hbw9 (by first | exact K1.out | exact keep_alloc _ (K1.out) | exact keep_alloc _ (keep_alloc _ (K1.out)) | exact keep_alloc _ (keep_alloc _ (keep_alloc _ (K1.out))) | exact keep_alloc _ (keep_alloc _ (keep_alloc _ (keep_alloc _ (K1.out)))) | exact keep_alloc _ (keep_alloc _ (keep_alloc _ (keep_alloc _ (keep_alloc _ (K1.out)))))))
              have K2' := Lib.hid (below_keep hbw9 (by first | exact K2.out | exact keep_alloc _ (K2.out) | exact keep_alloc _ (keep_alloc _ (K2.out)) | exact keep_alloc _ (keep_alloc _ (keep_alloc _ (K2.out))) | exact keep_alloc _ (keep_alloc _ (keep_alloc _ (keep_alloc _ (K2.out)))) | exact keep_alloc _ (keep_alloc _ (keep_alloc _ (keep_alloc _ (keep_alloc _ (K2.out)))))))
              have K3' := Lib.hid (below_keep hbw9 (by first | exact K3.out | exact keep_alloc _ (K3.out) | exact keep_alloc _ (keep_alloc _ (K3.out)) | exact keep_alloc _ (keep_alloc _ (keep_alloc _ (K3.out))) | exact keep_alloc _ (keep_alloc _ (keep_alloc _ (keep_alloc _ (K3.out)))) | exact keep_alloc _ (keep_alloc _ (keep_alloc _ (keep_alloc _ (keep_alloc _ (K3.out)))))))
              have B' := below_next (w := w) (by repeat' (first | (with_reducible exact Below.refl _ _) | (with_reducible assumption) | (with_reducible refine below_alloc ?_ _) | (with_reducible refine Below.drew ?_) | (with_reducible refine below_drewN ?_ _) | (with_reducible refine Below.setCell ?_ ?_ _) | go_size)) hbw9
              clear hbw9 B K1 K2 K3 K1_0 K1_1 K1_2 K1_3 K1_f K1_z K2_0 K2_1 K2_2 K2_3 K2_f K2_z
              have B := B'; clear B'
              have K1 := K1'; clear K1'
              obtain ⟨K1_0, K1_1, K1_2, K1_3, K1_f, K1_z⟩ := cells4 K1.out
              have K2 := K2'; clear K2'
              obtain ⟨K2_0, K2_1, K2_2, K2_3, K2_f, K2_z⟩ := cells4 K2.out
              have K3 := K3'; clear K3'
              obtain ⟨K3_0, K3_1, K3_2, K3_3, K3_f, K3_z⟩ := cells4 K3.out
              go_wp2_with fail
              go_ret
              exact ⟨by first | rfl | trivial, (by repeat' (first | (with_reducible exact Below.refl _ _) | (with_reducible assumption) | (with_reducible refine below_alloc ?_ _) | (with_reducible refine Below.drew ?_) | (with_reducible refine below_drewN ?_ _) | (with_reducible refine Below.setCell ?_ ?_ _) | go_size))⟩
            · go_wp2_with fail
              refine (cmp_any rn t HRN.out HR.out _).mono ?_
              rintro e w9 ⟨rfl, hbw9⟩
              have K1' := Lib.hid (below_keep hbw9 (by first | exact K1.out | exact keep_alloc _ (K1.out) | exact keep_alloc _ (keep_alloc _ (K1.out)) | exact keep_alloc _ (keep_alloc _ (keep_alloc _ (K1.out))) | exact keep_alloc _ (keep_alloc _ (keep_alloc _ (keep_alloc _ (K1.out)))) | exact keep_alloc _ (keep_alloc _ (keep_alloc _ (keep_alloc _ (keep_alloc _ (K1.out)))))))
              have K2' := Lib.hid (below_keep hbw9 (by first | exact K2.out | exact keep_alloc _ (K2.out) | exact keep_alloc _ (keep_alloc _ (K2.out)) | exact keep_alloc _ (keep_alloc _ (keep_alloc _ (K2.out))) | exact keep_alloc _ (keep_alloc _ (keep_alloc _ (keep_alloc _ (K2.out)))) | exact keep_alloc _ (keep_alloc _ (keep_alloc _ (keep_alloc _ (keep_alloc _ (K2.out)))))))
              have K3' := Lib.hid (below_keep hbw9 (by first | exact K3.out | exact keep_alloc _ (K3.out) | exact keep_alloc _ (keep_alloc _ (K3.out)) | exact keep_alloc _ (keep_alloc _ (keep_alloc _ (K3.out))) | exact keep_alloc _ (keep_alloc _ (keep_alloc _ (keep_alloc _ (K3.out)))) | exact keep_alloc _ (keep_alloc _ (keep_alloc _ (keep_alloc _ (keep_alloc _ (K3.out)))))))
              have B' := below_next (w := w) (by repeat' (first | (with_reducible exact Below.refl _ _) | (with_reducible assumption) | (with_reducible refine below_alloc ?_ _) | (with_reducible refine Below.drew ?_) | (with_reducible refine below_drewN ?_ _) | (with_reducible refine Below.setCell ?_ ?_ _) | go_size)) hbw9
              clear hbw9 B K1 K2 K3 K1_0 K1_1 K1_2 K1_3 K1_f K1_z K2_0 K2_1 K2_2 K2_3 K2_f K2_z
              have B := B'; clear B'
              have K1 := K1'; clear K1'
              obtain ⟨K1_0, K1_1, K1_2, K1_3, K1_f, K1_z⟩ := cells4 K1.out
              have K2 := K2'; clear K2'
              obtain ⟨K2_0, K2_1, K2_2, K2_3, K2_f, K2_z⟩ := cells4 K2.out
              have K3 := K3'; clear K3'
              obtain ⟨K3_0, K3_1, K3_2, K3_3, K3_f, K3_z⟩ := cells4 K3.out
              go_wp2_with fail
              go_ret
              exact ⟨by first | rfl | trivial, (by repeat' (first | (with_reducible exact Below.refl _ _) | (with_reducible assumption) | (with_reducible refine below_alloc ?_ _) | (with_reducible refine Below.drew ?_) | (with_reducible refine below_drewN ?_ _) | (with_reducible refine Below.setCell ?_ ?_ _) | go_size))⟩
          · have hle : took ≤ s := by omega
            have hc2 := HLO.out hle
            cases oz
            · go_wp2_with fail
              refine (cmp_any rn t HRN.out HR.out _).mono ?_
              rintro e w9 ⟨rfl, hbw9⟩
              have K1' := Lib.hid (below_keep hbw9 (by first | exact K1.out | exact keep_alloc _ (K1.out) | exact keep_alloc _ (keep_alloc _ (K1.out)) | exact keep_alloc _ (keep_alloc _ (keep_alloc _ (K1.out))) | exact keep_alloc _ (keep_alloc _ (keep_alloc _ (keep_alloc _ (K1.out)))) | exact keep_alloc _ (keep_alloc _ (keep_alloc _ (keep_alloc _ (keep_alloc _ (K1.out)))))))
              have K2' := Lib.hid (below_keep hbw9 (by first | exact K2.out | exact keep_alloc _ (K2.out) | exact keep_alloc _ (keep_alloc _ (K2.out)) | exact keep_alloc _ (keep_alloc _ (keep_alloc _ (K2.out))) | exact keep_alloc _ (keep_alloc _ (keep_alloc _ (keep_alloc _ (K2.out)))) | exact keep_alloc _ (keep_alloc _ (keep_alloc _ (keep_alloc _ (keep_alloc _ (K2.out)))))))
              have K3' := Lib.hid (below_keep hbw9 (by first | exact K3.out | exact keep_alloc _ (K3.out) | exact keep_alloc _ (keep_alloc _ (K3.out)) | exact keep_alloc _ (keep_alloc _ (keep_alloc _ (K3.out))) | exact keep_alloc _ (keep_alloc _ (keep_alloc _ (keep_alloc _ (K3.out)))) | exact keep_alloc _ (keep_alloc _ (keep_alloc _ (keep_alloc _ (keep_alloc _ (K3.out)))))))
              have B' := below_next (w := w) (by repeat' (first | (with_reducible exact Below.refl _ _) | (with_reducible assumption) | (with_reducible refine below_alloc ?_ _) | (with_reducible refine Below.drew ?_) | (with_reducible refine below_drewN ?_ _) | (with_reducible refine Below.setCell ?_ ?_ _) | go_size)) hbw9
              clear hbw9 B K1 K2 K3 K1_0 K1_1 K1_2 K1_3 K1_f K1_z K2_0 K2_1 K2_2 K2_3 K2_f K2_z
              have B := B'; clear B'
              have K1 := K1'; clear K1'
              obtain ⟨K1_0, K1_1, K1_2, K1_3, K1_f, K1_z⟩ := cells4 K1.out
              have K2 := K2'; clear K2'
              obtain ⟨K2_0, K2_1, K2_2, K2_3, K2_f, K2_z⟩ := cells4 K2.out
              have K3 := K3'; clear K3'
              obtain ⟨K3_0, K3_1, K3_2, K3_3, K3_f, K3_z⟩ := cells4 K3.out
              go_wp2_with fail
              go_ret
              exact ⟨by first | rfl | trivial, (by repeat' (first | (with_reducible exact Below.refl _ _) | (with_reducible assumption) | (with_reducible refine below_alloc ?_ _) | (with_reducible refine Below.drew ?_) | (with_reducible refine below_drewN ?_ _) | (with_reducible refine Below.setCell ?_ ?_ _) | go_size))⟩
            · go_wp2_with fail
              refine (cmp_any rn t HRN.out HR.out _).mono ?_
              rintro e w9 ⟨rfl, hbw9⟩
              have K1' := Lib.hid (below_keep hbw9 (by first | exact K1.out | exact keep_alloc _ (K1.out) | exact keep_alloc _ (keep_alloc _ (K1.out)) | exact keep_alloc _ (keep_alloc _ (keep_alloc _ (K1.out))) | exact keep_alloc _ (keep_alloc _ (keep_alloc _ (keep_alloc _ (K1.out)))) | exact keep_alloc _ (keep_alloc _ (keep_alloc _ (keep_alloc _ (keep_alloc _ (K1.out)))))))
              have K2' := Lib.hid (below_keep hbw9 (by first | exact K2.out | exact keep_alloc _ (K2.out) | exact keep_alloc _ (keep_alloc _ (K2.out)) | exact keep_alloc _ (keep_alloc _ (keep_alloc _ (K2.out))) | exact keep_alloc _ (keep_alloc _ (keep_alloc _ (keep_alloc _ (K2.out)))) | exact keep_alloc _ (keep_alloc _ (keep_alloc _ (keep_alloc _ (keep_alloc _ (K2.out)))))))
              have K3' := Lib.hid (below_keep hbw9 (by first | exact K3.out | exact keep_alloc _ (K3.out) | exact keep_alloc _ (keep_alloc _ (K3.out)) | exact keep_alloc _ (keep_alloc _ (keep_alloc _ (K3.out))) | exact keep_alloc _ (keep_alloc _ (keep_alloc _ (keep_alloc _ (K3.out)))) | exact keep_alloc _ (keep_alloc _ (keep_alloc _ (keep_alloc _ (keep_alloc _ (K3.out)))))))
              have B' := below_next (w := w) (by repeat' (first | (with_reducible exact Below.refl _ _) | (with_reducible assumption) | (with_reducible refine below_alloc ?_ _) | (with_reducible refine Below.drew ?_) | (with_reducible refine below_drewN ?_ _) | (with_reducible refine Below.setCell ?_ ?_ _) | go_size)) hbw9
              clear hbw9 B K1 K2 K3 K1_0 K1_1 K1_2 K1_3 K1_f K1_z K2_0 K2_1 K2_2 K2_3 K2_f K2_z
              have B := B'; clear B'
              have K1 := K1'; clear K1'
              obtain ⟨K1_0, K1_1, K1_2, K1_3, K1_f, K1_z⟩ := cells4 K1.out
              have K2 := K2'; clear K2'
              obtain ⟨K2_0, K2_1, K2_2, K2_3, K2_f, K2_z⟩ := cells4 K2.out
              have K3 := K3'; clear K3'
              obtain ⟨K3_0, K3_1, K3_2, K3_3, K3_f, K3_z⟩ := cells4 K3.out
              go_wp2_with fail
              go_ret
              exact ⟨by first | rfl | trivial, (by repeat' (first | (with_reducible exact Below.refl _ _) | (with_reducible assumption) | (with_reducible refine below_alloc ?_ _) | (with_reducible refine Below.drew ?_) | (with_reducible refine below_drewN ?_ _) | (with_reducible refine Below.setCell ?_ ?_ _) | go_size))⟩

set_option maxRecDepth 100000 in
theorem BitsStays_lifted (os : Os) (started : os.Started) (H : Type) (enc : TypeId × Value → H) :
    ReturnsInHanded {} Try.checked os 16 .any (Rows.bitsStaysSpec.pre6 enc Try.prog Try.f16 Rows.bitsStaysRow.domain false) (Rows.bitsStaysSpec.post enc Try.prog Try.f16 false true false false) := by
  refine returnsInHanded_of_change (C := Try.checked) own started (by kernel_rfl) Try.func16
    (ChangeSpec.witness6 (enc := enc) (C := Try.checked) false ⟨#[], #[.agg #[.int .u64 0, .int .u64 0, .int .u64 0, .int .u64 0], .int .i64 0, .int .i64 0], []⟩ 8 (by kernel_rfl) (by kernel_rfl) (by kernel_rfl) (by kernel_rfl)) ?_
  intro W base args ds gs before hval0 hW hcnd _
  have hval : ∀ (j : Nat) t v, Try.f16.params[j]? = some t → args[j]? = some v → Value.okWide Try.prog W .any base t v := hval0
  have hW' := hW
  obtain ⟨p, q, hA0, hV, rfl, hfz, hnd⟩ := hW
  have hA : DataW.TrodAll enc Try.prog W 0 (fun _ => true) true Try.f16.params.toList args.toList ds p := hA0
  rw [Try.params16] at hA hval
  obtain ⟨v0, vs0, d0, ds0, p0, q0, hargs, rfl, rfl, h0, r0⟩ := trodAll_cons hA
  obtain ⟨v1, vs1, d1, ds1, p1, q1, rfl, rfl, rfl, h1, r1⟩ := trodAll_cons r0
  obtain ⟨v2, vs2, d2, ds2, p2, q2, rfl, rfl, rfl, h2, r2⟩ := trodAll_cons r1
  obtain ⟨rfl, rfl, rfl⟩ := trodAll_nil r2
  obtain rfl : args = #[v0, v1, v2] := by cases args; simp_all
  obtain ⟨rfl, rfl⟩ := trodVars_none hV
  have k0 := h0
  have lt0 := trod_lt_of h0
  obtain ⟨a0, b0, rfl⟩ := open_num (hval 0 24 v0 rfl rfl) h0
  have k1 := h1
  have lt1 := trod_lt_of h1
  obtain ⟨a1, rfl, rfl, rfl, b1⟩ := open_int Try.underlying2 (hval 1 2 v1 rfl rfl) h1
  have k2 := h2
  have lt2 := trod_lt_of h2
  obtain ⟨a2, rfl, rfl, rfl, b2⟩ := open_int Try.underlying2 (hval 2 2 v2 rfl rfl) h2
  clear hA0 hval0
  refine (BitsStays_walk a0 b0 a1 b1 a2 b2 W).mono fun e W' ⟨he, bel⟩ => ?_
  subst he
  exact ⟨_, rfl, _, _, _, [], _, [], hW', trodAll_mk1 (shut_bool (by kernel_rfl) _), (trodAll_cons_mk (Below.trod laidOut (by kernel_rfl) (of_decide_eq_true (by kernel_rfl)) k0 bel lt0) (trodAll_cons_mk (Below.trod laidOut (by kernel_rfl) (of_decide_eq_true (by kernel_rfl)) k1 bel lt1) (trodAll_cons_mk (Below.trod laidOut (by kernel_rfl) (of_decide_eq_true (by kernel_rfl)) k2 bel lt2) trodAll_mk0))), rfl, bel.frame _, fun h => by cases h⟩

theorem BitsStays_closed : joinedFacts Try.prog 16 Try.f16 Rows.bitsStaysSpec Rows.bitsStaysRow = true := by
  simp only [joinedFacts, Bool.and_eq_true]
  repeat' apply And.intro
  all_goals first
    | (with_reducible exact head_enter)
    | (rw [head_make]; kernel_rfl)
    | (rw [head_lift]; kernel_rfl)
    | kernel_rfl

theorem BitsStays_holds : Rows.BitsStaysSaid :=
  OpenClaim.holds_of_wide 16 Try.f16 rfl rfl rfl rfl rfl rfl rfl ⟨rfl, rfl, rfl, rfl, rfl⟩ rfl rfl rfl rfl rfl (by kernel_rfl) Try.func16 BitsStays_closed
    (of_decide_eq_true (by kernel_rfl)) (by unfold Func.isWrapper; rw [if_neg (of_decide_eq_false (by kernel_rfl))]; exact ⟨rfl, rfl⟩)
    (fun os started H enc _ => BitsStays_lifted os started H enc)
end Go.Proofs.Ytdffblfofdniaaa
