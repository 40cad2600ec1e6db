/- The law BitsOrder: of two numbers the greater one's short form does not mean less. No condition. -/
import Derived.Test.YtdffblfofdniaaaBtMeans
import Derived.Test.YtdffblfofdniaaaNumOpen
import Derived.Test.YtdffblfofdniaaaHead
namespace Go.Proofs.Ytdffblfofdniaaa
open Go.ChangeShapes Go.WideShapes Go.ChangeAt Go.RowKit

theorem cmpn_le {a b : Nat} : cmpn a b ≤ 0 ↔ a ≤ b := by unfold cmpn; split <;> (try split) <;> constructor <;> intro h <;> omega
theorem cmpn_pos {a b : Nat} : 0 < cmpn a b ↔ b < a := by unfold cmpn; split <;> (try split) <;> constructor <;> intro h <;> omega

set_option maxRecDepth 100000 in
set_option maxHeartbeats 4000000 in
theorem BitsOrder_walk (a : Nat) (ha : a < 2 ^ 256) (b : Nat) (hb : b < 2 ^ 256) (w : World) :
    Calls Try.prog 14 #[nv a, nv b] w fun e w' => e = .returned (.bool true) ∧ Below w.heap.size w w' := by
  have HA := Lib.hid ha; have HB := Lib.hid hb
  clear ha hb
  have B : Below w.heap.size w w := Below.refl _ _
  have A := alloc2 w (nblk a) (nblk b)
  have K0 := Lib.hid A.1; have K1 := Lib.hid A.2
  clear A
  go_enter Try.func14, Try.ntmps14
  go_wp2_with fail
  refine (means_any _).mono ?_
  rintro e w1 ⟨rfl, hbw1⟩
  have K0' := Lib.hid (below_keep hbw1 (by first | exact K0.out | exact keep_alloc _ (K0.out) | exact keep_alloc _ (keep_alloc _ (K0.out)) | exact keep_alloc _ (keep_alloc _ (keep_alloc _ (K0.out))) | exact keep_alloc _ (keep_alloc _ (keep_alloc _ (keep_alloc _ (K0.out)))) | exact keep_alloc _ (keep_alloc _ (keep_alloc _ (keep_alloc _ (keep_alloc _ (K0.out)))))))
  have K1' := Lib.hid (below_keep hbw1 (by first | exact K1.out | exact keep_alloc _ (K1.out) | exact keep_alloc _ (keep_alloc _ (K1.out)) | exact keep_alloc _ (keep_alloc _ (keep_alloc _ (K1.out))) | exact keep_alloc _ (keep_alloc _ (keep_alloc _ (keep_alloc _ (K1.out)))) | exact keep_alloc _ (keep_alloc _ (keep_alloc _ (keep_alloc _ (keep_alloc _ (K1.out)))))))
  have B' := below_next (w := w) (by repeat' (first | (with_reducible exact Below.refl _ _) | (with_reducible assumption) | (with_reducible refine below_alloc ?_ _) | (with_reducible refine Below.drew ?_) | (with_reducible refine below_drewN ?_ _) | (with_reducible refine Below.setCell ?_ ?_ _) | go_size)) hbw1
  clear hbw1 B K0 K1
  have B := B'; clear B'
  have K0 := K0'; clear K0'
  obtain ⟨K0_0, K0_1, K0_2, K0_3, K0_f, K0_z⟩ := cells4 K0.out
  have K1 := K1'; clear K1'
  obtain ⟨K1_0, K1_1, K1_2, K1_3, K1_f, K1_z⟩ := cells4 K1.out
  go_wp2_with fail
  refine (cmp_any a b HA.out HB.out _).mono ?_
  rintro e w2 ⟨rfl, hbw2⟩
  have K0' := Lib.hid (below_keep hbw2 (by first | exact K0.out | exact keep_alloc _ (K0.out) | exact keep_alloc _ (keep_alloc _ (K0.out)) | exact keep_alloc _ (keep_alloc _ (keep_alloc _ (K0.out))) | exact keep_alloc _ (keep_alloc _ (keep_alloc _ (keep_alloc _ (K0.out)))) | exact keep_alloc _ (keep_alloc _ (keep_alloc _ (keep_alloc _ (keep_alloc _ (K0.out)))))))
  have K1' := Lib.hid (below_keep hbw2 (by first | exact K1.out | exact keep_alloc _ (K1.out) | exact keep_alloc _ (keep_alloc _ (K1.out)) | exact keep_alloc _ (keep_alloc _ (keep_alloc _ (K1.out))) | exact keep_alloc _ (keep_alloc _ (keep_alloc _ (keep_alloc _ (K1.out)))) | exact keep_alloc _ (keep_alloc _ (keep_alloc _ (keep_alloc _ (keep_alloc _ (K1.out)))))))
  have B' := below_next (w := w) (by repeat' (first | (with_reducible exact Below.refl _ _) | (with_reducible assumption) | (with_reducible refine below_alloc ?_ _) | (with_reducible refine Below.drew ?_) | (with_reducible refine below_drewN ?_ _) | (with_reducible refine Below.setCell ?_ ?_ _) | go_size)) hbw2
  clear hbw2 B K0 K1 K0_0 K0_1 K0_2 K0_3 K0_f K0_z K1_0 K1_1 K1_2 K1_3 K1_f K1_z
  have B := B'; clear B'
  have K0 := K0'; clear K0'
  obtain ⟨K0_0, K0_1, K0_2, K0_3, K0_f, K0_z⟩ := cells4 K0.out
  have K1 := K1'; clear K1'
  obtain ⟨K1_0, K1_1, K1_2, K1_3, K1_f, K1_z⟩ := cells4 K1.out
  go_upto_region 5 with fail
  all_goals
    refine wp_abs (fun W => ∃ x y, x < 2 ^ 256 ∧ y < 2 ^ 256 ∧ x ≤ y ∧ W.heap[w.heap.size]? = some (nblk x) ∧ W.heap[w.heap.size + 1]? = some (nblk y) ∧ Below w.heap.size w W) (by
      first
        | (have hlt := cmpn_pos.1 (show 0 < cmpn a b by assumption)
           refine ⟨b, a, HB.out, HA.out, by omega, ?_, ?_, (by repeat' (first | (with_reducible exact Below.refl _ _) | (with_reducible assumption) | (with_reducible refine below_alloc ?_ _) | (with_reducible refine Below.drew ?_) | (with_reducible refine below_drewN ?_ _) | (with_reducible refine Below.setCell ?_ ?_ _) | go_size))⟩
           · with_reducible exact (set4_other _ _ _ _ (show w.heap.size ≠ w.heap.size + 1 by omega)).trans (set4 _ _ _ _ K0.out)
           · with_reducible exact set4 _ _ _ _ ((set4_other _ _ _ _ (show w.heap.size + 1 ≠ w.heap.size by omega)).trans K1.out))
        | (have hle : a ≤ b := by first | exact cmpn_le.1 (show cmpn a b ≤ 0 by assumption) | exact cmpn_le.1 (by have h : ¬ 0 < cmpn a b := (by assumption); omega)
           with_reducible exact ⟨a, b, HA.out, HB.out, hle, K0.out, K1.out, B⟩)) ?_
    clear K0 K1 B K0_0 K0_1 K0_2 K0_3 K0_f K0_z K1_0 K1_1 K1_2 K1_3 K1_f K1_z
    rintro W ⟨x, y, hx, hy, hxy, k0, k1, B⟩
    have HX := Lib.hid hx; have HY := Lib.hid hy; have K0 := Lib.hid k0; have K1 := Lib.hid k1
    have hc1 : cmpn (rnd x) (rnd y) ≤ 0 := cmpn_le.2 (rnd_mono hxy)
    have hc2 : cmpn (rnd x) x ≤ 0 := cmpn_le.2 (rnd_le x)
    have hc3 : cmpn (rnd y) y ≤ 0 := cmpn_le.2 (rnd_le y)
    have HRX := Lib.hid (show rnd x < 2 ^ 256 by have := rnd_le x; omega)
    have HRY := Lib.hid (show rnd y < 2 ^ 256 by have := rnd_le y; omega)
    have csx := Lib.hid fun w => short_any x hx w
    have csy := Lib.hid fun w => short_any y hy w
    have ctx := Lib.hid fun w => target_any (sht x) (sht_lt x hx) w
    have cty := Lib.hid fun w => target_any (sht y) (sht_lt y hy) w
    rw [tgt_sht1 x hx] at ctx
    rw [tgt_sht1 y hy] at cty
    generalize (tgt (sht x)).2 = ox at *
    generalize (tgt (sht y)).2 = oy at *
    generalize rnd x = rx at *
    generalize rnd y = ry at *
    clear hx hy hxy k0 k1
    obtain ⟨K0_0, K0_1, K0_2, K0_3, K0_f, K0_z⟩ := cells4 K0.out
    obtain ⟨K1_0, K1_1, K1_2, K1_3, K1_f, K1_z⟩ := cells4 K1.out
    go_wp2_with fail
    refine (csx.out _).mono ?_
    rintro e w3 ⟨rfl, hbw3⟩
    have K0' := Lib.hid (below_keep hbw3 (by first | exact K0.out | exact keep_alloc _ (K0.out) | exact keep_alloc _ (keep_alloc _ (K0.out)) | exact keep_alloc _ (keep_alloc _ (keep_alloc _ (K0.out))) | exact keep_alloc _ (keep_alloc _ (keep_alloc _ (keep_alloc _ (K0.out)))) | exact keep_alloc _ (keep_alloc _ (keep_alloc _ (keep_alloc _ (keep_alloc _ (K0.out)))))))
    have K1' := Lib.hid (below_keep hbw3 (by first | exact K1.out | exact keep_alloc _ (K1.out) | exact keep_alloc _ (keep_alloc _ (K1.out)) | exact keep_alloc _ (keep_alloc _ (keep_alloc _ (K1.out))) | exact keep_alloc _ (keep_alloc _ (keep_alloc _ (keep_alloc _ (K1.out)))) | exact keep_alloc _ (keep_alloc _ (keep_alloc _ (keep_alloc _ (keep_alloc _ (K1.out)))))))
    have B' := below_next (w := w) (by repeat' (first | (with_reducible exact Below.refl _ _) | (with_reducible assumption) | (with_reducible refine below_alloc ?_ _) | (with_reducible refine Below.drew ?_) | (with_reducible refine below_drewN ?_ _) | (with_reducible refine Below.setCell ?_ ?_ _) | go_size)) hbw3
    clear hbw3 B K0 K1 K0_0 K0_1 K0_2 K0_3 K0_f K0_z K1_0 K1_1 K1_2 K1_3 K1_f K1_z
    have B := B'; clear B'
    have K0 := K0'; clear K0'
    obtain ⟨K0_0, K0_1, K0_2, K0_3, K0_f, K0_z⟩ := cells4 K0.out
    have K1 := K1'; clear K1'
    obtain ⟨K1_0, K1_1, K1_2, K1_3, K1_f, K1_z⟩ := cells4 K1.out
    go_wp2_with fail
    refine (ctx.out _).mono ?_
    rintro e w4 ⟨rfl, hbw4⟩
    have K0' := Lib.hid (below_keep hbw4 (by first | exact K0.out | exact keep_alloc _ (K0.out) | exact keep_alloc _ (keep_alloc _ (K0.out)) | exact keep_alloc _ (keep_alloc _ (keep_alloc _ (K0.out))) | exact keep_alloc _ (keep_alloc _ (keep_alloc _ (keep_alloc _ (K0.out)))) | exact keep_alloc _ (keep_alloc _ (keep_alloc _ (keep_alloc _ (keep_alloc _ (K0.out)))))))
    have K1' := Lib.hid (below_keep hbw4 (by first | exact K1.out | exact keep_alloc _ (K1.out) | exact keep_alloc _ (keep_alloc _ (K1.out)) | exact keep_alloc _ (keep_alloc _ (keep_alloc _ (K1.out))) | exact keep_alloc _ (keep_alloc _ (keep_alloc _ (keep_alloc _ (K1.out)))) | exact keep_alloc _ (keep_alloc _ (keep_alloc _ (keep_alloc _ (keep_alloc _ (K1.out)))))))
    have B' := below_next (w := w) (by repeat' (first | (with_reducible exact Below.refl _ _) | (with_reducible assumption) | (with_reducible refine below_alloc ?_ _) | (with_reducible refine Below.drew ?_) | (with_reducible refine below_drewN ?_ _) | (with_reducible refine Below.setCell ?_ ?_ _) | go_size)) hbw4
    clear hbw4 B K0 K1 K0_0 K0_1 K0_2 K0_3 K0_f K0_z K1_0 K1_1 K1_2 K1_3 K1_f K1_z
    have B := B'; clear B'
    have K0 := K0'; clear K0'
    obtain ⟨K0_0, K0_1, K0_2, K0_3, K0_f, K0_z⟩ := cells4 K0.out
    have K1 := K1'; clear K1'
    obtain ⟨K1_0, K1_1, K1_2, K1_3, K1_f, K1_z⟩ := cells4 K1.out
    have K2 := Lib.hid (heap_new w4 (nblk rx))
    go_wp2_with fail
    refine (csy.out _).mono ?_
    rintro e w5 ⟨rfl, hbw5⟩
    have K0' := Lib.hid (below_keep hbw5 (by first | exact K0.out | exact keep_alloc _ (K0.out) | exact keep_alloc _ (keep_alloc _ (K0.out)) | exact keep_alloc _ (keep_alloc _ (keep_alloc _ (K0.out))) | exact keep_alloc _ (keep_alloc _ (keep_alloc _ (keep_alloc _ (K0.out)))) | exact keep_alloc _ (keep_alloc _ (keep_alloc _ (keep_alloc _ (keep_alloc _ (K0.out)))))))
    have K1' := Lib.hid (below_keep hbw5 (by first | exact K1.out | exact keep_alloc _ (K1.out) | exact keep_alloc _ (keep_alloc _ (K1.out)) | exact keep_alloc _ (keep_alloc _ (keep_alloc _ (K1.out))) | exact keep_alloc _ (keep_alloc _ (keep_alloc _ (keep_alloc _ (K1.out)))) | exact keep_alloc _ (keep_alloc _ (keep_alloc _ (keep_alloc _ (keep_alloc _ (K1.out)))))))
    have K2' := Lib.hid (below_keep hbw5 (by first | exact K2.out | exact keep_alloc _ (K2.out) | exact keep_alloc _ (keep_alloc _ (K2.out)) | exact keep_alloc _ (keep_alloc _ (keep_alloc _ (K2.out))) | exact keep_alloc _ (keep_alloc _ (keep_alloc _ (keep_alloc _ (K2.out)))) | exact keep_alloc _ (keep_alloc _ (keep_alloc _ (keep_alloc _ (keep_alloc _ (K2.out)))))))
    have B' := below_next (w := w) (by repeat' (first | (with_reducible exact Below.refl _ _) | (with_reducible assumption) | (with_reducible refine below_alloc ?_ _) | (with_reducible refine Below.drew ?_) | (with_reducible refine below_drewN ?_ _) | (with_reducible refine Below.setCell ?_ ?_ _) | go_size)) hbw5
    clear hbw5 B K0 K1 K2 K0_0 K0_1 K0_2 K0_3 K0_f K0_z K1_0 K1_1 K1_2 K1_3 K1_f K1_z
    have B := B'; clear B'
    have K0 := K0'; clear K0'
    obtain ⟨K0_0, K0_1, K0_2, K0_3, K0_f, K0_z⟩ := cells4 K0.out
    have K1 := K1'; clear K1'
    obtain ⟨K1_0, K1_1, K1_2, K1_3, K1_f, K1_z⟩ := cells4 K1.out
    have K2 := K2'; clear K2'
    obtain ⟨K2_0, K2_1, K2_2, K2_3, K2_f, K2_z⟩ := cells4 K2.out
    go_wp2_with fail
    refine (cty.out _).mono ?_
    rintro e w6 ⟨rfl, hbw6⟩
    have K0' := Lib.hid (below_keep hbw6 (by first | exact K0.out | exact keep_alloc _ (K0.out) | exact keep_alloc _ (keep_alloc _ (K0.out)) | exact keep_alloc _ (keep_alloc _ (keep_alloc _ (K0.out))) | exact keep_alloc _ (keep_alloc _ (keep_alloc _ (keep_alloc _ (K0.out)))) | exact keep_alloc _ (keep_alloc _ (keep_alloc _ (keep_alloc _ (keep_alloc _ (K0.out)))))))
    have K1' := Lib.hid (below_keep hbw6 (by first | exact K1.out | exact keep_alloc _ (K1.out) | exact keep_alloc _ (keep_alloc _ (K1.out)) | exact keep_alloc _ (keep_alloc _ (keep_alloc _ (K1.out))) | exact keep_alloc _ (keep_alloc _ (keep_alloc _ (keep_alloc _ (K1.out)))) | exact keep_alloc _ (keep_alloc _ (keep_alloc _ (keep_alloc _ (keep_alloc _ (K1.out)))))))
    have K2' := Lib.hid (below_keep hbw6 (by first | exact K2.out | exact keep_alloc _ (K2.out) | exact keep_alloc _ (keep_alloc _ (K2.out)) | exact keep_alloc _ (keep_alloc _ (keep_alloc _ (K2.out))) | exact keep_alloc _ (keep_alloc _ (keep_alloc _ (keep_alloc _ (K2.out)))) | exact keep_alloc _ (keep_alloc _ (keep_alloc _ (keep_alloc _ (keep_alloc _ (K2.out)))))))
    have B' := below_next (w := w) (by repeat' (first | (with_reducible exact Below.refl _ _) | (with_reducible assumption) | (with_reducible refine below_alloc ?_ _) | (with_reducible refine Below.drew ?_) | (with_reducible refine below_drewN ?_ _) | (with_reducible refine Below.setCell ?_ ?_ _) | go_size)) hbw6
    clear hbw6 B K0 K1 K2 K0_0 K0_1 K0_2 K0_3 K0_f K0_z K1_0 K1_1 K1_2 K1_3 K1_f K1_z K2_0 K2_1 K2_2 K2_3 K2_f K2_z
    have B := B'; clear B'
    have K0 := K0'; clear K0'
    obtain ⟨K0_0, K0_1, K0_2, K0_3, K0_f, K0_z⟩ := cells4 K0.out
    have K1 := K1'; clear K1'
    obtain ⟨K1_0, K1_1, K1_2, K1_3, K1_f, K1_z⟩ := cells4 K1.out
    have K2 := K2'; clear K2'
    obtain ⟨K2_0, K2_1, K2_2, K2_3, K2_f, K2_z⟩ := cells4 K2.out
    have K3 := Lib.hid (heap_new w6 (nblk ry))
    go_wp2_with fail
    refine (cmp_any rx ry HRX.out HRY.out _).mono ?_
    rintro e w7 ⟨rfl, hbw7⟩
    have K0' := Lib.hid (below_keep hbw7 (by first | exact K0.out | exact keep_alloc _ (K0.out) | exact keep_alloc _ (keep_alloc _ (K0.out)) | exact keep_alloc _ (keep_alloc _ (keep_alloc _ (K0.out))) | exact keep_alloc _ (keep_alloc _ (keep_alloc _ (keep_alloc _ (K0.out)))) | exact keep_alloc _ (keep_alloc _ (keep_alloc _ (keep_alloc _ (keep_alloc _ (K0.out)))))))
    have K1' := Lib.hid (below_keep hbw7 (by first | exact K1.out | exact keep_alloc _ (K1.out) | exact keep_alloc _ (keep_alloc _ (K1.out)) | exact keep_alloc _ (keep_alloc _ (keep_alloc _ (K1.out))) | exact keep_alloc _ (keep_alloc _ (keep_alloc _ (keep_alloc _ (K1.out)))) | exact keep_alloc _ (keep_alloc _ (keep_alloc _ (keep_alloc _ (keep_alloc _ (K1.out)))))))
    have K2' := Lib.hid (below_keep hbw7 (by first | exact K2.out | exact keep_alloc _ (K2.out) | exact keep_alloc _ (keep_alloc _ (K2.out)) | exact keep_alloc _ (keep_alloc _ (keep_alloc _ (K2.out))) | exact keep_alloc _ (keep_alloc _ (keep_alloc _ (keep_alloc _ (K2.out)))) | exact keep_alloc _ (keep_alloc _ (keep_alloc _ (keep_alloc _ (keep_alloc _ (K2.out)))))))
    have K3' := Lib.hid (below_keep hbw7 (by first | exact K3.out | exact keep_alloc _ (K3.out) | exact keep_alloc _ (keep_alloc _ (K3.out)) | exact keep_alloc _ (keep_alloc _ (keep_alloc _ (K3.out))) | exact keep_alloc _ (keep_alloc _ (keep_alloc _ (keep_alloc _ (K3.out)))) | exact keep_alloc _ (keep_alloc _ (keep_alloc _ (keep_alloc _ (keep_alloc _ (K3.out)))))))
    have B' := below_next (w := w) (by repeat' (first | (with_reducible exact Below.refl _ _) | (with_reducible assumption) | (with_reducible refine below_alloc ?_ _) | (with_reducible refine Below.drew ?_) | (with_reducible refine below_drewN ?_ _) | (with_reducible refine Below.setCell ?_ ?_ _) | go_size)) hbw7
    clear hbw7 B K0 K1 K2 K3 K0_0 K0_1 K0_2 K0_3 K0_f K0_z K1_0 K1_1 K1_2 K1_3 K1_f K1_z K2_0 K2_1 K2_2 K2_3 K2_f K2_z
    have B := B'; clear B'
    have K0 := K0'; clear K0'
    obtain ⟨K0_0, K0_1, K0_2, K0_3, K0_f, K0_z⟩ := cells4 K0.out
    have K1 := K1'; clear K1'
    obtain ⟨K1_0, K1_1, K1_2, K1_3, K1_f, K1_z⟩ := cells4 K1.out
    have K2 := K2'; clear K2'
    obtain ⟨K2_0, K2_1, K2_2, K2_3, K2_f, K2_z⟩ := cells4 K2.out
    have K3 := K3'; clear K3'
    obtain ⟨K3_0, K3_1, K3_2, K3_3, K3_f, K3_z⟩ := cells4 K3.out
    go_wp2_with fail
    refine (cmp_any rx x HRX.out HX.out _).mono ?_
    rintro e w8 ⟨rfl, hbw8⟩
    have K0' := Lib.hid (below_keep hbw8 (by first | exact K0.out | exact keep_alloc _ (K0.out) | exact keep_alloc _ (keep_alloc _ (K0.out)) | exact keep_alloc _ (keep_alloc _ (keep_alloc _ (K0.out))) | exact keep_alloc _ (keep_alloc _ (keep_alloc _ (keep_alloc _ (K0.out)))) | exact keep_alloc _ (keep_alloc _ (keep_alloc _ (keep_alloc _ (keep_alloc _ (K0.out)))))))
    have K1' := Lib.hid (below_keep hbw8 (by first | exact K1.out | exact keep_alloc _ (K1.out) | exact keep_alloc _ (keep_alloc _ (K1.out)) | exact keep_alloc _ (keep_alloc _ (keep_alloc _ (K1.out))) | exact keep_alloc _ (keep_alloc _ (keep_alloc _ (keep_alloc _ (K1.out)))) | exact keep_alloc _ (keep_alloc _ (keep_alloc _ (keep_alloc _ (keep_alloc _ (K1.out)))))))
    have K2' := Lib.hid (below_keep hbw8 (by first | exact K2.out | exact keep_alloc _ (K2.out) | exact keep_alloc _ (keep_alloc _ (K2.out)) | exact keep_alloc _ (keep_alloc _ (keep_alloc _ (K2.out))) | exact keep_alloc _ (keep_alloc _ (keep_alloc _ (keep_alloc _ (K2.out)))) | exact keep_alloc _ (keep_alloc _ (keep_alloc _ (keep_alloc _ (keep_alloc _ (K2.out)))))))
    have K3' := Lib.hid (below_keep hbw8 (by first | exact K3.out | exact keep_alloc _ (K3.out) | exact keep_alloc _ (keep_alloc _ (K3.out)) | exact keep_alloc _ (keep_alloc _ (keep_alloc _ (K3.out))) | exact keep_alloc _ (keep_alloc _ (keep_alloc _ (keep_alloc _ (K3.out)))) | exact keep_alloc _ (keep_alloc _ (keep_alloc _ (keep_alloc _ (keep_alloc _ (K3.out)))))))
    have B' := below_next (w := w) (by repeat' (first | (with_reducible exact Below.refl _ _) | (with_reducible assumption) | (with_reducible refine below_alloc ?_ _) | (with_reducible refine Below.drew ?_) | (with_reducible refine below_drewN ?_ _) | (with_reducible refine Below.setCell ?_ ?_ _) | go_size)) hbw8
    clear hbw8 B K0 K1 K2 K3 K0_0 K0_1 K0_2 K0_3 K0_f K0_z K1_0 K1_1 K1_2 K1_3 K1_f K1_z K2_0 K2_1 K2_2 K2_3 K2_f K2_z K3_0 K3_1 K3_2 K3_3 K3_f K3_z
    have B := B'; clear B'
    have K0 := K0'; clear K0'
    obtain ⟨K0_0, K0_1, K0_2, K0_3, K0_f, K0_z⟩ := cells4 K0.out
    have K1 := K1'; clear K1'
    obtain ⟨K1_0, K1_1, K1_2, K1_3, K1_f, K1_z⟩ := cells4 K1.out
    have K2 := K2'; clear K2'
    obtain ⟨K2_0, K2_1, K2_2, K2_3, K2_f, K2_z⟩ := cells4 K2.out
    have K3 := K3'; clear K3'
    obtain ⟨K3_0, K3_1, K3_2, K3_3, K3_f, K3_z⟩ := cells4 K3.out
    go_wp2_with fail
    refine (cmp_any ry y HRY.out HY.out _).mono ?_
    rintro e w9 ⟨rfl, hbw9⟩
    have K0' := Lib.hid (below_keep hbw9 (by first | exact K0.out | exact keep_alloc _ (K0.out) | exact keep_alloc _ (keep_alloc _ (K0.out)) | exact keep_alloc _ (keep_alloc _ (keep_alloc _ (K0.out))) | exact keep_alloc _ (keep_alloc _ (keep_alloc _ (keep_alloc _ (K0.out)))) | exact keep_alloc _ (keep_alloc _ (keep_alloc _ (keep_alloc _ (keep_alloc _ (K0.out)))))))
    have K1' := Lib.hid (below_keep hbw9 (by first | exact K1.out | exact keep_alloc _ (K1.out) | exact keep_alloc _ (keep_alloc _ (K1.out)) | exact keep_alloc _ (keep_alloc _ (keep_alloc _ (K1.out))) | exact keep_alloc _ (keep_alloc _ (keep_alloc _ (keep_alloc _ (K1.out)))) | exact keep_alloc _ (keep_alloc _ (keep_alloc _ (keep_alloc _ (keep_alloc _ (K1.out)))))))
    have K2' := Lib.hid (below_keep hbw9 (by first | exact K2.out | exact keep_alloc _ (K2.out) | exact keep_alloc _ (keep_alloc _ (K2.out)) | exact keep_alloc _ (keep_alloc _ (keep_alloc _ (K2.out))) | exact keep_alloc _ (keep_alloc _ (keep_alloc _ (keep_alloc _ (K2.out)))) | exact keep_alloc _ (keep_alloc _ (keep_alloc _ (keep_alloc _ (keep_alloc _ (K2.out)))))))
    have K3' := Lib.hid (below_keep hbw9 (by first | exact K3.out | exact keep_alloc _ (K3.out) | exact keep_alloc _ (keep_alloc _ (K3.out)) | exact keep_alloc _ (keep_alloc _ (keep_alloc _ (K3.out))) | exact keep_alloc _ (keep_alloc _ (keep_alloc _ (keep_alloc _ (K3.out)))) | exact keep_alloc _ (keep_alloc _ (keep_alloc _ (keep_alloc _ (keep_alloc _ (K3.out)))))))
    have B' := below_next (w := w) (by repeat' (first | (with_reducible exact Below.refl _ _) | (with_reducible assumption) | (with_reducible refine below_alloc ?_ _) | (with_reducible refine Below.drew ?_) | (with_reducible refine below_drewN ?_ _) | (with_reducible refine Below.setCell ?_ ?_ _) | go_size)) hbw9
    clear hbw9 B K0 K1 K2 K3 K0_0 K0_1 K0_2 K0_3 K0_f K0_z K1_0 K1_1 K1_2 K1_3 K1_f K1_z K2_0 K2_1 K2_2 K2_3 K2_f K2_z K3_0 K3_1 K3_2 K3_3 K3_f K3_z
    have B := B'; clear B'
    have K0 := K0'; clear K0'
    obtain ⟨K0_0, K0_1, K0_2, K0_3, K0_f, K0_z⟩ := cells4 K0.out
    have K1 := K1'; clear K1'
    obtain ⟨K1_0, K1_1, K1_2, K1_3, K1_f, K1_z⟩ := cells4 K1.out
    have K2 := K2'; clear K2'
    obtain ⟨K2_0, K2_1, K2_2, K2_3, K2_f, K2_z⟩ := cells4 K2.out
    have K3 := K3'; clear K3'
    obtain ⟨K3_0, K3_1, K3_2, K3_3, K3_f, K3_z⟩ := cells4 K3.out
    go_wp2_with fail
    go_ret
    exact ⟨rfl, (by repeat' (first | (with_reducible exact Below.refl _ _) | (with_reducible assumption) | (with_reducible refine below_alloc ?_ _) | (with_reducible refine Below.drew ?_) | (with_reducible refine below_drewN ?_ _) | (with_reducible refine Below.setCell ?_ ?_ _) | go_size))⟩

set_option maxRecDepth 100000 in
theorem BitsOrder_lifted (os : Os) (started : os.Started) (H : Type) (enc : TypeId × Value → H) :
    ReturnsInHanded {} Try.checked os 14 .any (Rows.bitsOrderSpec.pre6 enc Try.prog Try.f14 Rows.bitsOrderRow.domain false) (Rows.bitsOrderSpec.post enc Try.prog Try.f14 false true false false) := by
  refine returnsInHanded_of_change (C := Try.checked) own started (by kernel_rfl) Try.func14
    (ChangeSpec.witness6 (enc := enc) (C := Try.checked) false ⟨#[], #[.agg #[.int .u64 0, .int .u64 0, .int .u64 0, .int .u64 0], .agg #[.int .u64 0, .int .u64 0, .int .u64 0, .int .u64 0]], []⟩ 8 (by kernel_rfl) (by kernel_rfl) (by kernel_rfl) (by kernel_rfl)) ?_
  intro W base args ds gs before hval0 hW hcnd _
  have hval : ∀ (j : Nat) t v, Try.f14.params[j]? = some t → args[j]? = some v → Value.okWide Try.prog W .any base t v := hval0
  have hW' := hW
  obtain ⟨p, q, hA0, hV, rfl, hfz, hnd⟩ := hW
  have hA : DataW.TrodAll enc Try.prog W 0 (fun _ => true) true Try.f14.params.toList args.toList ds p := hA0
  rw [Try.params14] at hA hval
  obtain ⟨v0, vs0, d0, ds0, p0, q0, hargs, rfl, rfl, h0, r0⟩ := trodAll_cons hA
  obtain ⟨v1, vs1, d1, ds1, p1, q1, rfl, rfl, rfl, h1, r1⟩ := trodAll_cons r0
  obtain ⟨rfl, rfl, rfl⟩ := trodAll_nil r1
  obtain rfl : args = #[v0, v1] := by cases args; simp_all
  obtain ⟨rfl, rfl⟩ := trodVars_none hV
  have k0 := h0
  have lt0 := trod_lt_of h0
  obtain ⟨a0, b0, rfl⟩ := open_num (hval 0 24 v0 rfl rfl) h0
  have k1 := h1
  have lt1 := trod_lt_of h1
  obtain ⟨a1, b1, rfl⟩ := open_num (hval 1 24 v1 rfl rfl) h1
  clear hA0 hval0
  refine (BitsOrder_walk a0 b0 a1 b1 W).mono fun e W' ⟨he, bel⟩ => ?_
  subst he
  exact ⟨_, rfl, _, _, _, [], _, [], hW', trodAll_mk1 (shut_bool (by kernel_rfl) _), (trodAll_cons_mk (Below.trod laidOut (by kernel_rfl) (of_decide_eq_true (by kernel_rfl)) k0 bel lt0) (trodAll_cons_mk (Below.trod laidOut (by kernel_rfl) (of_decide_eq_true (by kernel_rfl)) k1 bel lt1) trodAll_mk0)), rfl, bel.frame _, fun h => by cases h⟩

theorem BitsOrder_closed : joinedFacts Try.prog 14 Try.f14 Rows.bitsOrderSpec Rows.bitsOrderRow = true := by
  simp only [joinedFacts, Bool.and_eq_true]
  repeat' apply And.intro
  all_goals first
    | (with_reducible exact head_enter)
    | (rw [head_make]; kernel_rfl)
    | (rw [head_lift]; kernel_rfl)
    | kernel_rfl

theorem BitsOrder_holds : Rows.BitsOrderSaid :=
  OpenClaim.holds_of_wide 14 Try.f14 rfl rfl rfl rfl rfl rfl rfl ⟨rfl, rfl, rfl, rfl, rfl⟩ rfl rfl rfl rfl rfl (by kernel_rfl) Try.func14 BitsOrder_closed
    (of_decide_eq_true (by kernel_rfl)) (by unfold Func.isWrapper; rw [if_neg (of_decide_eq_false (by kernel_rfl))]; exact ⟨rfl, rfl⟩)
    (fun os started H enc _ => BitsOrder_lifted os started H enc)
end Go.Proofs.Ytdffblfofdniaaa
