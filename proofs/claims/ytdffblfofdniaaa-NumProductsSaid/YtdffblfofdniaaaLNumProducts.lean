/- The law NumProducts: any number so many times, and how often any one is in another one. No condition. -/
import Derived.Test.YtdffblfofdniaaaNumLawA
import Derived.Test.YtdffblfofdniaaaRefLaw
import Derived.Test.YtdffblfofdniaaaRefDiv
import Derived.Test.YtdffblfofdniaaaNumOpen
import Derived.Test.YtdffblfofdniaaaHead
namespace Go.Proofs.Ytdffblfofdniaaa
open Go.ChangeShapes Go.WideShapes Go.ChangeAt Go.RowKit

set_option maxRecDepth 100000 in
set_option maxHeartbeats 40000000 in
theorem NumProducts_walk (a : Nat) (ha : a < 2 ^ 256) (b : Nat) (hb : b < 2 ^ 256) (n : Int) (hn : (Lit.int .u64 n).wf = true) (w : World) :
    Calls Try.prog 8 #[nv a, nv b, .int .u64 n] w fun e w' => e = .returned (.bool true) ∧ Below w.heap.size w w' := by
  have hn2 : 0 ≤ n ∧ n ≤ 18446744073709551615 := by simpa [Lit.wf, IntKind.min, IntKind.max, IntKind.signed, IntKind.bits] using hn
  obtain ⟨N, rfl⟩ := Int.eq_ofNat_of_zero_le hn2.1
  have hN : N < 18446744073709551616 := by omega
  have HA := Lib.hid ha; have HB := Lib.hid hb
  have HN := Lib.hid (show N < 2 ^ 256 by omega)
  have cm := Lib.hid fun w => mul_any a ha (N : Int) (by omega) (by omega) w
  have co := Lib.hid fun w => of_nat N w hN
  rw [Int.toNat_natCast] at cm
  have ci0 : ∀ (w : World) (b1 : Nat) (v : Value) (T : Nat), T ≤ 512 → a * N < 2 ^ T → BitsIs w b1 v (a * N) T → Calls Try.prog 27 #[nv (a * N % 2 ^ 256), .bool (decide (2 ^ 256 ≤ a * N)), v] w fun e w' => e = .returned (.bool true) ∧ Below w.heap.size w w' := fun w b1 v T hT hl h => by
    have := is2_any (a * N % 2 ^ 256) (Nat.mod_lt _ (by omega)) (decide (2 ^ 256 ≤ a * N)) b1 v (a * N) T hl (by omega) w h
    simpa using this
  have HPL := Lib.hid (Nat.mod_lt (a * N) (show 0 < 2 ^ 256 by omega))
  generalize a * N % 2 ^ 256 = P at *
  generalize decide (2 ^ 256 ≤ a * N) = o1 at *
  have ci := Lib.hid ci0
  clear ci0 ha hb hn hn2 hN
  have B : Below w.heap.size w w := Below.refl _ _
  have A := alloc2 w (nblk a) (nblk b)
  have K0 := Lib.hid A.1; have K1 := Lib.hid A.2
  clear A
  go_enter Try.func8, Try.ntmps8
  go_wp2_with fail
  refine (counts_any _).mono ?_
  rintro e w1 ⟨rfl, hbw1⟩
  have K0' := Lib.hid (below_keep hbw1 (by first | exact K0.out | exact keep_alloc _ (K0.out) | exact keep_alloc _ (keep_alloc _ (K0.out)) | exact keep_alloc _ (keep_alloc _ (keep_alloc _ (K0.out))) | exact keep_alloc _ (keep_alloc _ (keep_alloc _ (keep_alloc _ (K0.out)))) | exact keep_alloc _ (keep_alloc _ (keep_alloc _ (keep_alloc _ (keep_alloc _ (K0.out)))))))
  have K1' := Lib.hid (below_keep hbw1 (by first | exact K1.out | exact keep_alloc _ (K1.out) | exact keep_alloc _ (keep_alloc _ (K1.out)) | exact keep_alloc _ (keep_alloc _ (keep_alloc _ (K1.out))) | exact keep_alloc _ (keep_alloc _ (keep_alloc _ (keep_alloc _ (K1.out)))) | exact keep_alloc _ (keep_alloc _ (keep_alloc _ (keep_alloc _ (keep_alloc _ (K1.out)))))))
  have B' := below_next (w := w) (by repeat' (first | (with_reducible exact Below.refl _ _) | (with_reducible assumption) | (with_reducible refine below_alloc ?_ _) | (with_reducible refine Below.drew ?_) | (with_reducible refine below_drewN ?_ _) | (with_reducible refine Below.setCell ?_ ?_ _) | go_size)) hbw1
  clear hbw1 B K0 K1
  have B := B'; clear B'
  have K0 := K0'; clear K0'
  obtain ⟨K0_0, K0_1, K0_2, K0_3, K0_f, K0_z⟩ := cells4 K0.out
  have K1 := K1'; clear K1'
  obtain ⟨K1_0, K1_1, K1_2, K1_3, K1_f, K1_z⟩ := cells4 K1.out
  go_wp2_with fail
  refine (cm.out _).mono ?_
  rintro e w2 ⟨rfl, hbw2⟩
  have K0' := Lib.hid (below_keep hbw2 (by first | exact K0.out | exact keep_alloc _ (K0.out) | exact keep_alloc _ (keep_alloc _ (K0.out)) | exact keep_alloc _ (keep_alloc _ (keep_alloc _ (K0.out))) | exact keep_alloc _ (keep_alloc _ (keep_alloc _ (keep_alloc _ (K0.out)))) | exact keep_alloc _ (keep_alloc _ (keep_alloc _ (keep_alloc _ (keep_alloc _ (K0.out)))))))
  have K1' := Lib.hid (below_keep hbw2 (by first | exact K1.out | exact keep_alloc _ (K1.out) | exact keep_alloc _ (keep_alloc _ (K1.out)) | exact keep_alloc _ (keep_alloc _ (keep_alloc _ (K1.out))) | exact keep_alloc _ (keep_alloc _ (keep_alloc _ (keep_alloc _ (K1.out)))) | exact keep_alloc _ (keep_alloc _ (keep_alloc _ (keep_alloc _ (keep_alloc _ (K1.out)))))))
  have B' := below_next (w := w) (by repeat' (first | (with_reducible exact Below.refl _ _) | (with_reducible assumption) | (with_reducible refine below_alloc ?_ _) | (with_reducible refine Below.drew ?_) | (with_reducible refine below_drewN ?_ _) | (with_reducible refine Below.setCell ?_ ?_ _) | go_size)) hbw2
  clear hbw2 B K0 K1 K0_0 K0_1 K0_2 K0_3 K0_f K0_z K1_0 K1_1 K1_2 K1_3 K1_f K1_z
  have B := B'; clear B'
  have K0 := K0'; clear K0'
  obtain ⟨K0_0, K0_1, K0_2, K0_3, K0_f, K0_z⟩ := cells4 K0.out
  have K1 := K1'; clear K1'
  obtain ⟨K1_0, K1_1, K1_2, K1_3, K1_f, K1_z⟩ := cells4 K1.out
  have K2 := Lib.hid (heap_new w2 (nblk P))
  have K0' := Lib.hid (keep_alloc (nblk P) K0.out); have K1' := Lib.hid (keep_alloc (nblk P) K1.out)
  go_upto_region 4 with fail
  refine wp_abs (fun W => W.heap[w.heap.size]? = some (nblk a) ∧ W.heap[w.heap.size + 1]? = some (nblk b) ∧ W.heap[w2.heap.size]? = some (nblk P) ∧ Below w.heap.size w W) ⟨K0'.out, K1'.out, K2.out, (by repeat' (first | (with_reducible exact Below.refl _ _) | (with_reducible assumption) | (with_reducible refine below_alloc ?_ _) | (with_reducible refine Below.drew ?_) | (with_reducible refine below_drewN ?_ _) | (with_reducible refine Below.setCell ?_ ?_ _) | go_size))⟩ ?_
  clear K0 K1 K2 K0' K1' B K0_0 K0_1 K0_2 K0_3 K0_f K0_z K1_0 K1_1 K1_2 K1_3 K1_f K1_z cm
  rintro W ⟨k0, k1, k2, B⟩
  have K0 := Lib.hid k0; have K1 := Lib.hid k1; have K2 := Lib.hid k2
  clear k0 k1 k2
  obtain ⟨K0_0, K0_1, K0_2, K0_3, K0_f, K0_z⟩ := cells4 K0.out
  obtain ⟨K2_0, K2_1, K2_2, K2_3, K2_f, K2_z⟩ := cells4 K2.out
  have L0 : ∀ w', Below W.heap.size W w' → w'.cell? ⟨w.heap.size, 0, none⟩ = some (.int .u64 (lw a 0)) := fun w' h => (h.cell (p := ⟨_, 0, none⟩) K0_z).trans K0_0
  have L1 : ∀ w', Below W.heap.size W w' → w'.cell? ⟨w.heap.size, 1, none⟩ = some (.int .u64 (lw a 1)) := fun w' h => (h.cell (p := ⟨_, 1, none⟩) K0_z).trans K0_1
  have L2 : ∀ w', Below W.heap.size W w' → w'.cell? ⟨w.heap.size, 2, none⟩ = some (.int .u64 (lw a 2)) := fun w' h => (h.cell (p := ⟨_, 2, none⟩) K0_z).trans K0_2
  have L3 : ∀ w', Below W.heap.size W w' → w'.cell? ⟨w.heap.size, 3, none⟩ = some (.int .u64 (lw a 3)) := fun w' h => (h.cell (p := ⟨_, 3, none⟩) K0_z).trans K0_3
  have M0 : ∀ w', Below W.heap.size W w' → w'.cell? ⟨w2.heap.size, 0, none⟩ = some (.int .u64 (lw P 0)) := fun w' h => (h.cell (p := ⟨_, 0, none⟩) K2_z).trans K2_0
  have M1 : ∀ w', Below W.heap.size W w' → w'.cell? ⟨w2.heap.size, 1, none⟩ = some (.int .u64 (lw P 1)) := fun w' h => (h.cell (p := ⟨_, 1, none⟩) K2_z).trans K2_1
  have M2 : ∀ w', Below W.heap.size W w' → w'.cell? ⟨w2.heap.size, 2, none⟩ = some (.int .u64 (lw P 2)) := fun w' h => (h.cell (p := ⟨_, 2, none⟩) K2_z).trans K2_2
  have M3 : ∀ w', Below W.heap.size W w' → w'.cell? ⟨w2.heap.size, 3, none⟩ = some (.int .u64 (lw P 3)) := fun w' h => (h.cell (p := ⟨_, 3, none⟩) K2_z).trans K2_3
  clear K0_0 K0_1 K0_2 K0_3 K0_f K2_0 K2_1 K2_2 K2_3 K2_f
  go_region_held3 (fun w' => Below W.heap.size W w') (first | (with_reducible assumption) | exact (by repeat' (first | (with_reducible exact Below.refl _ _) | (with_reducible assumption) | (with_reducible refine below_alloc ?_ _) | (with_reducible refine Below.drew ?_) | (with_reducible refine below_drewN ?_ _) | (with_reducible refine Below.setCell ?_ ?_ _) | go_size))) (first | (go_at_call 24; refine (of2_any _ _).mono ?_; rintro e wx ⟨x, rfl, hx, hbx⟩; have hSx := below_next (w := W) (by repeat' (first | (with_reducible exact Below.refl _ _) | (with_reducible assumption) | (with_reducible refine below_alloc ?_ _) | (with_reducible refine Below.drew ?_) | (with_reducible refine below_drewN ?_ _) | (with_reducible refine Below.setCell ?_ ?_ _) | go_size)) hbx) | (go_at_call 37; refine (co.out _).mono ?_; rintro e wx ⟨rfl, hbx⟩; have hxk := BitsIs.keep hx hbx; have hSx := below_next (w := W) (by repeat' (first | (with_reducible exact Below.refl _ _) | (with_reducible assumption) | (with_reducible refine below_alloc ?_ _) | (with_reducible refine Below.drew ?_) | (with_reducible refine below_drewN ?_ _) | (with_reducible refine Below.setCell ?_ ?_ _) | go_size)) hbx) | (go_at_call 39; refine (refmul_any _ _ a 256 HA.out _ _ N 256 HN.out (by omega) (by omega) _ (by first | assumption | exact BitsIs.keep (by assumption) (by assumption)) (by first | assumption | exact BitsIs.keep (by assumption) (by assumption))).mono ?_; rintro e wx ⟨z, T, rfl, hT, hzl, hz, hbx⟩; have hSx := below_next (w := W) (by repeat' (first | (with_reducible exact Below.refl _ _) | (with_reducible assumption) | (with_reducible refine below_alloc ?_ _) | (with_reducible refine Below.drew ?_) | (with_reducible refine below_drewN ?_ _) | (with_reducible refine Below.setCell ?_ ?_ _) | go_size)) hbx) | (go_at_call 27; refine (ci.out _ _ _ _ (by assumption) (by assumption) (by assumption)).mono ?_; rintro e wx ⟨rfl, hbx⟩; have hSx := below_next (w := W) (by repeat' (first | (with_reducible exact Below.refl _ _) | (with_reducible assumption) | (with_reducible refine below_alloc ?_ _) | (with_reducible refine Below.drew ?_) | (with_reducible refine below_drewN ?_ _) | (with_reducible refine Below.setCell ?_ ?_ _) | go_size)) hbx))
  have Ka := Lib.hid (below_keep hSx K0.out); have Kb := Lib.hid (below_keep hSx K1.out)
  have B2 := below_next (w := w) B hSx
  obtain ⟨W2, hW2⟩ : ∃ W2, W2 = wx := ⟨_, rfl⟩
  subst hW2
  clear hSx hbx hz hzl hT hx hxk B K0 K1 K2 K0_z K2_z L0 L1 L2 L3 M0 M1 M2 M3 ci co
  have B := B2; have K0 := Ka; have K1 := Kb
  clear B2 Ka Kb
  obtain ⟨K0_0, K0_1, K0_2, K0_3, K0_f, K0_z⟩ := cells4 K0.out
  obtain ⟨K1_0, K1_1, K1_2, K1_3, K1_f, K1_z⟩ := cells4 K1.out
  have cd := Lib.hid fun w => div_any a b HA.out HB.out w
  have cb := Lib.hid fun w => zero_any b HB.out w
  by_cases hb0 : b = 0
  · rw [if_pos hb0, if_pos hb0, if_pos hb0] at cd
    rw [decide_eq_true hb0] at cb
    have cz := Lib.hid fun w => zero_any 0 (by omega) w
    clear hb0
    go_wp2_with fail
    refine (cd.out _).mono ?_
    rintro e w5 ⟨rfl, hbw5⟩
    have K0' := Lib.hid (below_keep hbw5 (by first | exact K0.out | exact keep_alloc _ (K0.out) | exact keep_alloc _ (keep_alloc _ (K0.out)) | exact keep_alloc _ (keep_alloc _ (keep_alloc _ (K0.out))) | exact keep_alloc _ (keep_alloc _ (keep_alloc _ (keep_alloc _ (K0.out)))) | exact keep_alloc _ (keep_alloc _ (keep_alloc _ (keep_alloc _ (keep_alloc _ (K0.out)))))))
    have K1' := Lib.hid (below_keep hbw5 (by first | exact K1.out | exact keep_alloc _ (K1.out) | exact keep_alloc _ (keep_alloc _ (K1.out)) | exact keep_alloc _ (keep_alloc _ (keep_alloc _ (K1.out))) | exact keep_alloc _ (keep_alloc _ (keep_alloc _ (keep_alloc _ (K1.out)))) | exact keep_alloc _ (keep_alloc _ (keep_alloc _ (keep_alloc _ (keep_alloc _ (K1.out)))))))
    have B' := below_next (w := w) (by repeat' (first | (with_reducible exact Below.refl _ _) | (with_reducible assumption) | (with_reducible refine below_alloc ?_ _) | (with_reducible refine Below.drew ?_) | (with_reducible refine below_drewN ?_ _) | (with_reducible refine Below.setCell ?_ ?_ _) | go_size)) hbw5
    clear hbw5 B K0 K1 K0_0 K0_1 K0_2 K0_3 K0_f K0_z K1_0 K1_1 K1_2 K1_3 K1_f K1_z
    have B := B'; clear B'
    have K0 := K0'; clear K0'
    obtain ⟨K0_0, K0_1, K0_2, K0_3, K0_f, K0_z⟩ := cells4 K0.out
    have K1 := K1'; clear K1'
    obtain ⟨K1_0, K1_1, K1_2, K1_3, K1_f, K1_z⟩ := cells4 K1.out
    have A := alloc2 w5 (nblk 0) (nblk 0)
    have K3 := Lib.hid A.1; have K4 := Lib.hid A.2
    clear A
    go_wp2_with fail
    refine (cb.out _).mono ?_
    rintro e w6 ⟨rfl, hbw6⟩
    have K0' := Lib.hid (below_keep hbw6 (by first | exact K0.out | exact keep_alloc _ (K0.out) | exact keep_alloc _ (keep_alloc _ (K0.out)) | exact keep_alloc _ (keep_alloc _ (keep_alloc _ (K0.out))) | exact keep_alloc _ (keep_alloc _ (keep_alloc _ (keep_alloc _ (K0.out)))) | exact keep_alloc _ (keep_alloc _ (keep_alloc _ (keep_alloc _ (keep_alloc _ (K0.out)))))))
    have K1' := Lib.hid (below_keep hbw6 (by first | exact K1.out | exact keep_alloc _ (K1.out) | exact keep_alloc _ (keep_alloc _ (K1.out)) | exact keep_alloc _ (keep_alloc _ (keep_alloc _ (K1.out))) | exact keep_alloc _ (keep_alloc _ (keep_alloc _ (keep_alloc _ (K1.out)))) | exact keep_alloc _ (keep_alloc _ (keep_alloc _ (keep_alloc _ (keep_alloc _ (K1.out)))))))
    have K3' := Lib.hid (below_keep hbw6 (by first | exact K3.out | exact keep_alloc _ (K3.out) | exact keep_alloc _ (keep_alloc _ (K3.out)) | exact keep_alloc _ (keep_alloc _ (keep_alloc _ (K3.out))) | exact keep_alloc _ (keep_alloc _ (keep_alloc _ (keep_alloc _ (K3.out)))) | exact keep_alloc _ (keep_alloc _ (keep_alloc _ (keep_alloc _ (keep_alloc _ (K3.out)))))))
    have K4' := Lib.hid (below_keep hbw6 (by first | exact K4.out | exact keep_alloc _ (K4.out) | exact keep_alloc _ (keep_alloc _ (K4.out)) | exact keep_alloc _ (keep_alloc _ (keep_alloc _ (K4.out))) | exact keep_alloc _ (keep_alloc _ (keep_alloc _ (keep_alloc _ (K4.out)))) | exact keep_alloc _ (keep_alloc _ (keep_alloc _ (keep_alloc _ (keep_alloc _ (K4.out)))))))
    have B' := below_next (w := w) (by repeat' (first | (with_reducible exact Below.refl _ _) | (with_reducible assumption) | (with_reducible refine below_alloc ?_ _) | (with_reducible refine Below.drew ?_) | (with_reducible refine below_drewN ?_ _) | (with_reducible refine Below.setCell ?_ ?_ _) | go_size)) hbw6
    clear hbw6 B K0 K1 K3 K4 K0_0 K0_1 K0_2 K0_3 K0_f K0_z K1_0 K1_1 K1_2 K1_3 K1_f K1_z
    have B := B'; clear B'
    have K0 := K0'; clear K0'
    obtain ⟨K0_0, K0_1, K0_2, K0_3, K0_f, K0_z⟩ := cells4 K0.out
    have K1 := K1'; clear K1'
    obtain ⟨K1_0, K1_1, K1_2, K1_3, K1_f, K1_z⟩ := cells4 K1.out
    have K3 := K3'; clear K3'
    obtain ⟨K3_0, K3_1, K3_2, K3_3, K3_f, K3_z⟩ := cells4 K3.out
    have K4 := K4'; clear K4'
    obtain ⟨K4_0, K4_1, K4_2, K4_3, K4_f, K4_z⟩ := cells4 K4.out
    go_wp2_with fail
    refine (cz.out _).mono ?_
    rintro e w7 ⟨rfl, hbw7⟩
    have K0' := Lib.hid (below_keep hbw7 (by first | exact K0.out | exact keep_alloc _ (K0.out) | exact keep_alloc _ (keep_alloc _ (K0.out)) | exact keep_alloc _ (keep_alloc _ (keep_alloc _ (K0.out))) | exact keep_alloc _ (keep_alloc _ (keep_alloc _ (keep_alloc _ (K0.out)))) | exact keep_alloc _ (keep_alloc _ (keep_alloc _ (keep_alloc _ (keep_alloc _ (K0.out)))))))
    have K1' := Lib.hid (below_keep hbw7 (by first | exact K1.out | exact keep_alloc _ (K1.out) | exact keep_alloc _ (keep_alloc _ (K1.out)) | exact keep_alloc _ (keep_alloc _ (keep_alloc _ (K1.out))) | exact keep_alloc _ (keep_alloc _ (keep_alloc _ (keep_alloc _ (K1.out)))) | exact keep_alloc _ (keep_alloc _ (keep_alloc _ (keep_alloc _ (keep_alloc _ (K1.out)))))))
    have K3' := Lib.hid (below_keep hbw7 (by first | exact K3.out | exact keep_alloc _ (K3.out) | exact keep_alloc _ (keep_alloc _ (K3.out)) | exact keep_alloc _ (keep_alloc _ (keep_alloc _ (K3.out))) | exact keep_alloc _ (keep_alloc _ (keep_alloc _ (keep_alloc _ (K3.out)))) | exact keep_alloc _ (keep_alloc _ (keep_alloc _ (keep_alloc _ (keep_alloc _ (K3.out)))))))
    have K4' := Lib.hid (below_keep hbw7 (by first | exact K4.out | exact keep_alloc _ (K4.out) | exact keep_alloc _ (keep_alloc _ (K4.out)) | exact keep_alloc _ (keep_alloc _ (keep_alloc _ (K4.out))) | exact keep_alloc _ (keep_alloc _ (keep_alloc _ (keep_alloc _ (K4.out)))) | exact keep_alloc _ (keep_alloc _ (keep_alloc _ (keep_alloc _ (keep_alloc _ (K4.out)))))))
    have B' := below_next (w := w) (by repeat' (first | (with_reducible exact Below.refl _ _) | (with_reducible assumption) | (with_reducible refine below_alloc ?_ _) | (with_reducible refine Below.drew ?_) | (with_reducible refine below_drewN ?_ _) | (with_reducible refine Below.setCell ?_ ?_ _) | go_size)) hbw7
    clear hbw7 B K0 K1 K3 K4 K0_0 K0_1 K0_2 K0_3 K0_f K0_z K1_0 K1_1 K1_2 K1_3 K1_f K1_z K3_0 K3_1 K3_2 K3_3 K3_f K3_z K4_0 K4_1 K4_2 K4_3 K4_f K4_z
    have B := B'; clear B'
    have K0 := K0'; clear K0'
    obtain ⟨K0_0, K0_1, K0_2, K0_3, K0_f, K0_z⟩ := cells4 K0.out
    have K1 := K1'; clear K1'
    obtain ⟨K1_0, K1_1, K1_2, K1_3, K1_f, K1_z⟩ := cells4 K1.out
    have K3 := K3'; clear K3'
    obtain ⟨K3_0, K3_1, K3_2, K3_3, K3_f, K3_z⟩ := cells4 K3.out
    have K4 := K4'; clear K4'
    obtain ⟨K4_0, K4_1, K4_2, K4_3, K4_f, K4_z⟩ := cells4 K4.out
    go_wp2_with fail
    refine (cz.out _).mono ?_
    rintro e w8 ⟨rfl, hbw8⟩
    have K0' := Lib.hid (below_keep hbw8 (by first | exact K0.out | exact keep_alloc _ (K0.out) | exact keep_alloc _ (keep_alloc _ (K0.out)) | exact keep_alloc _ (keep_alloc _ (keep_alloc _ (K0.out))) | exact keep_alloc _ (keep_alloc _ (keep_alloc _ (keep_alloc _ (K0.out)))) | exact keep_alloc _ (keep_alloc _ (keep_alloc _ (keep_alloc _ (keep_alloc _ (K0.out)))))))
    have K1' := Lib.hid (below_keep hbw8 (by first | exact K1.out | exact keep_alloc _ (K1.out) | exact keep_alloc _ (keep_alloc _ (K1.out)) | exact keep_alloc _ (keep_alloc _ (keep_alloc _ (K1.out))) | exact keep_alloc _ (keep_alloc _ (keep_alloc _ (keep_alloc _ (K1.out)))) | exact keep_alloc _ (keep_alloc _ (keep_alloc _ (keep_alloc _ (keep_alloc _ (K1.out)))))))
    have K3' := Lib.hid (below_keep hbw8 (by first | exact K3.out | exact keep_alloc _ (K3.out) | exact keep_alloc _ (keep_alloc _ (K3.out)) | exact keep_alloc _ (keep_alloc _ (keep_alloc _ (K3.out))) | exact keep_alloc _ (keep_alloc _ (keep_alloc _ (keep_alloc _ (K3.out)))) | exact keep_alloc _ (keep_alloc _ (keep_alloc _ (keep_alloc _ (keep_alloc _ (K3.out)))))))
    have K4' := Lib.hid (below_keep hbw8 (by first | exact K4.out | exact keep_alloc _ (K4.out) | exact keep_alloc _ (keep_alloc _ (K4.out)) | exact keep_alloc _ (keep_alloc _ (keep_alloc _ (K4.out))) | exact keep_alloc _ (keep_alloc _ (keep_alloc _ (keep_alloc _ (K4.out)))) | exact keep_alloc _ (keep_alloc _ (keep_alloc _ (keep_alloc _ (keep_alloc _ (K4.out)))))))
    have B' := below_next (w := w) (by repeat' (first | (with_reducible exact Below.refl _ _) | (with_reducible assumption) | (with_reducible refine below_alloc ?_ _) | (with_reducible refine Below.drew ?_) | (with_reducible refine below_drewN ?_ _) | (with_reducible refine Below.setCell ?_ ?_ _) | go_size)) hbw8
    clear hbw8 B K0 K1 K3 K4 K0_0 K0_1 K0_2 K0_3 K0_f K0_z K1_0 K1_1 K1_2 K1_3 K1_f K1_z K3_0 K3_1 K3_2 K3_3 K3_f K3_z K4_0 K4_1 K4_2 K4_3 K4_f K4_z
    have B := B'; clear B'
    have K0 := K0'; clear K0'
    obtain ⟨K0_0, K0_1, K0_2, K0_3, K0_f, K0_z⟩ := cells4 K0.out
    have K1 := K1'; clear K1'
    obtain ⟨K1_0, K1_1, K1_2, K1_3, K1_f, K1_z⟩ := cells4 K1.out
    have K3 := K3'; clear K3'
    obtain ⟨K3_0, K3_1, K3_2, K3_3, K3_f, K3_z⟩ := cells4 K3.out
    have K4 := K4'; clear K4'
    obtain ⟨K4_0, K4_1, K4_2, K4_3, K4_f, K4_z⟩ := cells4 K4.out
    go_wp2_with fail
    go_ret
    exact ⟨rfl, (by repeat' (first | (with_reducible exact Below.refl _ _) | (with_reducible assumption) | (with_reducible refine below_alloc ?_ _) | (with_reducible refine Below.drew ?_) | (with_reducible refine below_drewN ?_ _) | (with_reducible refine Below.setCell ?_ ?_ _) | go_size))⟩
  · rw [if_neg hb0, if_neg hb0, if_neg hb0] at cd
    rw [decide_eq_false hb0] at cb
    have hql : a / b < 2 ^ 256 := Nat.lt_of_le_of_lt (Nat.div_le_self _ _) HA.out
    have hrl : a % b < 2 ^ 256 := by have := Nat.mod_lt a (show 0 < b by omega); have := HB.out; omega
    have HQL := Lib.hid hql; have HRL := Lib.hid hrl
    have HB0 := Lib.hid (show 0 < b ∧ b ≤ 2 ^ 256 by have := HB.out; omega)
    obtain ⟨q, hq⟩ : ∃ q, q = a / b := ⟨_, rfl⟩
    obtain ⟨r, hr⟩ : ∃ r, r = a % b := ⟨_, rfl⟩
    have HQ := Lib.hid hq; have HR := Lib.hid hr
    rw [← hq, ← hr] at cd
    rw [← hq] at HQL
    rw [← hr] at HRL
    have cdv : Hid (∀ (w : World) (b1 : Nat) (v : Value) (b2 : Nat) (u : Value), BitsIs w b1 v a 256 → BitsIs w b2 u b 256 → Calls Try.prog 41 #[v, u] w fun e w' => ∃ x y T, e = .returned (.tuple #[x, y]) ∧ BitsIs w' w.heap.size x q 256 ∧ BitsIs w' w.heap.size y r T ∧ T ≤ 257 + 256 ∧ r < 2 ^ T ∧ Below w.heap.size w w') := Lib.hid fun w b1 v b2 u h1 h2 => by
      rw [HQ.out, HR.out]
      exact refdiv_any b1 v a 256 HA.out b2 u b 256 HB.out HB0.out.1 HB0.out.2 (by omega) (by omega) w h1 h2
    have ci1 : Hid (∀ (w : World) (b1 : Nat) (v : Value), BitsIs w b1 v q 256 → Calls Try.prog 27 #[nv q, .bool false, v] w fun e w' => e = .returned (.bool true) ∧ Below w.heap.size w w') := Lib.hid fun w b1 v h => by
      have := is2_any q HQL.out false b1 v q 256 HQL.out (by omega) w h
      rw [Nat.mod_eq_of_lt HQL.out, decide_eq_true rfl, decide_eq_false (by have := HQL.out; omega)] at this
      exact this
    have ci2 : Hid (∀ (w : World) (b1 : Nat) (v : Value) (T : Nat), T ≤ 1000 → r < 2 ^ T → BitsIs w b1 v r T → Calls Try.prog 27 #[nv r, .bool false, v] w fun e w' => e = .returned (.bool true) ∧ Below w.heap.size w w') := Lib.hid fun w b1 v T hT hl h => by
      have := is2_any r HRL.out false b1 v r T hl (by omega) w h
      rw [Nat.mod_eq_of_lt HRL.out, decide_eq_true rfl, decide_eq_false (by have := HRL.out; omega)] at this
      exact this
    clear hb0 hql hrl hq hr
    go_wp2_with fail
    refine (cd.out _).mono ?_
    rintro e w5 ⟨rfl, hbw5⟩
    have K0' := Lib.hid (below_keep hbw5 (by first | exact K0.out | exact keep_alloc _ (K0.out) | exact keep_alloc _ (keep_alloc _ (K0.out)) | exact keep_alloc _ (keep_alloc _ (keep_alloc _ (K0.out))) | exact keep_alloc _ (keep_alloc _ (keep_alloc _ (keep_alloc _ (K0.out)))) | exact keep_alloc _ (keep_alloc _ (keep_alloc _ (keep_alloc _ (keep_alloc _ (K0.out)))))))
    have K1' := Lib.hid (below_keep hbw5 (by first | exact K1.out | exact keep_alloc _ (K1.out) | exact keep_alloc _ (keep_alloc _ (K1.out)) | exact keep_alloc _ (keep_alloc _ (keep_alloc _ (K1.out))) | exact keep_alloc _ (keep_alloc _ (keep_alloc _ (keep_alloc _ (K1.out)))) | exact keep_alloc _ (keep_alloc _ (keep_alloc _ (keep_alloc _ (keep_alloc _ (K1.out)))))))
    have B' := below_next (w := w) (by repeat' (first | (with_reducible exact Below.refl _ _) | (with_reducible assumption) | (with_reducible refine below_alloc ?_ _) | (with_reducible refine Below.drew ?_) | (with_reducible refine below_drewN ?_ _) | (with_reducible refine Below.setCell ?_ ?_ _) | go_size)) hbw5
    clear hbw5 B K0 K1 K0_0 K0_1 K0_2 K0_3 K0_f K0_z K1_0 K1_1 K1_2 K1_3 K1_f K1_z
    have B := B'; clear B'
    have K0 := K0'; clear K0'
    obtain ⟨K0_0, K0_1, K0_2, K0_3, K0_f, K0_z⟩ := cells4 K0.out
    have K1 := K1'; clear K1'
    obtain ⟨K1_0, K1_1, K1_2, K1_3, K1_f, K1_z⟩ := cells4 K1.out
    have A := alloc2 w5 (nblk q) (nblk r)
    have K3 := Lib.hid A.1; have K4 := Lib.hid A.2
    clear A
    go_wp2_with fail
    refine (cb.out _).mono ?_
    rintro e w6 ⟨rfl, hbw6⟩
    have K0' := Lib.hid (below_keep hbw6 (by first | exact K0.out | exact keep_alloc _ (K0.out) | exact keep_alloc _ (keep_alloc _ (K0.out)) | exact keep_alloc _ (keep_alloc _ (keep_alloc _ (K0.out))) | exact keep_alloc _ (keep_alloc _ (keep_alloc _ (keep_alloc _ (K0.out)))) | exact keep_alloc _ (keep_alloc _ (keep_alloc _ (keep_alloc _ (keep_alloc _ (K0.out)))))))
    have K1' := Lib.hid (below_keep hbw6 (by first | exact K1.out | exact keep_alloc _ (K1.out) | exact keep_alloc _ (keep_alloc _ (K1.out)) | exact keep_alloc _ (keep_alloc _ (keep_alloc _ (K1.out))) | exact keep_alloc _ (keep_alloc _ (keep_alloc _ (keep_alloc _ (K1.out)))) | exact keep_alloc _ (keep_alloc _ (keep_alloc _ (keep_alloc _ (keep_alloc _ (K1.out)))))))
    have K3' := Lib.hid (below_keep hbw6 (by first | exact K3.out | exact keep_alloc _ (K3.out) | exact keep_alloc _ (keep_alloc _ (K3.out)) | exact keep_alloc _ (keep_alloc _ (keep_alloc _ (K3.out))) | exact keep_alloc _ (keep_alloc _ (keep_alloc _ (keep_alloc _ (K3.out)))) | exact keep_alloc _ (keep_alloc _ (keep_alloc _ (keep_alloc _ (keep_alloc _ (K3.out)))))))
    have K4' := Lib.hid (below_keep hbw6 (by first | exact K4.out | exact keep_alloc _ (K4.out) | exact keep_alloc _ (keep_alloc _ (K4.out)) | exact keep_alloc _ (keep_alloc _ (keep_alloc _ (K4.out))) | exact keep_alloc _ (keep_alloc _ (keep_alloc _ (keep_alloc _ (K4.out)))) | exact keep_alloc _ (keep_alloc _ (keep_alloc _ (keep_alloc _ (keep_alloc _ (K4.out)))))))
    have B' := below_next (w := w) (by repeat' (first | (with_reducible exact Below.refl _ _) | (with_reducible assumption) | (with_reducible refine below_alloc ?_ _) | (with_reducible refine Below.drew ?_) | (with_reducible refine below_drewN ?_ _) | (with_reducible refine Below.setCell ?_ ?_ _) | go_size)) hbw6
    clear hbw6 B K0 K1 K3 K4 K0_0 K0_1 K0_2 K0_3 K0_f K0_z K1_0 K1_1 K1_2 K1_3 K1_f K1_z
    have B := B'; clear B'
    have K0 := K0'; clear K0'
    obtain ⟨K0_0, K0_1, K0_2, K0_3, K0_f, K0_z⟩ := cells4 K0.out
    have K1 := K1'; clear K1'
    obtain ⟨K1_0, K1_1, K1_2, K1_3, K1_f, K1_z⟩ := cells4 K1.out
    have K3 := K3'; clear K3'
    obtain ⟨K3_0, K3_1, K3_2, K3_3, K3_f, K3_z⟩ := cells4 K3.out
    have K4 := K4'; clear K4'
    obtain ⟨K4_0, K4_1, K4_2, K4_3, K4_f, K4_z⟩ := cells4 K4.out
    clear cd cb
    go_upto_region 9 with fail
    obtain ⟨V, hV⟩ : ∃ V, V = w6 := ⟨_, rfl⟩
    subst hV
    have L0 : ∀ w', Below V.heap.size V w' → w'.cell? ⟨w.heap.size, 0, none⟩ = some (.int .u64 (lw a 0)) := fun w' h => (h.cell (p := ⟨_, 0, none⟩) K0_z).trans K0_0
    have L1 : ∀ w', Below V.heap.size V w' → w'.cell? ⟨w.heap.size, 1, none⟩ = some (.int .u64 (lw a 1)) := fun w' h => (h.cell (p := ⟨_, 1, none⟩) K0_z).trans K0_1
    have L2 : ∀ w', Below V.heap.size V w' → w'.cell? ⟨w.heap.size, 2, none⟩ = some (.int .u64 (lw a 2)) := fun w' h => (h.cell (p := ⟨_, 2, none⟩) K0_z).trans K0_2
    have L3 : ∀ w', Below V.heap.size V w' → w'.cell? ⟨w.heap.size, 3, none⟩ = some (.int .u64 (lw a 3)) := fun w' h => (h.cell (p := ⟨_, 3, none⟩) K0_z).trans K0_3
    have M0 : ∀ w', Below V.heap.size V w' → w'.cell? ⟨w.heap.size + 1, 0, none⟩ = some (.int .u64 (lw b 0)) := fun w' h => (h.cell (p := ⟨_, 0, none⟩) K1_z).trans K1_0
    have M1 : ∀ w', Below V.heap.size V w' → w'.cell? ⟨w.heap.size + 1, 1, none⟩ = some (.int .u64 (lw b 1)) := fun w' h => (h.cell (p := ⟨_, 1, none⟩) K1_z).trans K1_1
    have M2 : ∀ w', Below V.heap.size V w' → w'.cell? ⟨w.heap.size + 1, 2, none⟩ = some (.int .u64 (lw b 2)) := fun w' h => (h.cell (p := ⟨_, 2, none⟩) K1_z).trans K1_2
    have M3 : ∀ w', Below V.heap.size V w' → w'.cell? ⟨w.heap.size + 1, 3, none⟩ = some (.int .u64 (lw b 3)) := fun w' h => (h.cell (p := ⟨_, 3, none⟩) K1_z).trans K1_3
    clear K0_0 K0_1 K0_2 K0_3 K0_f K1_0 K1_1 K1_2 K1_3 K1_f K3_0 K3_1 K3_2 K3_3 K3_f K4_0 K4_1 K4_2 K4_3 K4_f
    go_region_held3 (fun w' => Below V.heap.size V w') (first | (with_reducible assumption) | exact (by repeat' (first | (with_reducible exact Below.refl _ _) | (with_reducible assumption) | (with_reducible refine below_alloc ?_ _) | (with_reducible refine Below.drew ?_) | (with_reducible refine below_drewN ?_ _) | (with_reducible refine Below.setCell ?_ ?_ _) | go_size))) (first | (go_at_call 24; refine (of2_any _ _).mono ?_; rintro e wx ⟨x, rfl, hx, hbx⟩; have hSx := below_next (w := V) (by repeat' (first | (with_reducible exact Below.refl _ _) | (with_reducible assumption) | (with_reducible refine below_alloc ?_ _) | (with_reducible refine Below.drew ?_) | (with_reducible refine below_drewN ?_ _) | (with_reducible refine Below.setCell ?_ ?_ _) | go_size)) hbx) | (go_at_call 41; refine (cdv.out _ _ _ _ _ (by first | assumption | exact BitsIs.keep (by assumption) (by assumption)) (by first | assumption | exact BitsIs.keep (by assumption) (by assumption))).mono ?_; rintro e wx ⟨qx, rx, T, rfl, hqx, hrx, hT, hrT, hbx⟩; have hSx := below_next (w := V) (by repeat' (first | (with_reducible exact Below.refl _ _) | (with_reducible assumption) | (with_reducible refine below_alloc ?_ _) | (with_reducible refine Below.drew ?_) | (with_reducible refine below_drewN ?_ _) | (with_reducible refine Below.setCell ?_ ?_ _) | go_size)) hbx))
    have K3' := Lib.hid (below_keep hSx K3.out); have K4' := Lib.hid (below_keep hSx K4.out)
    have B2 := below_next (w := w) B hSx
    have HQX := Lib.hid hqx; have HRX := Lib.hid hrx; have HTT := Lib.hid (show T ≤ 1000 by omega); have HRT := Lib.hid hrT
    clear hSx hbx hqx hrx hT hrT hx B K0 K1 K3 K4 K0_z K1_z K3_z K4_z L0 L1 L2 L3 M0 M1 M2 M3 cdv
    have B := B2; have K3 := K3'; have K4 := K4'
    clear B2 K3' K4'
    obtain ⟨K3_0, K3_1, K3_2, K3_3, K3_f, K3_z⟩ := cells4 K3.out
    go_wp2_with fail
    refine (ci1.out _ _ _ HQX.out).mono ?_
    rintro e w8 ⟨rfl, hb8⟩
    have K4' := Lib.hid (below_keep hb8 K4.out)
    have HRX2 := Lib.hid (HRX.out.keep hb8)
    have B2 := below_next B hb8
    clear hb8 K3 K4 HQX HRX B K3_0 K3_1 K3_2 K3_3 K3_f K3_z ci1
    have B := B2
    obtain ⟨K4_0, K4_1, K4_2, K4_3, K4_f, K4_z⟩ := cells4 K4'.out
    go_wp2_with fail
    refine (ci2.out _ _ _ _ HTT.out HRT.out HRX2.out).mono ?_
    rintro e w9 ⟨rfl, hb9⟩
    have B3 := below_next B hb9
    clear hb9 K4' HRX2 B B2 K4_0 K4_1 K4_2 K4_3 K4_f K4_z ci2
    go_wp2_with fail
    go_ret
    exact ⟨rfl, B3⟩

set_option maxRecDepth 100000 in
theorem NumProducts_lifted (os : Os) (started : os.Started) (H : Type) (enc : TypeId × Value → H) :
    ReturnsInHanded {} Try.checked os 8 .any (Rows.numProductsSpec.pre6 enc Try.prog Try.f8 Rows.numProductsRow.domain false) (Rows.numProductsSpec.post enc Try.prog Try.f8 false true false false) := by
  refine returnsInHanded_of_change (C := Try.checked) own started (by kernel_rfl) Try.func8
    (ChangeSpec.witness6 (enc := enc) (C := Try.checked) false ⟨#[], #[.agg #[.int .u64 0, .int .u64 0, .int .u64 0, .int .u64 0], .agg #[.int .u64 0, .int .u64 0, .int .u64 0, .int .u64 0], .int .u64 0], []⟩ 8 (by kernel_rfl) (by kernel_rfl) (by kernel_rfl) (by kernel_rfl)) ?_
  intro W base args ds gs before hval0 hW hcnd _
  have hval : ∀ (j : Nat) t v, Try.f8.params[j]? = some t → args[j]? = some v → Value.okWide Try.prog W .any base t v := hval0
  have hW' := hW
  obtain ⟨p, q, hA0, hV, rfl, hfz, hnd⟩ := hW
  have hA : DataW.TrodAll enc Try.prog W 0 (fun _ => true) true Try.f8.params.toList args.toList ds p := hA0
  rw [Try.params8] at hA hval
  obtain ⟨v0, vs0, d0, ds0, p0, q0, hargs, rfl, rfl, h0, r0⟩ := trodAll_cons hA
  obtain ⟨v1, vs1, d1, ds1, p1, q1, rfl, rfl, rfl, h1, r1⟩ := trodAll_cons r0
  obtain ⟨v2, vs2, d2, ds2, p2, q2, rfl, rfl, rfl, h2, r2⟩ := trodAll_cons r1
  obtain ⟨rfl, rfl, rfl⟩ := trodAll_nil r2
  obtain rfl : args = #[v0, v1, v2] := by cases args; simp_all
  obtain ⟨rfl, rfl⟩ := trodVars_none hV
  have k0 := h0
  have lt0 := trod_lt_of h0
  obtain ⟨a0, b0, rfl⟩ := open_num (hval 0 24 v0 rfl rfl) h0
  have k1 := h1
  have lt1 := trod_lt_of h1
  obtain ⟨a1, b1, rfl⟩ := open_num (hval 1 24 v1 rfl rfl) h1
  have k2 := h2
  have lt2 := trod_lt_of h2
  obtain ⟨a2, rfl, rfl, rfl, b2⟩ := open_int Try.underlying22 (hval 2 22 v2 rfl rfl) h2
  clear hA0 hval0
  refine (NumProducts_walk a0 b0 a1 b1 a2 b2 W).mono fun e W' ⟨he, bel⟩ => ?_
  subst he
  exact ⟨_, rfl, _, _, _, [], _, [], hW', trodAll_mk1 (shut_bool (by kernel_rfl) _), (trodAll_cons_mk (Below.trod laidOut (by kernel_rfl) (of_decide_eq_true (by kernel_rfl)) k0 bel lt0) (trodAll_cons_mk (Below.trod laidOut (by kernel_rfl) (of_decide_eq_true (by kernel_rfl)) k1 bel lt1) (trodAll_cons_mk (Below.trod laidOut (by kernel_rfl) (of_decide_eq_true (by kernel_rfl)) k2 bel lt2) trodAll_mk0))), rfl, bel.frame _, fun h => by cases h⟩

theorem NumProducts_closed : joinedFacts Try.prog 8 Try.f8 Rows.numProductsSpec Rows.numProductsRow = true := by
  simp only [joinedFacts, Bool.and_eq_true]
  repeat' apply And.intro
  all_goals first
    | (with_reducible exact head_enter)
    | (rw [head_make]; kernel_rfl)
    | (rw [head_lift]; kernel_rfl)
    | kernel_rfl

theorem NumProducts_holds : Rows.NumProductsSaid :=
  OpenClaim.holds_of_wide 8 Try.f8 rfl rfl rfl rfl rfl rfl rfl ⟨rfl, rfl, rfl, rfl, rfl⟩ rfl rfl rfl rfl rfl (by kernel_rfl) Try.func8 NumProducts_closed
    (of_decide_eq_true (by kernel_rfl)) (by unfold Func.isWrapper; rw [if_neg (of_decide_eq_false (by kernel_rfl))]; exact ⟨rfl, rfl⟩)
    (fun os started H enc _ => NumProducts_lifted os started H enc)
end Go.Proofs.Ytdffblfofdniaaa
