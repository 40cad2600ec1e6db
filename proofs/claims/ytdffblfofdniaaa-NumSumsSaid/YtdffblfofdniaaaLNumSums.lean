/- The law NumSums: any two numbers' sum and difference, and whether they fit; and which is greater. No condition. -/
import Derived.Test.YtdffblfofdniaaaNumLawA
import Derived.Test.YtdffblfofdniaaaRefLaw
import Derived.Test.YtdffblfofdniaaaNumOpen
import Derived.Test.YtdffblfofdniaaaHead
namespace Go.Proofs.Ytdffblfofdniaaa
open Go.ChangeShapes Go.WideShapes Go.ChangeAt Go.RowKit

set_option maxRecDepth 100000 in
set_option maxHeartbeats 40000000 in
theorem NumSums_walk (a : Nat) (ha : a < 2 ^ 256) (b : Nat) (hb : b < 2 ^ 256) (w : World) :
    Calls Try.prog 3 #[nv a, nv b] w fun e w' => e = .returned (.bool true) ∧ Below w.heap.size w w' := by
  have HA := Lib.hid ha; have HB := Lib.hid hb
  have HSS := Lib.hid (Nat.mod_lt (a + b) (show 0 < 2 ^ 256 by omega))
  have HDD := Lib.hid (Nat.mod_lt (a + 2 ^ 256 - b) (show 0 < 2 ^ 256 by omega))
  clear ha hb
  have B : Below w.heap.size w w := Below.refl _ _
  have A := alloc2 w (nblk a) (nblk b)
  have K0 := Lib.hid A.1; have K1 := Lib.hid A.2
  clear A
  go_enter Try.func3, Try.ntmps3
  go_wp2_with fail
  refine (counts_any _).mono ?_
  rintro e w1 ⟨rfl, hbw1⟩
  have K0' := Lib.hid (below_keep hbw1 (by first | exact K0.out | exact keep_alloc _ (K0.out) | exact keep_alloc _ (keep_alloc _ (K0.out)) | exact keep_alloc _ (keep_alloc _ (keep_alloc _ (K0.out))) | exact keep_alloc _ (keep_alloc _ (keep_alloc _ (keep_alloc _ (K0.out)))) | exact keep_alloc _ (keep_alloc _ (keep_alloc _ (keep_alloc _ (keep_alloc _ (K0.out)))))))
  have K1' := Lib.hid (below_keep hbw1 (by first | exact K1.out | exact keep_alloc _ (K1.out) | exact keep_alloc _ (keep_alloc _ (K1.out)) | exact keep_alloc _ (keep_alloc _ (keep_alloc _ (K1.out))) | exact keep_alloc _ (keep_alloc _ (keep_alloc _ (keep_alloc _ (K1.out)))) | exact keep_alloc _ (keep_alloc _ (keep_alloc _ (keep_alloc _ (keep_alloc _ (K1.out)))))))
  have B' := below_next (w := w) (by repeat' (first | (with_reducible exact Below.refl _ _) | (with_reducible assumption) | (with_reducible refine below_alloc ?_ _) | (with_reducible refine Below.drew ?_) | (with_reducible refine below_drewN ?_ _) | (with_reducible refine Below.setCell ?_ ?_ _) | go_size)) hbw1
  clear hbw1 B K0 K1
  have B := B'; clear B'
  have K0 := K0'; clear K0'
  obtain ⟨K0_0, K0_1, K0_2, K0_3, K0_f, K0_z⟩ := cells4 K0.out
  have K1 := K1'; clear K1'
  obtain ⟨K1_0, K1_1, K1_2, K1_3, K1_f, K1_z⟩ := cells4 K1.out
  go_wp2_with fail
  refine (add2_any a b HA.out HB.out _ _ _ (heap_new _ _)).mono ?_
  rintro e w2 ⟨rfl, hbw2⟩
  have K0' := Lib.hid (below_keep hbw2 (by first | exact K0.out | exact keep_alloc _ (K0.out) | exact keep_alloc _ (keep_alloc _ (K0.out)) | exact keep_alloc _ (keep_alloc _ (keep_alloc _ (K0.out))) | exact keep_alloc _ (keep_alloc _ (keep_alloc _ (keep_alloc _ (K0.out)))) | exact keep_alloc _ (keep_alloc _ (keep_alloc _ (keep_alloc _ (keep_alloc _ (K0.out)))))))
  have K1' := Lib.hid (below_keep hbw2 (by first | exact K1.out | exact keep_alloc _ (K1.out) | exact keep_alloc _ (keep_alloc _ (K1.out)) | exact keep_alloc _ (keep_alloc _ (keep_alloc _ (K1.out))) | exact keep_alloc _ (keep_alloc _ (keep_alloc _ (keep_alloc _ (K1.out)))) | exact keep_alloc _ (keep_alloc _ (keep_alloc _ (keep_alloc _ (keep_alloc _ (K1.out)))))))
  have B' := below_next (w := w) (by repeat' (first | (with_reducible exact Below.refl _ _) | (with_reducible assumption) | (with_reducible refine below_alloc ?_ _) | (with_reducible refine Below.drew ?_) | (with_reducible refine below_drewN ?_ _) | (with_reducible refine Below.setCell ?_ ?_ _) | go_size)) hbw2
  clear hbw2 B K0 K1 K0_0 K0_1 K0_2 K0_3 K0_f K0_z K1_0 K1_1 K1_2 K1_3 K1_f K1_z
  have B := B'; clear B'
  have K0 := K0'; clear K0'
  obtain ⟨K0_0, K0_1, K0_2, K0_3, K0_f, K0_z⟩ := cells4 K0.out
  have K1 := K1'; clear K1'
  obtain ⟨K1_0, K1_1, K1_2, K1_3, K1_f, K1_z⟩ := cells4 K1.out
  generalize hS : (a + b) % 2 ^ 256 = S at *
  generalize hO : decide (2 ^ 256 ≤ a + b) = o1 at *
  have ES := Lib.hid hS; have EO := Lib.hid hO
  clear hS hO
  have K2 := Lib.hid (heap_new w2 (nblk S))
  go_wp2_with fail
  refine (sub_any a b HA.out HB.out _).mono ?_
  rintro e w3 ⟨rfl, hbw3⟩
  have K0' := Lib.hid (below_keep hbw3 (by first | exact K0.out | exact keep_alloc _ (K0.out) | exact keep_alloc _ (keep_alloc _ (K0.out)) | exact keep_alloc _ (keep_alloc _ (keep_alloc _ (K0.out))) | exact keep_alloc _ (keep_alloc _ (keep_alloc _ (keep_alloc _ (K0.out)))) | exact keep_alloc _ (keep_alloc _ (keep_alloc _ (keep_alloc _ (keep_alloc _ (K0.out)))))))
  have K1' := Lib.hid (below_keep hbw3 (by first | exact K1.out | exact keep_alloc _ (K1.out) | exact keep_alloc _ (keep_alloc _ (K1.out)) | exact keep_alloc _ (keep_alloc _ (keep_alloc _ (K1.out))) | exact keep_alloc _ (keep_alloc _ (keep_alloc _ (keep_alloc _ (K1.out)))) | exact keep_alloc _ (keep_alloc _ (keep_alloc _ (keep_alloc _ (keep_alloc _ (K1.out)))))))
  have K2' := Lib.hid (below_keep hbw3 (by first | exact K2.out | exact keep_alloc _ (K2.out) | exact keep_alloc _ (keep_alloc _ (K2.out)) | exact keep_alloc _ (keep_alloc _ (keep_alloc _ (K2.out))) | exact keep_alloc _ (keep_alloc _ (keep_alloc _ (keep_alloc _ (K2.out)))) | exact keep_alloc _ (keep_alloc _ (keep_alloc _ (keep_alloc _ (keep_alloc _ (K2.out)))))))
  have B' := below_next (w := w) (by repeat' (first | (with_reducible exact Below.refl _ _) | (with_reducible assumption) | (with_reducible refine below_alloc ?_ _) | (with_reducible refine Below.drew ?_) | (with_reducible refine below_drewN ?_ _) | (with_reducible refine Below.setCell ?_ ?_ _) | go_size)) hbw3
  clear hbw3 B K0 K1 K2 K0_0 K0_1 K0_2 K0_3 K0_f K0_z K1_0 K1_1 K1_2 K1_3 K1_f K1_z
  have B := B'; clear B'
  have K0 := K0'; clear K0'
  obtain ⟨K0_0, K0_1, K0_2, K0_3, K0_f, K0_z⟩ := cells4 K0.out
  have K1 := K1'; clear K1'
  obtain ⟨K1_0, K1_1, K1_2, K1_3, K1_f, K1_z⟩ := cells4 K1.out
  have K2 := K2'; clear K2'
  obtain ⟨K2_0, K2_1, K2_2, K2_3, K2_f, K2_z⟩ := cells4 K2.out
  generalize hD : (a + 2 ^ 256 - b) % 2 ^ 256 = D at *
  have ED := Lib.hid hD
  generalize hL1 : decide (a < b) = l1 at *
  have EL1 := Lib.hid hL1
  clear hD hL1
  have K3 := Lib.hid (heap_new w3 (nblk D))
  have K0' := Lib.hid (keep_alloc (nblk D) K0.out); have K1' := Lib.hid (keep_alloc (nblk D) K1.out); have K2' := Lib.hid (keep_alloc (nblk D) K2.out)
  go_upto_region 5 with fail
  refine wp_abs (fun W => W.heap[w.heap.size]? = some (nblk a) ∧ W.heap[w.heap.size + 1]? = some (nblk b) ∧ W.heap[w2.heap.size]? = some (nblk S) ∧ W.heap[w3.heap.size]? = some (nblk D) ∧ Below w.heap.size w W)
    ⟨K0'.out, K1'.out, K2'.out, K3.out, (by repeat' (first | (with_reducible exact Below.refl _ _) | (with_reducible assumption) | (with_reducible refine below_alloc ?_ _) | (with_reducible refine Below.drew ?_) | (with_reducible refine below_drewN ?_ _) | (with_reducible refine Below.setCell ?_ ?_ _) | go_size))⟩ ?_
  clear K0 K1 K2 K3 B K0' K1' K2' K0_0 K0_1 K0_2 K0_3 K0_f K0_z K1_0 K1_1 K1_2 K1_3 K1_f K1_z K2_0 K2_1 K2_2 K2_3 K2_f K2_z
  rintro W ⟨k0, k1, k2, k3, B⟩
  have K0 := Lib.hid k0; have K1 := Lib.hid k1; have K2 := Lib.hid k2; have K3 := Lib.hid k3
  clear k0 k1 k2 k3
  obtain ⟨K0_0, K0_1, K0_2, K0_3, K0_f, K0_z⟩ := cells4 K0.out
  obtain ⟨K1_0, K1_1, K1_2, K1_3, K1_f, K1_z⟩ := cells4 K1.out
  have L0 : ∀ w', Below W.heap.size W w' → w'.cell? ⟨w.heap.size, 0, none⟩ = some (.int .u64 (lw a 0)) := fun w' h => (h.cell (p := ⟨_, 0, none⟩) K0_z).trans K0_0
  have L1 : ∀ w', Below W.heap.size W w' → w'.cell? ⟨w.heap.size, 1, none⟩ = some (.int .u64 (lw a 1)) := fun w' h => (h.cell (p := ⟨_, 1, none⟩) K0_z).trans K0_1
  have L2 : ∀ w', Below W.heap.size W w' → w'.cell? ⟨w.heap.size, 2, none⟩ = some (.int .u64 (lw a 2)) := fun w' h => (h.cell (p := ⟨_, 2, none⟩) K0_z).trans K0_2
  have L3 : ∀ w', Below W.heap.size W w' → w'.cell? ⟨w.heap.size, 3, none⟩ = some (.int .u64 (lw a 3)) := fun w' h => (h.cell (p := ⟨_, 3, none⟩) K0_z).trans K0_3
  have M0 : ∀ w', Below W.heap.size W w' → w'.cell? ⟨w.heap.size + 1, 0, none⟩ = some (.int .u64 (lw b 0)) := fun w' h => (h.cell (p := ⟨_, 0, none⟩) K1_z).trans K1_0
  have M1 : ∀ w', Below W.heap.size W w' → w'.cell? ⟨w.heap.size + 1, 1, none⟩ = some (.int .u64 (lw b 1)) := fun w' h => (h.cell (p := ⟨_, 1, none⟩) K1_z).trans K1_1
  have M2 : ∀ w', Below W.heap.size W w' → w'.cell? ⟨w.heap.size + 1, 2, none⟩ = some (.int .u64 (lw b 2)) := fun w' h => (h.cell (p := ⟨_, 2, none⟩) K1_z).trans K1_2
  have M3 : ∀ w', Below W.heap.size W w' → w'.cell? ⟨w.heap.size + 1, 3, none⟩ = some (.int .u64 (lw b 3)) := fun w' h => (h.cell (p := ⟨_, 3, none⟩) K1_z).trans K1_3
  clear K0_0 K0_1 K0_2 K0_3 K0_f K1_0 K1_1 K1_2 K1_3 K1_f
  go_region_held3 (fun w' => Below W.heap.size W w') (first | (with_reducible assumption) | exact (by repeat' (first | (with_reducible exact Below.refl _ _) | (with_reducible assumption) | (with_reducible refine below_alloc ?_ _) | (with_reducible refine Below.drew ?_) | (with_reducible refine below_drewN ?_ _) | (with_reducible refine Below.setCell ?_ ?_ _) | go_size))) (first | (go_at_call 24; refine (of2_any _ _).mono ?_; rintro e wx ⟨x, rfl, hx, hbx⟩; have hSx := below_next (w := W) (by repeat' (first | (with_reducible exact Below.refl _ _) | (with_reducible assumption) | (with_reducible refine below_alloc ?_ _) | (with_reducible refine Below.drew ?_) | (with_reducible refine below_drewN ?_ _) | (with_reducible refine Below.setCell ?_ ?_ _) | go_size)) hbx) | (go_at_call 23; refine (numsub_any (by first | assumption | exact BitsIs.keep (by assumption) (by assumption)) (by first | assumption | exact BitsIs.keep (by assumption) (by assumption)) (by first | exact HA.out | exact HB.out) (by first | exact HA.out | exact HB.out)).mono ?_; rintro e wz ⟨z, rfl, hz, hbz⟩; have hSz := below_next (w := W) (by repeat' (first | (with_reducible exact Below.refl _ _) | (with_reducible assumption) | (with_reducible refine below_alloc ?_ _) | (with_reducible refine Below.drew ?_) | (with_reducible refine below_drewN ?_ _) | (with_reducible refine Below.setCell ?_ ?_ _) | go_size)) hbz))
  rw [ED.out] at hz
  rw [EL1.out]
  have Ka := Lib.hid (below_keep hSz K0.out); have Kb := Lib.hid (below_keep hSz K1.out); have Kc := Lib.hid (below_keep hSz K2.out); have Kd := Lib.hid (below_keep hSz K3.out)
  have B2 := below_next (w := w) B hSz
  have HZ := Lib.hid hz
  clear hz hbz hSz hx hbx hSx K0 K1 K2 K3 K0_z K1_z L0 L1 L2 L3 M0 M1 M2 M3 B ED
  have B := B2; have K0 := Ka; have K1 := Kb; have K2 := Kc; have K3 := Kd
  clear B2 Ka Kb Kc Kd
  go_wp2_with fail
  refine (numwords_any HZ.out HDD.out).mono ?_
  rintro e w5 ⟨rfl, hbw5⟩
  have K0' := Lib.hid (below_keep hbw5 (by first | exact K0.out | exact keep_alloc _ (K0.out) | exact keep_alloc _ (keep_alloc _ (K0.out)) | exact keep_alloc _ (keep_alloc _ (keep_alloc _ (K0.out))) | exact keep_alloc _ (keep_alloc _ (keep_alloc _ (keep_alloc _ (K0.out)))) | exact keep_alloc _ (keep_alloc _ (keep_alloc _ (keep_alloc _ (keep_alloc _ (K0.out)))))))
  have K1' := Lib.hid (below_keep hbw5 (by first | exact K1.out | exact keep_alloc _ (K1.out) | exact keep_alloc _ (keep_alloc _ (K1.out)) | exact keep_alloc _ (keep_alloc _ (keep_alloc _ (K1.out))) | exact keep_alloc _ (keep_alloc _ (keep_alloc _ (keep_alloc _ (K1.out)))) | exact keep_alloc _ (keep_alloc _ (keep_alloc _ (keep_alloc _ (keep_alloc _ (K1.out)))))))
  have K2' := Lib.hid (below_keep hbw5 (by first | exact K2.out | exact keep_alloc _ (K2.out) | exact keep_alloc _ (keep_alloc _ (K2.out)) | exact keep_alloc _ (keep_alloc _ (keep_alloc _ (K2.out))) | exact keep_alloc _ (keep_alloc _ (keep_alloc _ (keep_alloc _ (K2.out)))) | exact keep_alloc _ (keep_alloc _ (keep_alloc _ (keep_alloc _ (keep_alloc _ (K2.out)))))))
  have K3' := Lib.hid (below_keep hbw5 (by first | exact K3.out | exact keep_alloc _ (K3.out) | exact keep_alloc _ (keep_alloc _ (K3.out)) | exact keep_alloc _ (keep_alloc _ (keep_alloc _ (K3.out))) | exact keep_alloc _ (keep_alloc _ (keep_alloc _ (keep_alloc _ (K3.out)))) | exact keep_alloc _ (keep_alloc _ (keep_alloc _ (keep_alloc _ (keep_alloc _ (K3.out)))))))
  have B' := below_next (w := w) (by repeat' (first | (with_reducible exact Below.refl _ _) | (with_reducible assumption) | (with_reducible refine below_alloc ?_ _) | (with_reducible refine Below.drew ?_) | (with_reducible refine below_drewN ?_ _) | (with_reducible refine Below.setCell ?_ ?_ _) | go_size)) hbw5
  clear hbw5 B K0 K1 K2 K3
  have B := B'; clear B'
  have K0 := K0'; clear K0'
  obtain ⟨K0_0, K0_1, K0_2, K0_3, K0_f, K0_z⟩ := cells4 K0.out
  have K1 := K1'; clear K1'
  obtain ⟨K1_0, K1_1, K1_2, K1_3, K1_f, K1_z⟩ := cells4 K1.out
  have K2 := K2'; clear K2'
  obtain ⟨K2_0, K2_1, K2_2, K2_3, K2_f, K2_z⟩ := cells4 K2.out
  have K3 := K3'; clear K3'
  obtain ⟨K3_0, K3_1, K3_2, K3_3, K3_f, K3_z⟩ := cells4 K3.out
  have K4 := Lib.hid (heap_new w5 (.cells #[.int .u64 (lw D 0), .int .u64 (lw D 1), .int .u64 (lw D 2), .int .u64 (lw D 3)] 23 (0, 0)))
  go_wp2_with fail
  refine (cmp_any a b HA.out HB.out _).mono ?_
  rintro e w6 ⟨rfl, hbw6⟩
  have K0' := Lib.hid (below_keep hbw6 (by first | exact K0.out | exact keep_alloc _ (K0.out) | exact keep_alloc _ (keep_alloc _ (K0.out)) | exact keep_alloc _ (keep_alloc _ (keep_alloc _ (K0.out))) | exact keep_alloc _ (keep_alloc _ (keep_alloc _ (keep_alloc _ (K0.out)))) | exact keep_alloc _ (keep_alloc _ (keep_alloc _ (keep_alloc _ (keep_alloc _ (K0.out)))))))
  have K1' := Lib.hid (below_keep hbw6 (by first | exact K1.out | exact keep_alloc _ (K1.out) | exact keep_alloc _ (keep_alloc _ (K1.out)) | exact keep_alloc _ (keep_alloc _ (keep_alloc _ (K1.out))) | exact keep_alloc _ (keep_alloc _ (keep_alloc _ (keep_alloc _ (K1.out)))) | exact keep_alloc _ (keep_alloc _ (keep_alloc _ (keep_alloc _ (keep_alloc _ (K1.out)))))))
  have K2' := Lib.hid (below_keep hbw6 (by first | exact K2.out | exact keep_alloc _ (K2.out) | exact keep_alloc _ (keep_alloc _ (K2.out)) | exact keep_alloc _ (keep_alloc _ (keep_alloc _ (K2.out))) | exact keep_alloc _ (keep_alloc _ (keep_alloc _ (keep_alloc _ (K2.out)))) | exact keep_alloc _ (keep_alloc _ (keep_alloc _ (keep_alloc _ (keep_alloc _ (K2.out)))))))
  have K3' := Lib.hid (below_keep hbw6 (by first | exact K3.out | exact keep_alloc _ (K3.out) | exact keep_alloc _ (keep_alloc _ (K3.out)) | exact keep_alloc _ (keep_alloc _ (keep_alloc _ (K3.out))) | exact keep_alloc _ (keep_alloc _ (keep_alloc _ (keep_alloc _ (K3.out)))) | exact keep_alloc _ (keep_alloc _ (keep_alloc _ (keep_alloc _ (keep_alloc _ (K3.out)))))))
  have K4' := Lib.hid (below_keep hbw6 (by first | exact K4.out | exact keep_alloc _ (K4.out) | exact keep_alloc _ (keep_alloc _ (K4.out)) | exact keep_alloc _ (keep_alloc _ (keep_alloc _ (K4.out))) | exact keep_alloc _ (keep_alloc _ (keep_alloc _ (keep_alloc _ (K4.out)))) | exact keep_alloc _ (keep_alloc _ (keep_alloc _ (keep_alloc _ (keep_alloc _ (K4.out)))))))
  have B' := below_next (w := w) (by repeat' (first | (with_reducible exact Below.refl _ _) | (with_reducible assumption) | (with_reducible refine below_alloc ?_ _) | (with_reducible refine Below.drew ?_) | (with_reducible refine below_drewN ?_ _) | (with_reducible refine Below.setCell ?_ ?_ _) | go_size)) hbw6
  clear hbw6 B K0 K1 K2 K3 K4 K0_0 K0_1 K0_2 K0_3 K0_f K0_z K1_0 K1_1 K1_2 K1_3 K1_f K1_z K2_0 K2_1 K2_2 K2_3 K2_f K2_z K3_0 K3_1 K3_2 K3_3 K3_f K3_z
  have B := B'; clear B'
  have K0 := K0'; clear K0'
  obtain ⟨K0_0, K0_1, K0_2, K0_3, K0_f, K0_z⟩ := cells4 K0.out
  have K1 := K1'; clear K1'
  obtain ⟨K1_0, K1_1, K1_2, K1_3, K1_f, K1_z⟩ := cells4 K1.out
  have K2 := K2'; clear K2'
  obtain ⟨K2_0, K2_1, K2_2, K2_3, K2_f, K2_z⟩ := cells4 K2.out
  have K3 := K3'; clear K3'
  obtain ⟨K3_0, K3_1, K3_2, K3_3, K3_f, K3_z⟩ := cells4 K3.out
  have K4 := K4'; clear K4'
  obtain ⟨K4_0, K4_1, K4_2, K4_3, K4_f, K4_z⟩ := cells4 K4.out
  go_upto_region 8 with fail
  obtain ⟨V, hV⟩ : ∃ V, V = w6 := ⟨_, rfl⟩
  subst hV
  have BV := Lib.hid B
  have L0 : ∀ w', Below V.heap.size V w' → w'.cell? ⟨w.heap.size, 0, none⟩ = some (.int .u64 (lw a 0)) := fun w' h => (h.cell (p := ⟨_, 0, none⟩) K0_z).trans K0_0
  have L1 : ∀ w', Below V.heap.size V w' → w'.cell? ⟨w.heap.size, 1, none⟩ = some (.int .u64 (lw a 1)) := fun w' h => (h.cell (p := ⟨_, 1, none⟩) K0_z).trans K0_1
  have L2 : ∀ w', Below V.heap.size V w' → w'.cell? ⟨w.heap.size, 2, none⟩ = some (.int .u64 (lw a 2)) := fun w' h => (h.cell (p := ⟨_, 2, none⟩) K0_z).trans K0_2
  have L3 : ∀ w', Below V.heap.size V w' → w'.cell? ⟨w.heap.size, 3, none⟩ = some (.int .u64 (lw a 3)) := fun w' h => (h.cell (p := ⟨_, 3, none⟩) K0_z).trans K0_3
  have M0 : ∀ w', Below V.heap.size V w' → w'.cell? ⟨w.heap.size + 1, 0, none⟩ = some (.int .u64 (lw b 0)) := fun w' h => (h.cell (p := ⟨_, 0, none⟩) K1_z).trans K1_0
  have M1 : ∀ w', Below V.heap.size V w' → w'.cell? ⟨w.heap.size + 1, 1, none⟩ = some (.int .u64 (lw b 1)) := fun w' h => (h.cell (p := ⟨_, 1, none⟩) K1_z).trans K1_1
  have M2 : ∀ w', Below V.heap.size V w' → w'.cell? ⟨w.heap.size + 1, 2, none⟩ = some (.int .u64 (lw b 2)) := fun w' h => (h.cell (p := ⟨_, 2, none⟩) K1_z).trans K1_2
  have M3 : ∀ w', Below V.heap.size V w' → w'.cell? ⟨w.heap.size + 1, 3, none⟩ = some (.int .u64 (lw b 3)) := fun w' h => (h.cell (p := ⟨_, 3, none⟩) K1_z).trans K1_3
  have N0 : ∀ w', Below V.heap.size V w' → w'.cell? ⟨w2.heap.size, 0, none⟩ = some (.int .u64 (lw S 0)) := fun w' h => (h.cell (p := ⟨_, 0, none⟩) K2_z).trans K2_0
  have N1 : ∀ w', Below V.heap.size V w' → w'.cell? ⟨w2.heap.size, 1, none⟩ = some (.int .u64 (lw S 1)) := fun w' h => (h.cell (p := ⟨_, 1, none⟩) K2_z).trans K2_1
  have N2 : ∀ w', Below V.heap.size V w' → w'.cell? ⟨w2.heap.size, 2, none⟩ = some (.int .u64 (lw S 2)) := fun w' h => (h.cell (p := ⟨_, 2, none⟩) K2_z).trans K2_2
  have N3 : ∀ w', Below V.heap.size V w' → w'.cell? ⟨w2.heap.size, 3, none⟩ = some (.int .u64 (lw S 3)) := fun w' h => (h.cell (p := ⟨_, 3, none⟩) K2_z).trans K2_3
  have P0 : ∀ w', Below V.heap.size V w' → w'.cell? ⟨w3.heap.size, 0, none⟩ = some (.int .u64 (lw D 0)) := fun w' h => (h.cell (p := ⟨_, 0, none⟩) K3_z).trans K3_0
  have P1 : ∀ w', Below V.heap.size V w' → w'.cell? ⟨w3.heap.size, 1, none⟩ = some (.int .u64 (lw D 1)) := fun w' h => (h.cell (p := ⟨_, 1, none⟩) K3_z).trans K3_1
  have P2 : ∀ w', Below V.heap.size V w' → w'.cell? ⟨w3.heap.size, 2, none⟩ = some (.int .u64 (lw D 2)) := fun w' h => (h.cell (p := ⟨_, 2, none⟩) K3_z).trans K3_2
  have P3 : ∀ w', Below V.heap.size V w' → w'.cell? ⟨w3.heap.size, 3, none⟩ = some (.int .u64 (lw D 3)) := fun w' h => (h.cell (p := ⟨_, 3, none⟩) K3_z).trans K3_3
  have R0 : ∀ w', Below V.heap.size V w' → w'.cell? ⟨w5.heap.size, 0, none⟩ = some (.int .u64 (lw D 0)) := fun w' h => (h.cell (p := ⟨_, 0, none⟩) K4_z).trans K4_0
  have R1 : ∀ w', Below V.heap.size V w' → w'.cell? ⟨w5.heap.size, 1, none⟩ = some (.int .u64 (lw D 1)) := fun w' h => (h.cell (p := ⟨_, 1, none⟩) K4_z).trans K4_1
  have R2 : ∀ w', Below V.heap.size V w' → w'.cell? ⟨w5.heap.size, 2, none⟩ = some (.int .u64 (lw D 2)) := fun w' h => (h.cell (p := ⟨_, 2, none⟩) K4_z).trans K4_2
  have R3 : ∀ w', Below V.heap.size V w' → w'.cell? ⟨w5.heap.size, 3, none⟩ = some (.int .u64 (lw D 3)) := fun w' h => (h.cell (p := ⟨_, 3, none⟩) K4_z).trans K4_3
  clear B K0_0 K0_1 K0_2 K0_3 K0_f K1_0 K1_1 K1_2 K1_3 K1_f K2_0 K2_1 K2_2 K2_3 K2_f K3_0 K3_1 K3_2 K3_3 K3_f K4_0 K4_1 K4_2 K4_3 K4_f HZ
  have ci : Hid (∀ (w : World) (b1 : Nat) (v : Value), BitsIs w b1 v (a + b) 257 → Calls Try.prog 27 #[nv S, .bool o1, v] w fun e w' => e = .returned (.bool true) ∧ Below w.heap.size w w') := Lib.hid fun w b1 v h => by
    have := is2_any S HSS.out o1 b1 v (a + b) 257 (by have := HA.out; have := HB.out; omega) (by omega) w h
    rw [ES.out, EO.out] at this
    simpa using this
  have cz := Lib.hid fun w => zero_any a HA.out w
  have q0 := eq_num0 a HA.out
  generalize decide (a = 0) = z0 at *
  have qD : ∀ w : World, (Op.equalIn 10000 24 (nv D) (nv D)).run Try.prog w = .ok true w := fun w => by rw [eq_num D D HDD.out HDD.out w, decide_eq_true rfl]
  have qab := eq_num a b HA.out HB.out
  generalize hc : cmpn a b = c at *
  have EC := Lib.hid hc
  clear hc ES EO
  obtain ⟨l2, hl2⟩ : ∃ l2, l2 = decide (b < a) := ⟨_, rfl⟩
  obtain ⟨e1, he1⟩ : ∃ e1, e1 = decide (a = b) := ⟨_, rfl⟩
  have cl1 : Hid (∀ (w : World) b1 v b2 u, BitsIs w b1 v a 256 → BitsIs w b2 u b 256 → Calls Try.prog 29 #[v, u] w fun e w' => e = .returned (.bool l1) ∧ Below w.heap.size w w') := Lib.hid fun w b1 v b2 u h1 h2 => by
    rw [← EL1.out]; exact numless_any h1 h2 HA.out HB.out
  have cl2 : Hid (∀ (w : World) b1 v b2 u, BitsIs w b1 v b 256 → BitsIs w b2 u a 256 → Calls Try.prog 29 #[v, u] w fun e w' => e = .returned (.bool l2) ∧ Below w.heap.size w w') := Lib.hid fun w b1 v b2 u h1 h2 => by
    rw [hl2]; exact numless_any h1 h2 HB.out HA.out
  have hc1 : decide (c < 0) = l1 := by
    rw [← EC.out, ← EL1.out]; unfold cmpn
    by_cases h : a < b
    · rw [if_pos h, decide_eq_true h]; rfl
    · rw [if_neg h, decide_eq_false h]; first | rfl | (split <;> rfl)
  have hc2 : (c == 0) = e1 := by
    rw [← EC.out, he1]; unfold cmpn
    by_cases h : a = b
    · rw [if_neg (by omega), if_pos h, decide_eq_true h]; rfl
    · rw [decide_eq_false h]; split
      · rfl
      · first | rfl | (rw [if_neg h]; rfl)
  have hc3 : decide (0 < c) = l2 := by
    rw [← EC.out, hl2]; unfold cmpn
    by_cases h : b < a
    · rw [if_neg (by omega), if_neg (by omega), decide_eq_true h]; rfl
    · rw [decide_eq_false h]; split
      · rfl
      · rw [if_pos (by omega)]; rfl
  rw [← he1] at qab
  clear EC EL1 hl2 he1
  as_aux_lemma =>
    go_region_held3 (fun w' => Below V.heap.size V w') (first | (with_reducible assumption) | exact (by repeat' (first | (with_reducible exact Below.refl _ _) | (with_reducible assumption) | (with_reducible refine below_alloc ?_ _) | (with_reducible refine Below.drew ?_) | (with_reducible refine below_drewN ?_ _) | (with_reducible refine Below.setCell ?_ ?_ _) | go_size))) (first | (go_at_call 24; refine (of2_any _ _).mono ?_; rintro e wx ⟨x, rfl, hx, hbx⟩; have hSx := below_next (w := V) (by repeat' (first | (with_reducible exact Below.refl _ _) | (with_reducible assumption) | (with_reducible refine below_alloc ?_ _) | (with_reducible refine Below.drew ?_) | (with_reducible refine below_drewN ?_ _) | (with_reducible refine Below.setCell ?_ ?_ _) | go_size)) hbx) | (go_at_call 28; refine (numadd_any (by first | assumption | exact BitsIs.keep (by assumption) (by assumption)) (by first | assumption | exact BitsIs.keep (by assumption) (by assumption)) (by first | exact HA.out | exact HB.out) (by first | exact HA.out | exact HB.out)).mono ?_; rintro e wx ⟨x, rfl, hx, hbx⟩; have hSx := below_next (w := V) (by repeat' (first | (with_reducible exact Below.refl _ _) | (with_reducible assumption) | (with_reducible refine below_alloc ?_ _) | (with_reducible refine Below.drew ?_) | (with_reducible refine below_drewN ?_ _) | (with_reducible refine Below.setCell ?_ ?_ _) | go_size)) hbx) | (go_at_call 27; refine (ci.out _ _ _ (by first | assumption | exact BitsIs.keep (by assumption) (by assumption))).mono ?_; rintro e wx ⟨rfl, hbx⟩; have hSx := below_next (w := V) (by repeat' (first | (with_reducible exact Below.refl _ _) | (with_reducible assumption) | (with_reducible refine below_alloc ?_ _) | (with_reducible refine Below.drew ?_) | (with_reducible refine below_drewN ?_ _) | (with_reducible refine Below.setCell ?_ ?_ _) | go_size)) hbx) | (go_at_call 29; (first | refine (cl1.out _ _ _ _ _ (by first | assumption | exact BitsIs.keep (by assumption) (by assumption)) (by first | assumption | exact BitsIs.keep (by assumption) (by assumption))).mono ?_ | refine (cl2.out _ _ _ _ _ (by first | assumption | exact BitsIs.keep (by assumption) (by assumption)) (by first | assumption | exact BitsIs.keep (by assumption) (by assumption))).mono ?_); rintro e wx ⟨rfl, hbx⟩; have hSx := below_next (w := V) (by repeat' (first | (with_reducible exact Below.refl _ _) | (with_reducible assumption) | (with_reducible refine below_alloc ?_ _) | (with_reducible refine Below.drew ?_) | (with_reducible refine below_drewN ?_ _) | (with_reducible refine Below.setCell ?_ ?_ _) | go_size)) hbx) | (go_at_call 30; refine (cz.out _).mono ?_; rintro e wx ⟨rfl, hbx⟩; have hSx := below_next (w := V) (by repeat' (first | (with_reducible exact Below.refl _ _) | (with_reducible assumption) | (with_reducible refine below_alloc ?_ _) | (with_reducible refine Below.drew ?_) | (with_reducible refine below_drewN ?_ _) | (with_reducible refine Below.setCell ?_ ?_ _) | go_size)) hbx))
    go_wp2_with fail
    go_ret
    exact ⟨rfl, below_next BV.out (by assumption)⟩

set_option maxRecDepth 100000 in
theorem NumSums_lifted (os : Os) (started : os.Started) (H : Type) (enc : TypeId × Value → H) :
    ReturnsInHanded {} Try.checked os 3 .any (Rows.numSumsSpec.pre6 enc Try.prog Try.f3 Rows.numSumsRow.domain false) (Rows.numSumsSpec.post enc Try.prog Try.f3 false true false false) := by
  refine returnsInHanded_of_change (C := Try.checked) own started (by kernel_rfl) Try.func3
    (ChangeSpec.witness6 (enc := enc) (C := Try.checked) false ⟨#[], #[.agg #[.int .u64 0, .int .u64 0, .int .u64 0, .int .u64 0], .agg #[.int .u64 0, .int .u64 0, .int .u64 0, .int .u64 0]], []⟩ 8 (by kernel_rfl) (by kernel_rfl) (by kernel_rfl) (by kernel_rfl)) ?_
  intro W base args ds gs before hval0 hW hcnd _
  have hval : ∀ (j : Nat) t v, Try.f3.params[j]? = some t → args[j]? = some v → Value.okWide Try.prog W .any base t v := hval0
  have hW' := hW
  obtain ⟨p, q, hA0, hV, rfl, hfz, hnd⟩ := hW
  have hA : DataW.TrodAll enc Try.prog W 0 (fun _ => true) true Try.f3.params.toList args.toList ds p := hA0
  rw [Try.params3] at hA hval
  obtain ⟨v0, vs0, d0, ds0, p0, q0, hargs, rfl, rfl, h0, r0⟩ := trodAll_cons hA
  obtain ⟨v1, vs1, d1, ds1, p1, q1, rfl, rfl, rfl, h1, r1⟩ := trodAll_cons r0
  obtain ⟨rfl, rfl, rfl⟩ := trodAll_nil r1
  obtain rfl : args = #[v0, v1] := by cases args; simp_all
  obtain ⟨rfl, rfl⟩ := trodVars_none hV
  have k0 := h0
  have lt0 := trod_lt_of h0
  obtain ⟨a0, b0, rfl⟩ := open_num (hval 0 24 v0 rfl rfl) h0
  have k1 := h1
  have lt1 := trod_lt_of h1
  obtain ⟨a1, b1, rfl⟩ := open_num (hval 1 24 v1 rfl rfl) h1
  clear hA0 hval0
  refine (NumSums_walk a0 b0 a1 b1 W).mono fun e W' ⟨he, bel⟩ => ?_
  subst he
  exact ⟨_, rfl, _, _, _, [], _, [], hW', trodAll_mk1 (shut_bool (by kernel_rfl) _), (trodAll_cons_mk (Below.trod laidOut (by kernel_rfl) (of_decide_eq_true (by kernel_rfl)) k0 bel lt0) (trodAll_cons_mk (Below.trod laidOut (by kernel_rfl) (of_decide_eq_true (by kernel_rfl)) k1 bel lt1) trodAll_mk0)), rfl, bel.frame _, fun h => by cases h⟩

theorem NumSums_closed : joinedFacts Try.prog 3 Try.f3 Rows.numSumsSpec Rows.numSumsRow = true := by
  simp only [joinedFacts, Bool.and_eq_true]
  repeat' apply And.intro
  all_goals first
    | (with_reducible exact head_enter)
    | (rw [head_make]; kernel_rfl)
    | (rw [head_lift]; kernel_rfl)
    | kernel_rfl

theorem NumSums_holds : Rows.NumSumsSaid :=
  OpenClaim.holds_of_wide 3 Try.f3 rfl rfl rfl rfl rfl rfl rfl ⟨rfl, rfl, rfl, rfl, rfl⟩ rfl rfl rfl rfl rfl (by kernel_rfl) Try.func3 NumSums_closed
    (of_decide_eq_true (by kernel_rfl)) (by unfold Func.isWrapper; rw [if_neg (of_decide_eq_false (by kernel_rfl))]; exact ⟨rfl, rfl⟩)
    (fun os started H enc _ => NumSums_lifted os started H enc)
end Go.Proofs.Ytdffblfofdniaaa
