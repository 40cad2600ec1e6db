/- The law NumOrder: the order of numbers is one of all; a sum that fits is not less than either. No condition. -/
import Derived.Test.YtdffblfofdniaaaNumLawA
import Derived.Test.YtdffblfofdniaaaNumOpen
import Derived.Test.YtdffblfofdniaaaHead
namespace Go.Proofs.Ytdffblfofdniaaa
open Go.ChangeShapes Go.WideShapes Go.ChangeAt Go.RowKit

theorem order_cases (a b c : Nat) :
    ∃ x y z u : Int, cmpn a b = x ∧ cmpn b a = y ∧ cmpn b c = z ∧ cmpn a c = u ∧
      ((x = -1 ∧ y = 1 ∧ a ≠ b) ∨ (x = 0 ∧ y = 0 ∧ a = b) ∨ (x = 1 ∧ y = -1 ∧ a ≠ b)) ∧ (z = -1 ∨ z = 0 ∨ z = 1) ∧ (u = -1 ∨ u = 0 ∨ u = 1) ∧ (x ≤ 0 → z ≤ 0 → u ≤ 0) := by
  refine ⟨_, _, _, _, rfl, rfl, rfl, rfl, ?_, ?_, ?_, ?_⟩ <;> unfold cmpn <;> (repeat' split) <;> omega

set_option maxRecDepth 100000 in
set_option maxHeartbeats 4000000 in
theorem NumOrder_walk (a : Nat) (ha : a < 2 ^ 256) (b : Nat) (hb : b < 2 ^ 256) (c : Nat) (hc : c < 2 ^ 256) (w : World) :
    Calls Try.prog 5 #[nv a, nv b, nv c] w fun e w' => e = .returned (.bool true) ∧ Below w.heap.size w w' := by
  have HA := Lib.hid ha; have HB := Lib.hid hb; have HC := Lib.hid hc
  have qe := eq_num a b ha hb
  obtain ⟨x, y, z, u, ex, ey, ez, eu, hxy, hz, hu, hT⟩ := order_cases a b c
  clear ha hb hc
  have B0 : Below w.heap.size w w := Below.refl _ _
  go_enter Try.func5, Try.ntmps5
  go_wp2_with fail
  have A := alloc3 w (nblk a) (nblk b) (nblk c)
  have K0 := Lib.hid A.1; have K1 := Lib.hid A.2.1; have K2 := Lib.hid A.2.2
  have B := B0; clear A B0
  refine (counts_any _).mono ?_
  rintro e w1 ⟨rfl, hbw1⟩
  have K0' := Lib.hid (below_keep hbw1 (by first | exact K0.out | exact keep_alloc _ (K0.out) | exact keep_alloc _ (keep_alloc _ (K0.out)) | exact keep_alloc _ (keep_alloc _ (keep_alloc _ (K0.out))) | exact keep_alloc _ (keep_alloc _ (keep_alloc _ (keep_alloc _ (K0.out)))) | exact keep_alloc _ (keep_alloc _ (keep_alloc _ (keep_alloc _ (keep_alloc _ (K0.out)))))))
  have K1' := Lib.hid (below_keep hbw1 (by first | exact K1.out | exact keep_alloc _ (K1.out) | exact keep_alloc _ (keep_alloc _ (K1.out)) | exact keep_alloc _ (keep_alloc _ (keep_alloc _ (K1.out))) | exact keep_alloc _ (keep_alloc _ (keep_alloc _ (keep_alloc _ (K1.out)))) | exact keep_alloc _ (keep_alloc _ (keep_alloc _ (keep_alloc _ (keep_alloc _ (K1.out)))))))
  have K2' := Lib.hid (below_keep hbw1 (by first | exact K2.out | exact keep_alloc _ (K2.out) | exact keep_alloc _ (keep_alloc _ (K2.out)) | exact keep_alloc _ (keep_alloc _ (keep_alloc _ (K2.out))) | exact keep_alloc _ (keep_alloc _ (keep_alloc _ (keep_alloc _ (K2.out)))) | exact keep_alloc _ (keep_alloc _ (keep_alloc _ (keep_alloc _ (keep_alloc _ (K2.out)))))))
  have B' := below_next (w := w) (by repeat' (first | (with_reducible exact Below.refl _ _) | (with_reducible assumption) | (with_reducible refine below_alloc ?_ _) | (with_reducible refine Below.drew ?_) | (with_reducible refine below_drewN ?_ _) | (with_reducible refine Below.setCell ?_ ?_ _) | go_size)) hbw1
  clear hbw1 B K0 K1 K2
  have B := B'; clear B'
  have K0 := K0'; clear K0'
  obtain ⟨K0_0, K0_1, K0_2, K0_3, K0_f, K0_z⟩ := cells4 K0.out
  have K1 := K1'; clear K1'
  obtain ⟨K1_0, K1_1, K1_2, K1_3, K1_f, K1_z⟩ := cells4 K1.out
  have K2 := K2'; clear K2'
  obtain ⟨K2_0, K2_1, K2_2, K2_3, K2_f, K2_z⟩ := cells4 K2.out
  have R0 := cell_regrown K0_0; have R1 := cell_regrown K0_1; have R2 := cell_regrown K0_2; have R3 := cell_regrown K0_3
  have D0 := cell_regrown K1_0; have D1 := cell_regrown K1_1; have D2 := cell_regrown K1_2; have D3 := cell_regrown K1_3
  go_wp2_with fail
  refine wp_region_quiet_below (by kernel_rfl) (by kernel_rfl) ?_
  repeat (go_big_quiet_step ((go_at_call 26; exact Calls.regrown_of (cmp_any _ _ (by first | exact HA.out | exact HB.out) (by first | exact HA.out | exact HB.out) _))))
  refine wpQuiet_nil ?_
  intro w2 hw2
  have hb2 := below_of_regrown hw2
  have K0' := Lib.hid (below_keep hb2 K0.out); have K1' := Lib.hid (below_keep hb2 K1.out); have K2' := Lib.hid (below_keep hb2 K2.out)
  have B' := below_next (w := w) (by repeat' (first | (with_reducible exact Below.refl _ _) | (with_reducible assumption) | (with_reducible refine below_alloc ?_ _) | (with_reducible refine Below.drew ?_) | (with_reducible refine below_drewN ?_ _) | (with_reducible refine Below.setCell ?_ ?_ _) | go_size)) hb2
  clear hw2 hb2 B K0 K1 K2 R0 R1 R2 R3 D0 D1 D2 D3 K0_0 K0_1 K0_2 K0_3 K0_f K0_z K1_0 K1_1 K1_2 K1_3 K1_f K1_z K2_0 K2_1 K2_2 K2_3 K2_f K2_z
  have B := B'; have K0 := K0'; have K1 := K1'; have K2 := K2'
  clear B' K0' K1' K2'
  obtain ⟨K0_0, K0_1, K0_2, K0_3, K0_f, K0_z⟩ := cells4 K0.out
  obtain ⟨K1_0, K1_1, K1_2, K1_3, K1_f, K1_z⟩ := cells4 K1.out
  obtain ⟨K2_0, K2_1, K2_2, K2_3, K2_f, K2_z⟩ := cells4 K2.out
  have ex0 := ex
  rw [ex, ey]
  clear ex ey
  have HT := Lib.hid hT; clear hT
  have EX := Lib.hid ex0; have EZ := Lib.hid ez; have EU := Lib.hid eu
  clear ez eu ex0
  rcases hxy with ⟨rfl, rfl, hne⟩ | ⟨rfl, rfl, hne⟩ | ⟨rfl, rfl, hne⟩
  · have qe' : ∀ (w : World), (Op.equalIn 10000 24 (nv a) (nv b)).run Try.prog w = .ok false w := fun w => by rw [qe w, decide_eq_false hne]
    clear qe hne
    go_wp2_with fail
    refine (cmp_any a b HA.out HB.out _).mono ?_
    rintro e w3 ⟨rfl, hbw3⟩
    have K0' := Lib.hid (below_keep hbw3 (by first | exact K0.out | exact keep_alloc _ (K0.out) | exact keep_alloc _ (keep_alloc _ (K0.out)) | exact keep_alloc _ (keep_alloc _ (keep_alloc _ (K0.out))) | exact keep_alloc _ (keep_alloc _ (keep_alloc _ (keep_alloc _ (K0.out)))) | exact keep_alloc _ (keep_alloc _ (keep_alloc _ (keep_alloc _ (keep_alloc _ (K0.out)))))))
    have K1' := Lib.hid (below_keep hbw3 (by first | exact K1.out | exact keep_alloc _ (K1.out) | exact keep_alloc _ (keep_alloc _ (K1.out)) | exact keep_alloc _ (keep_alloc _ (keep_alloc _ (K1.out))) | exact keep_alloc _ (keep_alloc _ (keep_alloc _ (keep_alloc _ (K1.out)))) | exact keep_alloc _ (keep_alloc _ (keep_alloc _ (keep_alloc _ (keep_alloc _ (K1.out)))))))
    have K2' := Lib.hid (below_keep hbw3 (by first | exact K2.out | exact keep_alloc _ (K2.out) | exact keep_alloc _ (keep_alloc _ (K2.out)) | exact keep_alloc _ (keep_alloc _ (keep_alloc _ (K2.out))) | exact keep_alloc _ (keep_alloc _ (keep_alloc _ (keep_alloc _ (K2.out)))) | exact keep_alloc _ (keep_alloc _ (keep_alloc _ (keep_alloc _ (keep_alloc _ (K2.out)))))))
    have B' := below_next (w := w) (by repeat' (first | (with_reducible exact Below.refl _ _) | (with_reducible assumption) | (with_reducible refine below_alloc ?_ _) | (with_reducible refine Below.drew ?_) | (with_reducible refine below_drewN ?_ _) | (with_reducible refine Below.setCell ?_ ?_ _) | go_size)) hbw3
    clear hbw3 B K0 K1 K2 K0_0 K0_1 K0_2 K0_3 K0_f K0_z K1_0 K1_1 K1_2 K1_3 K1_f K1_z K2_0 K2_1 K2_2 K2_3 K2_f K2_z
    have B := B'; clear B'
    have K0 := K0'; clear K0'
    obtain ⟨K0_0, K0_1, K0_2, K0_3, K0_f, K0_z⟩ := cells4 K0.out
    have K1 := K1'; clear K1'
    obtain ⟨K1_0, K1_1, K1_2, K1_3, K1_f, K1_z⟩ := cells4 K1.out
    have K2 := K2'; clear K2'
    obtain ⟨K2_0, K2_1, K2_2, K2_3, K2_f, K2_z⟩ := cells4 K2.out
    rw [EX.out]
    go_wp2_with fail
    refine (cmp_any b c HB.out HC.out _).mono ?_
    rintro e w4 ⟨rfl, hbw4⟩
    have K0' := Lib.hid (below_keep hbw4 (by first | exact K0.out | exact keep_alloc _ (K0.out) | exact keep_alloc _ (keep_alloc _ (K0.out)) | exact keep_alloc _ (keep_alloc _ (keep_alloc _ (K0.out))) | exact keep_alloc _ (keep_alloc _ (keep_alloc _ (keep_alloc _ (K0.out)))) | exact keep_alloc _ (keep_alloc _ (keep_alloc _ (keep_alloc _ (keep_alloc _ (K0.out)))))))
    have K1' := Lib.hid (below_keep hbw4 (by first | exact K1.out | exact keep_alloc _ (K1.out) | exact keep_alloc _ (keep_alloc _ (K1.out)) | exact keep_alloc _ (keep_alloc _ (keep_alloc _ (K1.out))) | exact keep_alloc _ (keep_alloc _ (keep_alloc _ (keep_alloc _ (K1.out)))) | exact keep_alloc _ (keep_alloc _ (keep_alloc _ (keep_alloc _ (keep_alloc _ (K1.out)))))))
    have K2' := Lib.hid (below_keep hbw4 (by first | exact K2.out | exact keep_alloc _ (K2.out) | exact keep_alloc _ (keep_alloc _ (K2.out)) | exact keep_alloc _ (keep_alloc _ (keep_alloc _ (K2.out))) | exact keep_alloc _ (keep_alloc _ (keep_alloc _ (keep_alloc _ (K2.out)))) | exact keep_alloc _ (keep_alloc _ (keep_alloc _ (keep_alloc _ (keep_alloc _ (K2.out)))))))
    have B' := below_next (w := w) (by repeat' (first | (with_reducible exact Below.refl _ _) | (with_reducible assumption) | (with_reducible refine below_alloc ?_ _) | (with_reducible refine Below.drew ?_) | (with_reducible refine below_drewN ?_ _) | (with_reducible refine Below.setCell ?_ ?_ _) | go_size)) hbw4
    clear hbw4 B K0 K1 K2 K0_0 K0_1 K0_2 K0_3 K0_f K0_z K1_0 K1_1 K1_2 K1_3 K1_f K1_z K2_0 K2_1 K2_2 K2_3 K2_f K2_z
    have B := B'; clear B'
    have K0 := K0'; clear K0'
    obtain ⟨K0_0, K0_1, K0_2, K0_3, K0_f, K0_z⟩ := cells4 K0.out
    have K1 := K1'; clear K1'
    obtain ⟨K1_0, K1_1, K1_2, K1_3, K1_f, K1_z⟩ := cells4 K1.out
    have K2 := K2'; clear K2'
    obtain ⟨K2_0, K2_1, K2_2, K2_3, K2_f, K2_z⟩ := cells4 K2.out
    rw [EZ.out]
    by_cases hz0 : z ≤ 0
    · go_wp2_with fail
      refine (cmp_any a c HA.out HC.out _).mono ?_
      rintro e w5 ⟨rfl, hbw5⟩
      have K0' := Lib.hid (below_keep hbw5 (by first | exact K0.out | exact keep_alloc _ (K0.out) | exact keep_alloc _ (keep_alloc _ (K0.out)) | exact keep_alloc _ (keep_alloc _ (keep_alloc _ (K0.out))) | exact keep_alloc _ (keep_alloc _ (keep_alloc _ (keep_alloc _ (K0.out)))) | exact keep_alloc _ (keep_alloc _ (keep_alloc _ (keep_alloc _ (keep_alloc _ (K0.out)))))))
      have K1' := Lib.hid (below_keep hbw5 (by first | exact K1.out | exact keep_alloc _ (K1.out) | exact keep_alloc _ (keep_alloc _ (K1.out)) | exact keep_alloc _ (keep_alloc _ (keep_alloc _ (K1.out))) | exact keep_alloc _ (keep_alloc _ (keep_alloc _ (keep_alloc _ (K1.out)))) | exact keep_alloc _ (keep_alloc _ (keep_alloc _ (keep_alloc _ (keep_alloc _ (K1.out)))))))
      have K2' := Lib.hid (below_keep hbw5 (by first | exact K2.out | exact keep_alloc _ (K2.out) | exact keep_alloc _ (keep_alloc _ (K2.out)) | exact keep_alloc _ (keep_alloc _ (keep_alloc _ (K2.out))) | exact keep_alloc _ (keep_alloc _ (keep_alloc _ (keep_alloc _ (K2.out)))) | exact keep_alloc _ (keep_alloc _ (keep_alloc _ (keep_alloc _ (keep_alloc _ (K2.out)))))))
      have B' := below_next (w := w) (by repeat' (first | (with_reducible exact Below.refl _ _) | (with_reducible assumption) | (with_reducible refine below_alloc ?_ _) | (with_reducible refine Below.drew ?_) | (with_reducible refine below_drewN ?_ _) | (with_reducible refine Below.setCell ?_ ?_ _) | go_size)) hbw5
      clear hbw5 B K0 K1 K2 K0_0 K0_1 K0_2 K0_3 K0_f K0_z K1_0 K1_1 K1_2 K1_3 K1_f K1_z K2_0 K2_1 K2_2 K2_3 K2_f K2_z
      have B := B'; clear B'
      have K0 := K0'; clear K0'
      obtain ⟨K0_0, K0_1, K0_2, K0_3, K0_f, K0_z⟩ := cells4 K0.out
      have K1 := K1'; clear K1'
      obtain ⟨K1_0, K1_1, K1_2, K1_3, K1_f, K1_z⟩ := cells4 K1.out
      have K2 := K2'; clear K2'
      obtain ⟨K2_0, K2_1, K2_2, K2_3, K2_f, K2_z⟩ := cells4 K2.out
      rw [EU.out]
      have hu0 : u ≤ 0 := HT.out (by omega) hz0
      go_wp2_with fail
      refine (add2_any a b HA.out HB.out _ _ _ (heap_new _ _)).mono ?_
      rintro e w6 ⟨rfl, hbw6⟩
      have K0' := Lib.hid (below_keep hbw6 (by first | exact K0.out | exact keep_alloc _ (K0.out) | exact keep_alloc _ (keep_alloc _ (K0.out)) | exact keep_alloc _ (keep_alloc _ (keep_alloc _ (K0.out))) | exact keep_alloc _ (keep_alloc _ (keep_alloc _ (keep_alloc _ (K0.out)))) | exact keep_alloc _ (keep_alloc _ (keep_alloc _ (keep_alloc _ (keep_alloc _ (K0.out)))))))
      have K1' := Lib.hid (below_keep hbw6 (by first | exact K1.out | exact keep_alloc _ (K1.out) | exact keep_alloc _ (keep_alloc _ (K1.out)) | exact keep_alloc _ (keep_alloc _ (keep_alloc _ (K1.out))) | exact keep_alloc _ (keep_alloc _ (keep_alloc _ (keep_alloc _ (K1.out)))) | exact keep_alloc _ (keep_alloc _ (keep_alloc _ (keep_alloc _ (keep_alloc _ (K1.out)))))))
      have K2' := Lib.hid (below_keep hbw6 (by first | exact K2.out | exact keep_alloc _ (K2.out) | exact keep_alloc _ (keep_alloc _ (K2.out)) | exact keep_alloc _ (keep_alloc _ (keep_alloc _ (K2.out))) | exact keep_alloc _ (keep_alloc _ (keep_alloc _ (keep_alloc _ (K2.out)))) | exact keep_alloc _ (keep_alloc _ (keep_alloc _ (keep_alloc _ (keep_alloc _ (K2.out)))))))
      have B' := below_next (w := w) (by repeat' (first | (with_reducible exact Below.refl _ _) | (with_reducible assumption) | (with_reducible refine below_alloc ?_ _) | (with_reducible refine Below.drew ?_) | (with_reducible refine below_drewN ?_ _) | (with_reducible refine Below.setCell ?_ ?_ _) | go_size)) hbw6
      clear hbw6 B K0 K1 K2 K0_0 K0_1 K0_2 K0_3 K0_f K0_z K1_0 K1_1 K1_2 K1_3 K1_f K1_z K2_0 K2_1 K2_2 K2_3 K2_f K2_z
      have B := B'; clear B'
      have K0 := K0'; clear K0'
      obtain ⟨K0_0, K0_1, K0_2, K0_3, K0_f, K0_z⟩ := cells4 K0.out
      have K1 := K1'; clear K1'
      obtain ⟨K1_0, K1_1, K1_2, K1_3, K1_f, K1_z⟩ := cells4 K1.out
      have K2 := K2'; clear K2'
      obtain ⟨K2_0, K2_1, K2_2, K2_3, K2_f, K2_z⟩ := cells4 K2.out
      have K3 := Lib.hid (heap_new w6 (nblk ((a + b) % 2 ^ 256)))
      have HS := Lib.hid (Nat.mod_lt (a + b) (show 0 < 2 ^ 256 by omega))
      by_cases hov : 2 ^ 256 ≤ a + b
      · have c1 : cmpn ((a + b) % 2 ^ 256) a < 0 := by have := HA.out; have := HB.out; unfold cmpn; rw [if_pos (by omega)]; omega
        have c2 : cmpn ((a + b) % 2 ^ 256) b < 0 := by have := HA.out; have := HB.out; unfold cmpn; rw [if_pos (by omega)]; omega
        rw [decide_eq_true hov]
        generalize (a + b) % 2 ^ 256 = S at *
        clear hov
        go_wp2_with fail
        refine (cmp_any S a HS.out HA.out _).mono ?_
        rintro e w7 ⟨rfl, hbw7⟩
        have K0' := Lib.hid (below_keep hbw7 (by first | exact K0.out | exact keep_alloc _ (K0.out) | exact keep_alloc _ (keep_alloc _ (K0.out)) | exact keep_alloc _ (keep_alloc _ (keep_alloc _ (K0.out))) | exact keep_alloc _ (keep_alloc _ (keep_alloc _ (keep_alloc _ (K0.out)))) | exact keep_alloc _ (keep_alloc _ (keep_alloc _ (keep_alloc _ (keep_alloc _ (K0.out)))))))
        have K1' := Lib.hid (below_keep hbw7 (by first | exact K1.out | exact keep_alloc _ (K1.out) | exact keep_alloc _ (keep_alloc _ (K1.out)) | exact keep_alloc _ (keep_alloc _ (keep_alloc _ (K1.out))) | exact keep_alloc _ (keep_alloc _ (keep_alloc _ (keep_alloc _ (K1.out)))) | exact keep_alloc _ (keep_alloc _ (keep_alloc _ (keep_alloc _ (keep_alloc _ (K1.out)))))))
        have K2' := Lib.hid (below_keep hbw7 (by first | exact K2.out | exact keep_alloc _ (K2.out) | exact keep_alloc _ (keep_alloc _ (K2.out)) | exact keep_alloc _ (keep_alloc _ (keep_alloc _ (K2.out))) | exact keep_alloc _ (keep_alloc _ (keep_alloc _ (keep_alloc _ (K2.out)))) | exact keep_alloc _ (keep_alloc _ (keep_alloc _ (keep_alloc _ (keep_alloc _ (K2.out)))))))
        have K3' := Lib.hid (below_keep hbw7 (by first | exact K3.out | exact keep_alloc _ (K3.out) | exact keep_alloc _ (keep_alloc _ (K3.out)) | exact keep_alloc _ (keep_alloc _ (keep_alloc _ (K3.out))) | exact keep_alloc _ (keep_alloc _ (keep_alloc _ (keep_alloc _ (K3.out)))) | exact keep_alloc _ (keep_alloc _ (keep_alloc _ (keep_alloc _ (keep_alloc _ (K3.out)))))))
        have B' := below_next (w := w) (by repeat' (first | (with_reducible exact Below.refl _ _) | (with_reducible assumption) | (with_reducible refine below_alloc ?_ _) | (with_reducible refine Below.drew ?_) | (with_reducible refine below_drewN ?_ _) | (with_reducible refine Below.setCell ?_ ?_ _) | go_size)) hbw7
        clear hbw7 B K0 K1 K2 K3 K0_0 K0_1 K0_2 K0_3 K0_f K0_z K1_0 K1_1 K1_2 K1_3 K1_f K1_z K2_0 K2_1 K2_2 K2_3 K2_f K2_z
        have B := B'; clear B'
        have K0 := K0'; clear K0'
        obtain ⟨K0_0, K0_1, K0_2, K0_3, K0_f, K0_z⟩ := cells4 K0.out
        have K1 := K1'; clear K1'
        obtain ⟨K1_0, K1_1, K1_2, K1_3, K1_f, K1_z⟩ := cells4 K1.out
        have K2 := K2'; clear K2'
        obtain ⟨K2_0, K2_1, K2_2, K2_3, K2_f, K2_z⟩ := cells4 K2.out
        have K3 := K3'; clear K3'
        obtain ⟨K3_0, K3_1, K3_2, K3_3, K3_f, K3_z⟩ := cells4 K3.out
        go_wp2_with fail
        refine (cmp_any S b HS.out HB.out _).mono ?_
        rintro e w8 ⟨rfl, hbw8⟩
        have K0' := Lib.hid (below_keep hbw8 (by first | exact K0.out | exact keep_alloc _ (K0.out) | exact keep_alloc _ (keep_alloc _ (K0.out)) | exact keep_alloc _ (keep_alloc _ (keep_alloc _ (K0.out))) | exact keep_alloc _ (keep_alloc _ (keep_alloc _ (keep_alloc _ (K0.out)))) | exact keep_alloc _ (keep_alloc _ (keep_alloc _ (keep_alloc _ (keep_alloc _ (K0.out)))))))
        have K1' := Lib.hid (below_keep hbw8 (by first | exact K1.out | exact keep_alloc _ (K1.out) | exact keep_alloc _ (keep_alloc _ (K1.out)) | exact keep_alloc _ (keep_alloc _ (keep_alloc _ (K1.out))) | exact keep_alloc _ (keep_alloc _ (keep_alloc _ (keep_alloc _ (K1.out)))) | exact keep_alloc _ (keep_alloc _ (keep_alloc _ (keep_alloc _ (keep_alloc _ (K1.out)))))))
        have K2' := Lib.hid (below_keep hbw8 (by first | exact K2.out | exact keep_alloc _ (K2.out) | exact keep_alloc _ (keep_alloc _ (K2.out)) | exact keep_alloc _ (keep_alloc _ (keep_alloc _ (K2.out))) | exact keep_alloc _ (keep_alloc _ (keep_alloc _ (keep_alloc _ (K2.out)))) | exact keep_alloc _ (keep_alloc _ (keep_alloc _ (keep_alloc _ (keep_alloc _ (K2.out)))))))
        have K3' := Lib.hid (below_keep hbw8 (by first | exact K3.out | exact keep_alloc _ (K3.out) | exact keep_alloc _ (keep_alloc _ (K3.out)) | exact keep_alloc _ (keep_alloc _ (keep_alloc _ (K3.out))) | exact keep_alloc _ (keep_alloc _ (keep_alloc _ (keep_alloc _ (K3.out)))) | exact keep_alloc _ (keep_alloc _ (keep_alloc _ (keep_alloc _ (keep_alloc _ (K3.out)))))))
        have B' := below_next (w := w) (by repeat' (first | (with_reducible exact Below.refl _ _) | (with_reducible assumption) | (with_reducible refine below_alloc ?_ _) | (with_reducible refine Below.drew ?_) | (with_reducible refine below_drewN ?_ _) | (with_reducible refine Below.setCell ?_ ?_ _) | go_size)) hbw8
        clear hbw8 B K0 K1 K2 K3 K0_0 K0_1 K0_2 K0_3 K0_f K0_z K1_0 K1_1 K1_2 K1_3 K1_f K1_z K2_0 K2_1 K2_2 K2_3 K2_f K2_z K3_0 K3_1 K3_2 K3_3 K3_f K3_z
        have B := B'; clear B'
        have K0 := K0'; clear K0'
        obtain ⟨K0_0, K0_1, K0_2, K0_3, K0_f, K0_z⟩ := cells4 K0.out
        have K1 := K1'; clear K1'
        obtain ⟨K1_0, K1_1, K1_2, K1_3, K1_f, K1_z⟩ := cells4 K1.out
        have K2 := K2'; clear K2'
        obtain ⟨K2_0, K2_1, K2_2, K2_3, K2_f, K2_z⟩ := cells4 K2.out
        have K3 := K3'; clear K3'
        obtain ⟨K3_0, K3_1, K3_2, K3_3, K3_f, K3_z⟩ := cells4 K3.out
        go_wp2_with fail
        go_ret
        exact ⟨rfl, (by repeat' (first | (with_reducible exact Below.refl _ _) | (with_reducible assumption) | (with_reducible refine below_alloc ?_ _) | (with_reducible refine Below.drew ?_) | (with_reducible refine below_drewN ?_ _) | (with_reducible refine Below.setCell ?_ ?_ _) | go_size))⟩
      · have c1 : 0 ≤ cmpn ((a + b) % 2 ^ 256) a := by rw [Nat.mod_eq_of_lt (by omega)]; unfold cmpn; rw [if_neg (by omega)]; split <;> omega
        have c2 : 0 ≤ cmpn ((a + b) % 2 ^ 256) b := by rw [Nat.mod_eq_of_lt (by omega)]; unfold cmpn; rw [if_neg (by omega)]; split <;> omega
        rw [decide_eq_false hov]
        generalize (a + b) % 2 ^ 256 = S at *
        clear hov
        go_wp2_with fail
        refine (cmp_any S a HS.out HA.out _).mono ?_
        rintro e w7 ⟨rfl, hbw7⟩
        have K0' := Lib.hid (below_keep hbw7 (by first | exact K0.out | exact keep_alloc _ (K0.out) | exact keep_alloc _ (keep_alloc _ (K0.out)) | exact keep_alloc _ (keep_alloc _ (keep_alloc _ (K0.out))) | exact keep_alloc _ (keep_alloc _ (keep_alloc _ (keep_alloc _ (K0.out)))) | exact keep_alloc _ (keep_alloc _ (keep_alloc _ (keep_alloc _ (keep_alloc _ (K0.out)))))))
        have K1' := Lib.hid (below_keep hbw7 (by first | exact K1.out | exact keep_alloc _ (K1.out) | exact keep_alloc _ (keep_alloc _ (K1.out)) | exact keep_alloc _ (keep_alloc _ (keep_alloc _ (K1.out))) | exact keep_alloc _ (keep_alloc _ (keep_alloc _ (keep_alloc _ (K1.out)))) | exact keep_alloc _ (keep_alloc _ (keep_alloc _ (keep_alloc _ (keep_alloc _ (K1.out)))))))
        have K2' := Lib.hid (below_keep hbw7 (by first | exact K2.out | exact keep_alloc _ (K2.out) | exact keep_alloc _ (keep_alloc _ (K2.out)) | exact keep_alloc _ (keep_alloc _ (keep_alloc _ (K2.out))) | exact keep_alloc _ (keep_alloc _ (keep_alloc _ (keep_alloc _ (K2.out)))) | exact keep_alloc _ (keep_alloc _ (keep_alloc _ (keep_alloc _ (keep_alloc _ (K2.out)))))))
        have K3' := Lib.hid (below_keep hbw7 (by first | exact K3.out | exact keep_alloc _ (K3.out) | exact keep_alloc _ (keep_alloc _ (K3.out)) | exact keep_alloc _ (keep_alloc _ (keep_alloc _ (K3.out))) | exact keep_alloc _ (keep_alloc _ (keep_alloc _ (keep_alloc _ (K3.out)))) | exact keep_alloc _ (keep_alloc _ (keep_alloc _ (keep_alloc _ (keep_alloc _ (K3.out)))))))
        have B' := below_next (w := w) (by repeat' (first | (with_reducible exact Below.refl _ _) | (with_reducible assumption) | (with_reducible refine below_alloc ?_ _) | (with_reducible refine Below.drew ?_) | (with_reducible refine below_drewN ?_ _) | (with_reducible refine Below.setCell ?_ ?_ _) | go_size)) hbw7
        clear hbw7 B K0 K1 K2 K3 K0_0 K0_1 K0_2 K0_3 K0_f K0_z K1_0 K1_1 K1_2 K1_3 K1_f K1_z K2_0 K2_1 K2_2 K2_3 K2_f K2_z
        have B := B'; clear B'
        have K0 := K0'; clear K0'
        obtain ⟨K0_0, K0_1, K0_2, K0_3, K0_f, K0_z⟩ := cells4 K0.out
        have K1 := K1'; clear K1'
        obtain ⟨K1_0, K1_1, K1_2, K1_3, K1_f, K1_z⟩ := cells4 K1.out
        have K2 := K2'; clear K2'
        obtain ⟨K2_0, K2_1, K2_2, K2_3, K2_f, K2_z⟩ := cells4 K2.out
        have K3 := K3'; clear K3'
        obtain ⟨K3_0, K3_1, K3_2, K3_3, K3_f, K3_z⟩ := cells4 K3.out
        go_wp2_with fail
        refine (cmp_any S b HS.out HB.out _).mono ?_
        rintro e w8 ⟨rfl, hbw8⟩
        have K0' := Lib.hid (below_keep hbw8 (by first | exact K0.out | exact keep_alloc _ (K0.out) | exact keep_alloc _ (keep_alloc _ (K0.out)) | exact keep_alloc _ (keep_alloc _ (keep_alloc _ (K0.out))) | exact keep_alloc _ (keep_alloc _ (keep_alloc _ (keep_alloc _ (K0.out)))) | exact keep_alloc _ (keep_alloc _ (keep_alloc _ (keep_alloc _ (keep_alloc _ (K0.out)))))))
        have K1' := Lib.hid (below_keep hbw8 (by first | exact K1.out | exact keep_alloc _ (K1.out) | exact keep_alloc _ (keep_alloc _ (K1.out)) | exact keep_alloc _ (keep_alloc _ (keep_alloc _ (K1.out))) | exact keep_alloc _ (keep_alloc _ (keep_alloc _ (keep_alloc _ (K1.out)))) | exact keep_alloc _ (keep_alloc _ (keep_alloc _ (keep_alloc _ (keep_alloc _ (K1.out)))))))
        have K2' := Lib.hid (below_keep hbw8 (by first | exact K2.out | exact keep_alloc _ (K2.out) | exact keep_alloc _ (keep_alloc _ (K2.out)) | exact keep_alloc _ (keep_alloc _ (keep_alloc _ (K2.out))) | exact keep_alloc _ (keep_alloc _ (keep_alloc _ (keep_alloc _ (K2.out)))) | exact keep_alloc _ (keep_alloc _ (keep_alloc _ (keep_alloc _ (keep_alloc _ (K2.out)))))))
        have K3' := Lib.hid (below_keep hbw8 (by first | exact K3.out | exact keep_alloc _ (K3.out) | exact keep_alloc _ (keep_alloc _ (K3.out)) | exact keep_alloc _ (keep_alloc _ (keep_alloc _ (K3.out))) | exact keep_alloc _ (keep_alloc _ (keep_alloc _ (keep_alloc _ (K3.out)))) | exact keep_alloc _ (keep_alloc _ (keep_alloc _ (keep_alloc _ (keep_alloc _ (K3.out)))))))
        have B' := below_next (w := w) (by repeat' (first | (with_reducible exact Below.refl _ _) | (with_reducible assumption) | (with_reducible refine below_alloc ?_ _) | (with_reducible refine Below.drew ?_) | (with_reducible refine below_drewN ?_ _) | (with_reducible refine Below.setCell ?_ ?_ _) | go_size)) hbw8
        clear hbw8 B K0 K1 K2 K3 K0_0 K0_1 K0_2 K0_3 K0_f K0_z K1_0 K1_1 K1_2 K1_3 K1_f K1_z K2_0 K2_1 K2_2 K2_3 K2_f K2_z K3_0 K3_1 K3_2 K3_3 K3_f K3_z
        have B := B'; clear B'
        have K0 := K0'; clear K0'
        obtain ⟨K0_0, K0_1, K0_2, K0_3, K0_f, K0_z⟩ := cells4 K0.out
        have K1 := K1'; clear K1'
        obtain ⟨K1_0, K1_1, K1_2, K1_3, K1_f, K1_z⟩ := cells4 K1.out
        have K2 := K2'; clear K2'
        obtain ⟨K2_0, K2_1, K2_2, K2_3, K2_f, K2_z⟩ := cells4 K2.out
        have K3 := K3'; clear K3'
        obtain ⟨K3_0, K3_1, K3_2, K3_3, K3_f, K3_z⟩ := cells4 K3.out
        go_wp2_with fail
        go_ret
        exact ⟨rfl, (by repeat' (first | (with_reducible exact Below.refl _ _) | (with_reducible assumption) | (with_reducible refine below_alloc ?_ _) | (with_reducible refine Below.drew ?_) | (with_reducible refine below_drewN ?_ _) | (with_reducible refine Below.setCell ?_ ?_ _) | go_size))⟩
    · go_wp2_with fail
      refine (add2_any a b HA.out HB.out _ _ _ (heap_new _ _)).mono ?_
      rintro e w6 ⟨rfl, hbw6⟩
      have K0' := Lib.hid (below_keep hbw6 (by first | exact K0.out | exact keep_alloc _ (K0.out) | exact keep_alloc _ (keep_alloc _ (K0.out)) | exact keep_alloc _ (keep_alloc _ (keep_alloc _ (K0.out))) | exact keep_alloc _ (keep_alloc _ (keep_alloc _ (keep_alloc _ (K0.out)))) | exact keep_alloc _ (keep_alloc _ (keep_alloc _ (keep_alloc _ (keep_alloc _ (K0.out)))))))
      have K1' := Lib.hid (below_keep hbw6 (by first | exact K1.out | exact keep_alloc _ (K1.out) | exact keep_alloc _ (keep_alloc _ (K1.out)) | exact keep_alloc _ (keep_alloc _ (keep_alloc _ (K1.out))) | exact keep_alloc _ (keep_alloc _ (keep_alloc _ (keep_alloc _ (K1.out)))) | exact keep_alloc _ (keep_alloc _ (keep_alloc _ (keep_alloc _ (keep_alloc _ (K1.out)))))))
      have K2' := Lib.hid (below_keep hbw6 (by first | exact K2.out | exact keep_alloc _ (K2.out) | exact keep_alloc _ (keep_alloc _ (K2.out)) | exact keep_alloc _ (keep_alloc _ (keep_alloc _ (K2.out))) | exact keep_alloc _ (keep_alloc _ (keep_alloc _ (keep_alloc _ (K2.out)))) | exact keep_alloc _ (keep_alloc _ (keep_alloc _ (keep_alloc _ (keep_alloc _ (K2.out)))))))
      have B' := below_next (w := w) (by repeat' (first | (with_reducible exact Below.refl _ _) | (with_reducible assumption) | (with_reducible refine below_alloc ?_ _) | (with_reducible refine Below.drew ?_) | (with_reducible refine below_drewN ?_ _) | (with_reducible refine Below.setCell ?_ ?_ _) | go_size)) hbw6
      clear hbw6 B K0 K1 K2 K0_0 K0_1 K0_2 K0_3 K0_f K0_z K1_0 K1_1 K1_2 K1_3 K1_f K1_z K2_0 K2_1 K2_2 K2_3 K2_f K2_z
      have B := B'; clear B'
      have K0 := K0'; clear K0'
      obtain ⟨K0_0, K0_1, K0_2, K0_3, K0_f, K0_z⟩ := cells4 K0.out
      have K1 := K1'; clear K1'
      obtain ⟨K1_0, K1_1, K1_2, K1_3, K1_f, K1_z⟩ := cells4 K1.out
      have K2 := K2'; clear K2'
      obtain ⟨K2_0, K2_1, K2_2, K2_3, K2_f, K2_z⟩ := cells4 K2.out
      have K3 := Lib.hid (heap_new w6 (nblk ((a + b) % 2 ^ 256)))
      have HS := Lib.hid (Nat.mod_lt (a + b) (show 0 < 2 ^ 256 by omega))
      by_cases hov : 2 ^ 256 ≤ a + b
      · have c1 : cmpn ((a + b) % 2 ^ 256) a < 0 := by have := HA.out; have := HB.out; unfold cmpn; rw [if_pos (by omega)]; omega
        have c2 : cmpn ((a + b) % 2 ^ 256) b < 0 := by have := HA.out; have := HB.out; unfold cmpn; rw [if_pos (by omega)]; omega
        rw [decide_eq_true hov]
        generalize (a + b) % 2 ^ 256 = S at *
        clear hov
        go_wp2_with fail
        refine (cmp_any S a HS.out HA.out _).mono ?_
        rintro e w7 ⟨rfl, hbw7⟩
        have K0' := Lib.hid (below_keep hbw7 (by first | exact K0.out | exact keep_alloc _ (K0.out) | exact keep_alloc _ (keep_alloc _ (K0.out)) | exact keep_alloc _ (keep_alloc _ (keep_alloc _ (K0.out))) | exact keep_alloc _ (keep_alloc _ (keep_alloc _ (keep_alloc _ (K0.out)))) | exact keep_alloc _ (keep_alloc _ (keep_alloc _ (keep_alloc _ (keep_alloc _ (K0.out)))))))
        have K1' := Lib.hid (below_keep hbw7 (by first | exact K1.out | exact keep_alloc _ (K1.out) | exact keep_alloc _ (keep_alloc _ (K1.out)) | exact keep_alloc _ (keep_alloc _ (keep_alloc _ (K1.out))) | exact keep_alloc _ (keep_alloc _ (keep_alloc _ (keep_alloc _ (K1.out)))) | exact keep_alloc _ (keep_alloc _ (keep_alloc _ (keep_alloc _ (keep_alloc _ (K1.out)))))))
        have K2' := Lib.hid (below_keep hbw7 (by first | exact K2.out | exact keep_alloc _ (K2.out) | exact keep_alloc _ (keep_alloc _ (K2.out)) | exact keep_alloc _ (keep_alloc _ (keep_alloc _ (K2.out))) | exact keep_alloc _ (keep_alloc _ (keep_alloc _ (keep_alloc _ (K2.out)))) | exact keep_alloc _ (keep_alloc _ (keep_alloc _ (keep_alloc _ (keep_alloc _ (K2.out)))))))
        have K3' := Lib.hid (below_keep hbw7 (by first | exact K3.out | exact keep_alloc _ (K3.out) | exact keep_alloc _ (keep_alloc _ (K3.out)) | exact keep_alloc _ (keep_alloc _ (keep_alloc _ (K3.out))) | exact keep_alloc _ (keep_alloc _ (keep_alloc _ (keep_alloc _ (K3.out)))) | exact keep_alloc _ (keep_alloc _ (keep_alloc _ (keep_alloc _ (keep_alloc _ (K3.out)))))))
        have B' := below_next (w := w) (by repeat' (first | (with_reducible exact Below.refl _ _) | (with_reducible assumption) | (with_reducible refine below_alloc ?_ _) | (with_reducible refine Below.drew ?_) | (with_reducible refine below_drewN ?_ _) | (with_reducible refine Below.setCell ?_ ?_ _) | go_size)) hbw7
        clear hbw7 B K0 K1 K2 K3 K0_0 K0_1 K0_2 K0_3 K0_f K0_z K1_0 K1_1 K1_2 K1_3 K1_f K1_z K2_0 K2_1 K2_2 K2_3 K2_f K2_z
        have B := B'; clear B'
        have K0 := K0'; clear K0'
        obtain ⟨K0_0, K0_1, K0_2, K0_3, K0_f, K0_z⟩ := cells4 K0.out
        have K1 := K1'; clear K1'
        obtain ⟨K1_0, K1_1, K1_2, K1_3, K1_f, K1_z⟩ := cells4 K1.out
        have K2 := K2'; clear K2'
        obtain ⟨K2_0, K2_1, K2_2, K2_3, K2_f, K2_z⟩ := cells4 K2.out
        have K3 := K3'; clear K3'
        obtain ⟨K3_0, K3_1, K3_2, K3_3, K3_f, K3_z⟩ := cells4 K3.out
        go_wp2_with fail
        refine (cmp_any S b HS.out HB.out _).mono ?_
        rintro e w8 ⟨rfl, hbw8⟩
        have K0' := Lib.hid (below_keep hbw8 (by first | exact K0.out | exact keep_alloc _ (K0.out) | exact keep_alloc _ (keep_alloc _ (K0.out)) | exact keep_alloc _ (keep_alloc _ (keep_alloc _ (K0.out))) | exact keep_alloc _ (keep_alloc _ (keep_alloc _ (keep_alloc _ (K0.out)))) | exact keep_alloc _ (keep_alloc _ (keep_alloc _ (keep_alloc _ (keep_alloc _ (K0.out)))))))
        have K1' := Lib.hid (below_keep hbw8 (by first | exact K1.out | exact keep_alloc _ (K1.out) | exact keep_alloc _ (keep_alloc _ (K1.out)) | exact keep_alloc _ (keep_alloc _ (keep_alloc _ (K1.out))) | exact keep_alloc _ (keep_alloc _ (keep_alloc _ (keep_alloc _ (K1.out)))) | exact keep_alloc _ (keep_alloc _ (keep_alloc _ (keep_alloc _ (keep_alloc _ (K1.out)))))))
        have K2' := Lib.hid (below_keep hbw8 (by first | exact K2.out | exact keep_alloc _ (K2.out) | exact keep_alloc _ (keep_alloc _ (K2.out)) | exact keep_alloc _ (keep_alloc _ (keep_alloc _ (K2.out))) | exact keep_alloc _ (keep_alloc _ (keep_alloc _ (keep_alloc _ (K2.out)))) | exact keep_alloc _ (keep_alloc _ (keep_alloc _ (keep_alloc _ (keep_alloc _ (K2.out)))))))
        have K3' := Lib.hid (below_keep hbw8 (by first | exact K3.out | exact keep_alloc _ (K3.out) | exact keep_alloc _ (keep_alloc _ (K3.out)) | exact keep_alloc _ (keep_alloc _ (keep_alloc _ (K3.out))) | exact keep_alloc _ (keep_alloc _ (keep_alloc _ (keep_alloc _ (K3.out)))) | exact keep_alloc _ (keep_alloc _ (keep_alloc _ (keep_alloc _ (keep_alloc _ (K3.out)))))))
        have B' := below_next (w := w) (by repeat' (first | (with_reducible exact Below.refl _ _) | (with_reducible assumption) | (with_reducible refine below_alloc ?_ _) | (with_reducible refine Below.drew ?_) | (with_reducible refine below_drewN ?_ _) | (with_reducible refine Below.setCell ?_ ?_ _) | go_size)) hbw8
        clear hbw8 B K0 K1 K2 K3 K0_0 K0_1 K0_2 K0_3 K0_f K0_z K1_0 K1_1 K1_2 K1_3 K1_f K1_z K2_0 K2_1 K2_2 K2_3 K2_f K2_z K3_0 K3_1 K3_2 K3_3 K3_f K3_z
        have B := B'; clear B'
        have K0 := K0'; clear K0'
        obtain ⟨K0_0, K0_1, K0_2, K0_3, K0_f, K0_z⟩ := cells4 K0.out
        have K1 := K1'; clear K1'
        obtain ⟨K1_0, K1_1, K1_2, K1_3, K1_f, K1_z⟩ := cells4 K1.out
        have K2 := K2'; clear K2'
        obtain ⟨K2_0, K2_1, K2_2, K2_3, K2_f, K2_z⟩ := cells4 K2.out
        have K3 := K3'; clear K3'
        obtain ⟨K3_0, K3_1, K3_2, K3_3, K3_f, K3_z⟩ := cells4 K3.out
        go_wp2_with fail
        go_ret
        exact ⟨rfl, (by repeat' (first | (with_reducible exact Below.refl _ _) | (with_reducible assumption) | (with_reducible refine below_alloc ?_ _) | (with_reducible refine Below.drew ?_) | (with_reducible refine below_drewN ?_ _) | (with_reducible refine Below.setCell ?_ ?_ _) | go_size))⟩
      · have c1 : 0 ≤ cmpn ((a + b) % 2 ^ 256) a := by rw [Nat.mod_eq_of_lt (by omega)]; unfold cmpn; rw [if_neg (by omega)]; split <;> omega
        have c2 : 0 ≤ cmpn ((a + b) % 2 ^ 256) b := by rw [Nat.mod_eq_of_lt (by omega)]; unfold cmpn; rw [if_neg (by omega)]; split <;> omega
        rw [decide_eq_false hov]
        generalize (a + b) % 2 ^ 256 = S at *
        clear hov
        go_wp2_with fail
        refine (cmp_any S a HS.out HA.out _).mono ?_
        rintro e w7 ⟨rfl, hbw7⟩
        have K0' := Lib.hid (below_keep hbw7 (by first | exact K0.out | exact keep_alloc _ (K0.out) | exact keep_alloc _ (keep_alloc _ (K0.out)) | exact keep_alloc _ (keep_alloc _ (keep_alloc _ (K0.out))) | exact keep_alloc _ (keep_alloc _ (keep_alloc _ (keep_alloc _ (K0.out)))) | exact keep_alloc _ (keep_alloc _ (keep_alloc _ (keep_alloc _ (keep_alloc _ (K0.out)))))))
        have K1' := Lib.hid (below_keep hbw7 (by first | exact K1.out | exact keep_alloc _ (K1.out) | exact keep_alloc _ (keep_alloc _ (K1.out)) | exact keep_alloc _ (keep_alloc _ (keep_alloc _ (K1.out))) | exact keep_alloc _ (keep_alloc _ (keep_alloc _ (keep_alloc _ (K1.out)))) | exact keep_alloc _ (keep_alloc _ (keep_alloc _ (keep_alloc _ (keep_alloc _ (K1.out)))))))
        have K2' := Lib.hid (below_keep hbw7 (by first | exact K2.out | exact keep_alloc _ (K2.out) | exact keep_alloc _ (keep_alloc _ (K2.out)) | exact keep_alloc _ (keep_alloc _ (keep_alloc _ (K2.out))) | exact keep_alloc _ (keep_alloc _ (keep_alloc _ (keep_alloc _ (K2.out)))) | exact keep_alloc _ (keep_alloc _ (keep_alloc _ (keep_alloc _ (keep_alloc _ (K2.out)))))))
        have K3' := Lib.hid (below_keep hbw7 (by first | exact K3.out | exact keep_alloc _ (K3.out) | exact keep_alloc _ (keep_alloc _ (K3.out)) | exact keep_alloc _ (keep_alloc _ (keep_alloc _ (K3.out))) | exact keep_alloc _ (keep_alloc _ (keep_alloc _ (keep_alloc _ (K3.out)))) | exact keep_alloc _ (keep_alloc _ (keep_alloc _ (keep_alloc _ (keep_alloc _ (K3.out)))))))
        have B' := below_next (w := w) (by repeat' (first | (with_reducible exact Below.refl _ _) | (with_reducible assumption) | (with_reducible refine below_alloc ?_ _) | (with_reducible refine Below.drew ?_) | (with_reducible refine below_drewN ?_ _) | (with_reducible refine Below.setCell ?_ ?_ _) | go_size)) hbw7
        clear hbw7 B K0 K1 K2 K3 K0_0 K0_1 K0_2 K0_3 K0_f K0_z K1_0 K1_1 K1_2 K1_3 K1_f K1_z K2_0 K2_1 K2_2 K2_3 K2_f K2_z
        have B := B'; clear B'
        have K0 := K0'; clear K0'
        obtain ⟨K0_0, K0_1, K0_2, K0_3, K0_f, K0_z⟩ := cells4 K0.out
        have K1 := K1'; clear K1'
        obtain ⟨K1_0, K1_1, K1_2, K1_3, K1_f, K1_z⟩ := cells4 K1.out
        have K2 := K2'; clear K2'
        obtain ⟨K2_0, K2_1, K2_2, K2_3, K2_f, K2_z⟩ := cells4 K2.out
        have K3 := K3'; clear K3'
        obtain ⟨K3_0, K3_1, K3_2, K3_3, K3_f, K3_z⟩ := cells4 K3.out
        go_wp2_with fail
        refine (cmp_any S b HS.out HB.out _).mono ?_
        rintro e w8 ⟨rfl, hbw8⟩
        have K0' := Lib.hid (below_keep hbw8 (by first | exact K0.out | exact keep_alloc _ (K0.out) | exact keep_alloc _ (keep_alloc _ (K0.out)) | exact keep_alloc _ (keep_alloc _ (keep_alloc _ (K0.out))) | exact keep_alloc _ (keep_alloc _ (keep_alloc _ (keep_alloc _ (K0.out)))) | exact keep_alloc _ (keep_alloc _ (keep_alloc _ (keep_alloc _ (keep_alloc _ (K0.out)))))))
        have K1' := Lib.hid (below_keep hbw8 (by first | exact K1.out | exact keep_alloc _ (K1.out) | exact keep_alloc _ (keep_alloc _ (K1.out)) | exact keep_alloc _ (keep_alloc _ (keep_alloc _ (K1.out))) | exact keep_alloc _ (keep_alloc _ (keep_alloc _ (keep_alloc _ (K1.out)))) | exact keep_alloc _ (keep_alloc _ (keep_alloc _ (keep_alloc _ (keep_alloc _ (K1.out)))))))
        have K2' := Lib.hid (below_keep hbw8 (by first | exact K2.out | exact keep_alloc _ (K2.out) | exact keep_alloc _ (keep_alloc _ (K2.out)) | exact keep_alloc _ (keep_alloc _ (keep_alloc _ (K2.out))) | exact keep_alloc _ (keep_alloc _ (keep_alloc _ (keep_alloc _ (K2.out)))) | exact keep_alloc _ (keep_alloc _ (keep_alloc _ (keep_alloc _ (keep_alloc _ (K2.out)))))))
        have K3' := Lib.hid (below_keep hbw8 (by first | exact K3.out | exact keep_alloc _ (K3.out) | exact keep_alloc _ (keep_alloc _ (K3.out)) | exact keep_alloc _ (keep_alloc _ (keep_alloc _ (K3.out))) | exact keep_alloc _ (keep_alloc _ (keep_alloc _ (keep_alloc _ (K3.out)))) | exact keep_alloc _ (keep_alloc _ (keep_alloc _ (keep_alloc _ (keep_alloc _ (K3.out)))))))
        have B' := below_next (w := w) (by repeat' (first | (with_reducible exact Below.refl _ _) | (with_reducible assumption) | (with_reducible refine below_alloc ?_ _) | (with_reducible refine Below.drew ?_) | (with_reducible refine below_drewN ?_ _) | (with_reducible refine Below.setCell ?_ ?_ _) | go_size)) hbw8
        clear hbw8 B K0 K1 K2 K3 K0_0 K0_1 K0_2 K0_3 K0_f K0_z K1_0 K1_1 K1_2 K1_3 K1_f K1_z K2_0 K2_1 K2_2 K2_3 K2_f K2_z K3_0 K3_1 K3_2 K3_3 K3_f K3_z
        have B := B'; clear B'
        have K0 := K0'; clear K0'
        obtain ⟨K0_0, K0_1, K0_2, K0_3, K0_f, K0_z⟩ := cells4 K0.out
        have K1 := K1'; clear K1'
        obtain ⟨K1_0, K1_1, K1_2, K1_3, K1_f, K1_z⟩ := cells4 K1.out
        have K2 := K2'; clear K2'
        obtain ⟨K2_0, K2_1, K2_2, K2_3, K2_f, K2_z⟩ := cells4 K2.out
        have K3 := K3'; clear K3'
        obtain ⟨K3_0, K3_1, K3_2, K3_3, K3_f, K3_z⟩ := cells4 K3.out
        go_wp2_with fail
        go_ret
        exact ⟨rfl, (by repeat' (first | (with_reducible exact Below.refl _ _) | (with_reducible assumption) | (with_reducible refine below_alloc ?_ _) | (with_reducible refine Below.drew ?_) | (with_reducible refine below_drewN ?_ _) | (with_reducible refine Below.setCell ?_ ?_ _) | go_size))⟩
  · have qe' : ∀ (w : World), (Op.equalIn 10000 24 (nv a) (nv b)).run Try.prog w = .ok true w := fun w => by rw [qe w, decide_eq_true hne]
    clear qe hne
    go_wp2_with fail
    refine (cmp_any a b HA.out HB.out _).mono ?_
    rintro e w3 ⟨rfl, hbw3⟩
    have K0' := Lib.hid (below_keep hbw3 (by first | exact K0.out | exact keep_alloc _ (K0.out) | exact keep_alloc _ (keep_alloc _ (K0.out)) | exact keep_alloc _ (keep_alloc _ (keep_alloc _ (K0.out))) | exact keep_alloc _ (keep_alloc _ (keep_alloc _ (keep_alloc _ (K0.out)))) | exact keep_alloc _ (keep_alloc _ (keep_alloc _ (keep_alloc _ (keep_alloc _ (K0.out)))))))
    have K1' := Lib.hid (below_keep hbw3 (by first | exact K1.out | exact keep_alloc _ (K1.out) | exact keep_alloc _ (keep_alloc _ (K1.out)) | exact keep_alloc _ (keep_alloc _ (keep_alloc _ (K1.out))) | exact keep_alloc _ (keep_alloc _ (keep_alloc _ (keep_alloc _ (K1.out)))) | exact keep_alloc _ (keep_alloc _ (keep_alloc _ (keep_alloc _ (keep_alloc _ (K1.out)))))))
    have K2' := Lib.hid (below_keep hbw3 (by first | exact K2.out | exact keep_alloc _ (K2.out) | exact keep_alloc _ (keep_alloc _ (K2.out)) | exact keep_alloc _ (keep_alloc _ (keep_alloc _ (K2.out))) | exact keep_alloc _ (keep_alloc _ (keep_alloc _ (keep_alloc _ (K2.out)))) | exact keep_alloc _ (keep_alloc _ (keep_alloc _ (keep_alloc _ (keep_alloc _ (K2.out)))))))
    have B' := below_next (w := w) (by repeat' (first | (with_reducible exact Below.refl _ _) | (with_reducible assumption) | (with_reducible refine below_alloc ?_ _) | (with_reducible refine Below.drew ?_) | (with_reducible refine below_drewN ?_ _) | (with_reducible refine Below.setCell ?_ ?_ _) | go_size)) hbw3
    clear hbw3 B K0 K1 K2 K0_0 K0_1 K0_2 K0_3 K0_f K0_z K1_0 K1_1 K1_2 K1_3 K1_f K1_z K2_0 K2_1 K2_2 K2_3 K2_f K2_z
    have B := B'; clear B'
    have K0 := K0'; clear K0'
    obtain ⟨K0_0, K0_1, K0_2, K0_3, K0_f, K0_z⟩ := cells4 K0.out
    have K1 := K1'; clear K1'
    obtain ⟨K1_0, K1_1, K1_2, K1_3, K1_f, K1_z⟩ := cells4 K1.out
    have K2 := K2'; clear K2'
    obtain ⟨K2_0, K2_1, K2_2, K2_3, K2_f, K2_z⟩ := cells4 K2.out
    rw [EX.out]
    go_wp2_with fail
    refine (cmp_any b c HB.out HC.out _).mono ?_
    rintro e w4 ⟨rfl, hbw4⟩
    have K0' := Lib.hid (below_keep hbw4 (by first | exact K0.out | exact keep_alloc _ (K0.out) | exact keep_alloc _ (keep_alloc _ (K0.out)) | exact keep_alloc _ (keep_alloc _ (keep_alloc _ (K0.out))) | exact keep_alloc _ (keep_alloc _ (keep_alloc _ (keep_alloc _ (K0.out)))) | exact keep_alloc _ (keep_alloc _ (keep_alloc _ (keep_alloc _ (keep_alloc _ (K0.out)))))))
    have K1' := Lib.hid (below_keep hbw4 (by first | exact K1.out | exact keep_alloc _ (K1.out) | exact keep_alloc _ (keep_alloc _ (K1.out)) | exact keep_alloc _ (keep_alloc _ (keep_alloc _ (K1.out))) | exact keep_alloc _ (keep_alloc _ (keep_alloc _ (keep_alloc _ (K1.out)))) | exact keep_alloc _ (keep_alloc _ (keep_alloc _ (keep_alloc _ (keep_alloc _ (K1.out)))))))
    have K2' := Lib.hid (below_keep hbw4 (by first | exact K2.out | exact keep_alloc _ (K2.out) | exact keep_alloc _ (keep_alloc _ (K2.out)) | exact keep_alloc _ (keep_alloc _ (keep_alloc _ (K2.out))) | exact keep_alloc _ (keep_alloc _ (keep_alloc _ (keep_alloc _ (K2.out)))) | exact keep_alloc _ (keep_alloc _ (keep_alloc _ (keep_alloc _ (keep_alloc _ (K2.out)))))))
    have B' := below_next (w := w) (by repeat' (first | (with_reducible exact Below.refl _ _) | (with_reducible assumption) | (with_reducible refine below_alloc ?_ _) | (with_reducible refine Below.drew ?_) | (with_reducible refine below_drewN ?_ _) | (with_reducible refine Below.setCell ?_ ?_ _) | go_size)) hbw4
    clear hbw4 B K0 K1 K2 K0_0 K0_1 K0_2 K0_3 K0_f K0_z K1_0 K1_1 K1_2 K1_3 K1_f K1_z K2_0 K2_1 K2_2 K2_3 K2_f K2_z
    have B := B'; clear B'
    have K0 := K0'; clear K0'
    obtain ⟨K0_0, K0_1, K0_2, K0_3, K0_f, K0_z⟩ := cells4 K0.out
    have K1 := K1'; clear K1'
    obtain ⟨K1_0, K1_1, K1_2, K1_3, K1_f, K1_z⟩ := cells4 K1.out
    have K2 := K2'; clear K2'
    obtain ⟨K2_0, K2_1, K2_2, K2_3, K2_f, K2_z⟩ := cells4 K2.out
    rw [EZ.out]
    by_cases hz0 : z ≤ 0
    · go_wp2_with fail
      refine (cmp_any a c HA.out HC.out _).mono ?_
      rintro e w5 ⟨rfl, hbw5⟩
      have K0' := Lib.hid (below_keep hbw5 (by first | exact K0.out | exact keep_alloc _ (K0.out) | exact keep_alloc _ (keep_alloc _ (K0.out)) | exact keep_alloc _ (keep_alloc _ (keep_alloc _ (K0.out))) | exact keep_alloc _ (keep_alloc _ (keep_alloc _ (keep_alloc _ (K0.out)))) | exact keep_alloc _ (keep_alloc _ (keep_alloc _ (keep_alloc _ (keep_alloc _ (K0.out)))))))
      have K1' := Lib.hid (below_keep hbw5 (by first | exact K1.out | exact keep_alloc _ (K1.out) | exact keep_alloc _ (keep_alloc _ (K1.out)) | exact keep_alloc _ (keep_alloc _ (keep_alloc _ (K1.out))) | exact keep_alloc _ (keep_alloc _ (keep_alloc _ (keep_alloc _ (K1.out)))) | exact keep_alloc _ (keep_alloc _ (keep_alloc _ (keep_alloc _ (keep_alloc _ (K1.out)))))))
      have K2' := Lib.hid (below_keep hbw5 (by first | exact K2.out | exact keep_alloc _ (K2.out) | exact keep_alloc _ (keep_alloc _ (K2.out)) | exact keep_alloc _ (keep_alloc _ (keep_alloc _ (K2.out))) | exact keep_alloc _ (keep_alloc _ (keep_alloc _ (keep_alloc _ (K2.out)))) | exact keep_alloc _ (keep_alloc _ (keep_alloc _ (keep_alloc _ (keep_alloc _ (K2.out)))))))
      have B' := below_next (w := w) (by repeat' (first | (with_reducible exact Below.refl _ _) | (with_reducible assumption) | (with_reducible refine below_alloc ?_ _) | (with_reducible refine Below.drew ?_) | (with_reducible refine below_drewN ?_ _) | (with_reducible refine Below.setCell ?_ ?_ _) | go_size)) hbw5
      clear hbw5 B K0 K1 K2 K0_0 K0_1 K0_2 K0_3 K0_f K0_z K1_0 K1_1 K1_2 K1_3 K1_f K1_z K2_0 K2_1 K2_2 K2_3 K2_f K2_z
      have B := B'; clear B'
      have K0 := K0'; clear K0'
      obtain ⟨K0_0, K0_1, K0_2, K0_3, K0_f, K0_z⟩ := cells4 K0.out
      have K1 := K1'; clear K1'
      obtain ⟨K1_0, K1_1, K1_2, K1_3, K1_f, K1_z⟩ := cells4 K1.out
      have K2 := K2'; clear K2'
      obtain ⟨K2_0, K2_1, K2_2, K2_3, K2_f, K2_z⟩ := cells4 K2.out
      rw [EU.out]
      have hu0 : u ≤ 0 := HT.out (by omega) hz0
      go_wp2_with fail
      refine (add2_any a b HA.out HB.out _ _ _ (heap_new _ _)).mono ?_
      rintro e w6 ⟨rfl, hbw6⟩
      have K0' := Lib.hid (below_keep hbw6 (by first | exact K0.out | exact keep_alloc _ (K0.out) | exact keep_alloc _ (keep_alloc _ (K0.out)) | exact keep_alloc _ (keep_alloc _ (keep_alloc _ (K0.out))) | exact keep_alloc _ (keep_alloc _ (keep_alloc _ (keep_alloc _ (K0.out)))) | exact keep_alloc _ (keep_alloc _ (keep_alloc _ (keep_alloc _ (keep_alloc _ (K0.out)))))))
      have K1' := Lib.hid (below_keep hbw6 (by first | exact K1.out | exact keep_alloc _ (K1.out) | exact keep_alloc _ (keep_alloc _ (K1.out)) | exact keep_alloc _ (keep_alloc _ (keep_alloc _ (K1.out))) | exact keep_alloc _ (keep_alloc _ (keep_alloc _ (keep_alloc _ (K1.out)))) | exact keep_alloc _ (keep_alloc _ (keep_alloc _ (keep_alloc _ (keep_alloc _ (K1.out)))))))
      have K2' := Lib.hid (below_keep hbw6 (by first | exact K2.out | exact keep_alloc _ (K2.out) | exact keep_alloc _ (keep_alloc _ (K2.out)) | exact keep_alloc _ (keep_alloc _ (keep_alloc _ (K2.out))) | exact keep_alloc _ (keep_alloc _ (keep_alloc _ (keep_alloc _ (K2.out)))) | exact keep_alloc _ (keep_alloc _ (keep_alloc _ (keep_alloc _ (keep_alloc _ (K2.out)))))))
      have B' := below_next (w := w) (by repeat' (first | (with_reducible exact Below.refl _ _) | (with_reducible assumption) | (with_reducible refine below_alloc ?_ _) | (with_reducible refine Below.drew ?_) | (with_reducible refine below_drewN ?_ _) | (with_reducible refine Below.setCell ?_ ?_ _) | go_size)) hbw6
      clear hbw6 B K0 K1 K2 K0_0 K0_1 K0_2 K0_3 K0_f K0_z K1_0 K1_1 K1_2 K1_3 K1_f K1_z K2_0 K2_1 K2_2 K2_3 K2_f K2_z
      have B := B'; clear B'
      have K0 := K0'; clear K0'
      obtain ⟨K0_0, K0_1, K0_2, K0_3, K0_f, K0_z⟩ := cells4 K0.out
      have K1 := K1'; clear K1'
      obtain ⟨K1_0, K1_1, K1_2, K1_3, K1_f, K1_z⟩ := cells4 K1.out
      have K2 := K2'; clear K2'
      obtain ⟨K2_0, K2_1, K2_2, K2_3, K2_f, K2_z⟩ := cells4 K2.out
      have K3 := Lib.hid (heap_new w6 (nblk ((a + b) % 2 ^ 256)))
      have HS := Lib.hid (Nat.mod_lt (a + b) (show 0 < 2 ^ 256 by omega))
      by_cases hov : 2 ^ 256 ≤ a + b
      · have c1 : cmpn ((a + b) % 2 ^ 256) a < 0 := by have := HA.out; have := HB.out; unfold cmpn; rw [if_pos (by omega)]; omega
        have c2 : cmpn ((a + b) % 2 ^ 256) b < 0 := by have := HA.out; have := HB.out; unfold cmpn; rw [if_pos (by omega)]; omega
        rw [decide_eq_true hov]
        generalize (a + b) % 2 ^ 256 = S at *
        clear hov
        go_wp2_with fail
        refine (cmp_any S a HS.out HA.out _).mono ?_
        rintro e w7 ⟨rfl, hbw7⟩
        have K0' := Lib.hid (below_keep hbw7 (by first | exact K0.out | exact keep_alloc _ (K0.out) | exact keep_alloc _ (keep_alloc _ (K0.out)) | exact keep_alloc _ (keep_alloc _ (keep_alloc _ (K0.out))) | exact keep_alloc _ (keep_alloc _ (keep_alloc _ (keep_alloc _ (K0.out)))) | exact keep_alloc _ (keep_alloc _ (keep_alloc _ (keep_alloc _ (keep_alloc _ (K0.out)))))))
        have K1' := Lib.hid (below_keep hbw7 (by first | exact K1.out | exact keep_alloc _ (K1.out) | exact keep_alloc _ (keep_alloc _ (K1.out)) | exact keep_alloc _ (keep_alloc _ (keep_alloc _ (K1.out))) | exact keep_alloc _ (keep_alloc _ (keep_alloc _ (keep_alloc _ (K1.out)))) | exact keep_alloc _ (keep_alloc _ (keep_alloc _ (keep_alloc _ (keep_alloc _ (K1.out)))))))
        have K2' := Lib.hid (below_keep hbw7 (by first | exact K2.out | exact keep_alloc _ (K2.out) | exact keep_alloc _ (keep_alloc _ (K2.out)) | exact keep_alloc _ (keep_alloc _ (keep_alloc _ (K2.out))) | exact keep_alloc _ (keep_alloc _ (keep_alloc _ (keep_alloc _ (K2.out)))) | exact keep_alloc _ (keep_alloc _ (keep_alloc _ (keep_alloc _ (keep_alloc _ (K2.out)))))))
        have K3' := Lib.hid (below_keep hbw7 (by first | exact K3.out | exact keep_alloc _ (K3.out) | exact keep_alloc _ (keep_alloc _ (K3.out)) | exact keep_alloc _ (keep_alloc _ (keep_alloc _ (K3.out))) | exact keep_alloc _ (keep_alloc _ (keep_alloc _ (keep_alloc _ (K3.out)))) | exact keep_alloc _ (keep_alloc _ (keep_alloc _ (keep_alloc _ (keep_alloc _ (K3.out)))))))
        have B' := below_next (w := w) (by repeat' (first | (with_reducible exact Below.refl _ _) | (with_reducible assumption) | (with_reducible refine below_alloc ?_ _) | (with_reducible refine Below.drew ?_) | (with_reducible refine below_drewN ?_ _) | (with_reducible refine Below.setCell ?_ ?_ _) | go_size)) hbw7
        clear hbw7 B K0 K1 K2 K3 K0_0 K0_1 K0_2 K0_3 K0_f K0_z K1_0 K1_1 K1_2 K1_3 K1_f K1_z K2_0 K2_1 K2_2 K2_3 K2_f K2_z
        have B := B'; clear B'
        have K0 := K0'; clear K0'
        obtain ⟨K0_0, K0_1, K0_2, K0_3, K0_f, K0_z⟩ := cells4 K0.out
        have K1 := K1'; clear K1'
        obtain ⟨K1_0, K1_1, K1_2, K1_3, K1_f, K1_z⟩ := cells4 K1.out
        have K2 := K2'; clear K2'
        obtain ⟨K2_0, K2_1, K2_2, K2_3, K2_f, K2_z⟩ := cells4 K2.out
        have K3 := K3'; clear K3'
        obtain ⟨K3_0, K3_1, K3_2, K3_3, K3_f, K3_z⟩ := cells4 K3.out
        go_wp2_with fail
        refine (cmp_any S b HS.out HB.out _).mono ?_
        rintro e w8 ⟨rfl, hbw8⟩
        have K0' := Lib.hid (below_keep hbw8 (by first | exact K0.out | exact keep_alloc _ (K0.out) | exact keep_alloc _ (keep_alloc _ (K0.out)) | exact keep_alloc _ (keep_alloc _ (keep_alloc _ (K0.out))) | exact keep_alloc _ (keep_alloc _ (keep_alloc _ (keep_alloc _ (K0.out)))) | exact keep_alloc _ (keep_alloc _ (keep_alloc _ (keep_alloc _ (keep_alloc _ (K0.out)))))))
        have K1' := Lib.hid (below_keep hbw8 (by first | exact K1.out | exact keep_alloc _ (K1.out) | exact keep_alloc _ (keep_alloc _ (K1.out)) | exact keep_alloc _ (keep_alloc _ (keep_alloc _ (K1.out))) | exact keep_alloc _ (keep_alloc _ (keep_alloc _ (keep_alloc _ (K1.out)))) | exact keep_alloc _ (keep_alloc _ (keep_alloc _ (keep_alloc _ (keep_alloc _ (K1.out)))))))
        have K2' := Lib.hid (below_keep hbw8 (by first | exact K2.out | exact keep_alloc _ (K2.out) | exact keep_alloc _ (keep_alloc _ (K2.out)) | exact keep_alloc _ (keep_alloc _ (keep_alloc _ (K2.out))) | exact keep_alloc _ (keep_alloc _ (keep_alloc _ (keep_alloc _ (K2.out)))) | exact keep_alloc _ (keep_alloc _ (keep_alloc _ (keep_alloc _ (keep_alloc _ (K2.out)))))))
        have K3' := Lib.hid (below_keep hbw8 (by first | exact K3.out | exact keep_alloc _ (K3.out) | exact keep_alloc _ (keep_alloc _ (K3.out)) | exact keep_alloc _ (keep_alloc _ (keep_alloc _ (K3.out))) | exact keep_alloc _ (keep_alloc _ (keep_alloc _ (keep_alloc _ (K3.out)))) | exact keep_alloc _ (keep_alloc _ (keep_alloc _ (keep_alloc _ (keep_alloc _ (K3.out)))))))
        have B' := below_next (w := w) (by repeat' (first | (with_reducible exact Below.refl _ _) | (with_reducible assumption) | (with_reducible refine below_alloc ?_ _) | (with_reducible refine Below.drew ?_) | (with_reducible refine below_drewN ?_ _) | (with_reducible refine Below.setCell ?_ ?_ _) | go_size)) hbw8
        clear hbw8 B K0 K1 K2 K3 K0_0 K0_1 K0_2 K0_3 K0_f K0_z K1_0 K1_1 K1_2 K1_3 K1_f K1_z K2_0 K2_1 K2_2 K2_3 K2_f K2_z K3_0 K3_1 K3_2 K3_3 K3_f K3_z
        have B := B'; clear B'
        have K0 := K0'; clear K0'
        obtain ⟨K0_0, K0_1, K0_2, K0_3, K0_f, K0_z⟩ := cells4 K0.out
        have K1 := K1'; clear K1'
        obtain ⟨K1_0, K1_1, K1_2, K1_3, K1_f, K1_z⟩ := cells4 K1.out
        have K2 := K2'; clear K2'
        obtain ⟨K2_0, K2_1, K2_2, K2_3, K2_f, K2_z⟩ := cells4 K2.out
        have K3 := K3'; clear K3'
        obtain ⟨K3_0, K3_1, K3_2, K3_3, K3_f, K3_z⟩ := cells4 K3.out
        go_wp2_with fail
        go_ret
        exact ⟨rfl, (by repeat' (first | (with_reducible exact Below.refl _ _) | (with_reducible assumption) | (with_reducible refine below_alloc ?_ _) | (with_reducible refine Below.drew ?_) | (with_reducible refine below_drewN ?_ _) | (with_reducible refine Below.setCell ?_ ?_ _) | go_size))⟩
      · have c1 : 0 ≤ cmpn ((a + b) % 2 ^ 256) a := by rw [Nat.mod_eq_of_lt (by omega)]; unfold cmpn; rw [if_neg (by omega)]; split <;> omega
        have c2 : 0 ≤ cmpn ((a + b) % 2 ^ 256) b := by rw [Nat.mod_eq_of_lt (by omega)]; unfold cmpn; rw [if_neg (by omega)]; split <;> omega
        rw [decide_eq_false hov]
        generalize (a + b) % 2 ^ 256 = S at *
        clear hov
        go_wp2_with fail
        refine (cmp_any S a HS.out HA.out _).mono ?_
        rintro e w7 ⟨rfl, hbw7⟩
        have K0' := Lib.hid (below_keep hbw7 (by first | exact K0.out | exact keep_alloc _ (K0.out) | exact keep_alloc _ (keep_alloc _ (K0.out)) | exact keep_alloc _ (keep_alloc _ (keep_alloc _ (K0.out))) | exact keep_alloc _ (keep_alloc _ (keep_alloc _ (keep_alloc _ (K0.out)))) | exact keep_alloc _ (keep_alloc _ (keep_alloc _ (keep_alloc _ (keep_alloc _ (K0.out)))))))
        have K1' := Lib.hid (below_keep hbw7 (by first | exact K1.out | exact keep_alloc _ (K1.out) | exact keep_alloc _ (keep_alloc _ (K1.out)) | exact keep_alloc _ (keep_alloc _ (keep_alloc _ (K1.out))) | exact keep_alloc _ (keep_alloc _ (keep_alloc _ (keep_alloc _ (K1.out)))) | exact keep_alloc _ (keep_alloc _ (keep_alloc _ (keep_alloc _ (keep_alloc _ (K1.out)))))))
        have K2' := Lib.hid (below_keep hbw7 (by first | exact K2.out | exact keep_alloc _ (K2.out) | exact keep_alloc _ (keep_alloc _ (K2.out)) | exact keep_alloc _ (keep_alloc _ (keep_alloc _ (K2.out))) | exact keep_alloc _ (keep_alloc _ (keep_alloc _ (keep_alloc _ (K2.out)))) | exact keep_alloc _ (keep_alloc _ (keep_alloc _ (keep_alloc _ (keep_alloc _ (K2.out)))))))
        have K3' := Lib.hid (below_keep hbw7 (by first | exact K3.out | exact keep_alloc _ (K3.out) | exact keep_alloc _ (keep_alloc _ (K3.out)) | exact keep_alloc _ (keep_alloc _ (keep_alloc _ (K3.out))) | exact keep_alloc _ (keep_alloc _ (keep_alloc _ (keep_alloc _ (K3.out)))) | exact keep_alloc _ (keep_alloc _ (keep_alloc _ (keep_alloc _ (keep_alloc _ (K3.out)))))))
        have B' := below_next (w := w) (by repeat' (first | (with_reducible exact Below.refl _ _) | (with_reducible assumption) | (with_reducible refine below_alloc ?_ _) | (with_reducible refine Below.drew ?_) | (with_reducible refine below_drewN ?_ _) | (with_reducible refine Below.setCell ?_ ?_ _) | go_size)) hbw7
        clear hbw7 B K0 K1 K2 K3 K0_0 K0_1 K0_2 K0_3 K0_f K0_z K1_0 K1_1 K1_2 K1_3 K1_f K1_z K2_0 K2_1 K2_2 K2_3 K2_f K2_z
        have B := B'; clear B'
        have K0 := K0'; clear K0'
        obtain ⟨K0_0, K0_1, K0_2, K0_3, K0_f, K0_z⟩ := cells4 K0.out
        have K1 := K1'; clear K1'
        obtain ⟨K1_0, K1_1, K1_2, K1_3, K1_f, K1_z⟩ := cells4 K1.out
        have K2 := K2'; clear K2'
        obtain ⟨K2_0, K2_1, K2_2, K2_3, K2_f, K2_z⟩ := cells4 K2.out
        have K3 := K3'; clear K3'
        obtain ⟨K3_0, K3_1, K3_2, K3_3, K3_f, K3_z⟩ := cells4 K3.out
        go_wp2_with fail
        refine (cmp_any S b HS.out HB.out _).mono ?_
        rintro e w8 ⟨rfl, hbw8⟩
        have K0' := Lib.hid (below_keep hbw8 (by first | exact K0.out | exact keep_alloc _ (K0.out) | exact keep_alloc _ (keep_alloc _ (K0.out)) | exact keep_alloc _ (keep_alloc _ (keep_alloc _ (K0.out))) | exact keep_alloc _ (keep_alloc _ (keep_alloc _ (keep_alloc _ (K0.out)))) | exact keep_alloc _ (keep_alloc _ (keep_alloc _ (keep_alloc _ (keep_alloc _ (K0.out)))))))
        have K1' := Lib.hid (below_keep hbw8 (by first | exact K1.out | exact keep_alloc _ (K1.out) | exact keep_alloc _ (keep_alloc _ (K1.out)) | exact keep_alloc _ (keep_alloc _ (keep_alloc _ (K1.out))) | exact keep_alloc _ (keep_alloc _ (keep_alloc _ (keep_alloc _ (K1.out)))) | exact keep_alloc _ (keep_alloc _ (keep_alloc _ (keep_alloc _ (keep_alloc _ (K1.out)))))))
        have K2' := Lib.hid (below_keep hbw8 (by first | exact K2.out | exact keep_alloc _ (K2.out) | exact keep_alloc _ (keep_alloc _ (K2.out)) | exact keep_alloc _ (keep_alloc _ (keep_alloc _ (K2.out))) | exact keep_alloc _ (keep_alloc _ (keep_alloc _ (keep_alloc _ (K2.out)))) | exact keep_alloc _ (keep_alloc _ (keep_alloc _ (keep_alloc _ (keep_alloc _ (K2.out)))))))
        have K3' := Lib.hid (below_keep hbw8 (by first | exact K3.out | exact keep_alloc _ (K3.out) | exact keep_alloc _ (keep_alloc _ (K3.out)) | exact keep_alloc _ (keep_alloc _ (keep_alloc _ (K3.out))) | exact keep_alloc _ (keep_alloc _ (keep_alloc _ (keep_alloc _ (K3.out)))) | exact keep_alloc _ (keep_alloc _ (keep_alloc _ (keep_alloc _ (keep_alloc _ (K3.out)))))))
        have B' := below_next (w := w) (by repeat' (first | (with_reducible exact Below.refl _ _) | (with_reducible assumption) | (with_reducible refine below_alloc ?_ _) | (with_reducible refine Below.drew ?_) | (with_reducible refine below_drewN ?_ _) | (with_reducible refine Below.setCell ?_ ?_ _) | go_size)) hbw8
        clear hbw8 B K0 K1 K2 K3 K0_0 K0_1 K0_2 K0_3 K0_f K0_z K1_0 K1_1 K1_2 K1_3 K1_f K1_z K2_0 K2_1 K2_2 K2_3 K2_f K2_z K3_0 K3_1 K3_2 K3_3 K3_f K3_z
        have B := B'; clear B'
        have K0 := K0'; clear K0'
        obtain ⟨K0_0, K0_1, K0_2, K0_3, K0_f, K0_z⟩ := cells4 K0.out
        have K1 := K1'; clear K1'
        obtain ⟨K1_0, K1_1, K1_2, K1_3, K1_f, K1_z⟩ := cells4 K1.out
        have K2 := K2'; clear K2'
        obtain ⟨K2_0, K2_1, K2_2, K2_3, K2_f, K2_z⟩ := cells4 K2.out
        have K3 := K3'; clear K3'
        obtain ⟨K3_0, K3_1, K3_2, K3_3, K3_f, K3_z⟩ := cells4 K3.out
        go_wp2_with fail
        go_ret
        exact ⟨rfl, (by repeat' (first | (with_reducible exact Below.refl _ _) | (with_reducible assumption) | (with_reducible refine below_alloc ?_ _) | (with_reducible refine Below.drew ?_) | (with_reducible refine below_drewN ?_ _) | (with_reducible refine Below.setCell ?_ ?_ _) | go_size))⟩
    · go_wp2_with fail
      refine (add2_any a b HA.out HB.out _ _ _ (heap_new _ _)).mono ?_
      rintro e w6 ⟨rfl, hbw6⟩
      have K0' := Lib.hid (below_keep hbw6 (by first | exact K0.out | exact keep_alloc _ (K0.out) | exact keep_alloc _ (keep_alloc _ (K0.out)) | exact keep_alloc _ (keep_alloc _ (keep_alloc _ (K0.out))) | exact keep_alloc _ (keep_alloc _ (keep_alloc _ (keep_alloc _ (K0.out)))) | exact keep_alloc _ (keep_alloc _ (keep_alloc _ (keep_alloc _ (keep_alloc _ (K0.out)))))))
      have K1' := Lib.hid (below_keep hbw6 (by first | exact K1.out | exact keep_alloc _ (K1.out) | exact keep_alloc _ (keep_alloc _ (K1.out)) | exact keep_alloc _ (keep_alloc _ (keep_alloc _ (K1.out))) | exact keep_alloc _ (keep_alloc _ (keep_alloc _ (keep_alloc _ (K1.out)))) | exact keep_alloc _ (keep_alloc _ (keep_alloc _ (keep_alloc _ (keep_alloc _ (K1.out)))))))
      have K2' := Lib.hid (below_keep hbw6 (by first | exact K2.out | exact keep_alloc _ (K2.out) | exact keep_alloc _ (keep_alloc _ (K2.out)) | exact keep_alloc _ (keep_alloc _ (keep_alloc _ (K2.out))) | exact keep_alloc _ (keep_alloc _ (keep_alloc _ (keep_alloc _ (K2.out)))) | exact keep_alloc _ (keep_alloc _ (keep_alloc _ (keep_alloc _ (keep_alloc _ (K2.out)))))))
      have B' := below_next (w := w) (by repeat' (first | (with_reducible exact Below.refl _ _) | (with_reducible assumption) | (with_reducible refine below_alloc ?_ _) | (with_reducible refine Below.drew ?_) | (with_reducible refine below_drewN ?_ _) | (with_reducible refine Below.setCell ?_ ?_ _) | go_size)) hbw6
      clear hbw6 B K0 K1 K2 K0_0 K0_1 K0_2 K0_3 K0_f K0_z K1_0 K1_1 K1_2 K1_3 K1_f K1_z K2_0 K2_1 K2_2 K2_3 K2_f K2_z
      have B := B'; clear B'
      have K0 := K0'; clear K0'
      obtain ⟨K0_0, K0_1, K0_2, K0_3, K0_f, K0_z⟩ := cells4 K0.out
      have K1 := K1'; clear K1'
      obtain ⟨K1_0, K1_1, K1_2, K1_3, K1_f, K1_z⟩ := cells4 K1.out
      have K2 := K2'; clear K2'
      obtain ⟨K2_0, K2_1, K2_2, K2_3, K2_f, K2_z⟩ := cells4 K2.out
      have K3 := Lib.hid (heap_new w6 (nblk ((a + b) % 2 ^ 256)))
      have HS := Lib.hid (Nat.mod_lt (a + b) (show 0 < 2 ^ 256 by omega))
      by_cases hov : 2 ^ 256 ≤ a + b
      · have c1 : cmpn ((a + b) % 2 ^ 256) a < 0 := by have := HA.out; have := HB.out; unfold cmpn; rw [if_pos (by omega)]; omega
        have c2 : cmpn ((a + b) % 2 ^ 256) b < 0 := by have := HA.out; have := HB.out; unfold cmpn; rw [if_pos (by omega)]; omega
        rw [decide_eq_true hov]
        generalize (a + b) % 2 ^ 256 = S at *
        clear hov
        go_wp2_with fail
        refine (cmp_any S a HS.out HA.out _).mono ?_
        rintro e w7 ⟨rfl, hbw7⟩
        have K0' := Lib.hid (below_keep hbw7 (by first | exact K0.out | exact keep_alloc _ (K0.out) | exact keep_alloc _ (keep_alloc _ (K0.out)) | exact keep_alloc _ (keep_alloc _ (keep_alloc _ (K0.out))) | exact keep_alloc _ (keep_alloc _ (keep_alloc _ (keep_alloc _ (K0.out)))) | exact keep_alloc _ (keep_alloc _ (keep_alloc _ (keep_alloc _ (keep_alloc _ (K0.out)))))))
        have K1' := Lib.hid (below_keep hbw7 (by first | exact K1.out | exact keep_alloc _ (K1.out) | exact keep_alloc _ (keep_alloc _ (K1.out)) | exact keep_alloc _ (keep_alloc _ (keep_alloc _ (K1.out))) | exact keep_alloc _ (keep_alloc _ (keep_alloc _ (keep_alloc _ (K1.out)))) | exact keep_alloc _ (keep_alloc _ (keep_alloc _ (keep_alloc _ (keep_alloc _ (K1.out)))))))
        have K2' := Lib.hid (below_keep hbw7 (by first | exact K2.out | exact keep_alloc _ (K2.out) | exact keep_alloc _ (keep_alloc _ (K2.out)) | exact keep_alloc _ (keep_alloc _ (keep_alloc _ (K2.out))) | exact keep_alloc _ (keep_alloc _ (keep_alloc _ (keep_alloc _ (K2.out)))) | exact keep_alloc _ (keep_alloc _ (keep_alloc _ (keep_alloc _ (keep_alloc _ (K2.out)))))))
        have K3' := Lib.hid (below_keep hbw7 (by first | exact K3.out | exact keep_alloc _ (K3.out) | exact keep_alloc _ (keep_alloc _ (K3.out)) | exact keep_alloc _ (keep_alloc _ (keep_alloc _ (K3.out))) | exact keep_alloc _ (keep_alloc _ (keep_alloc _ (keep_alloc _ (K3.out)))) | exact keep_alloc _ (keep_alloc _ (keep_alloc _ (keep_alloc _ (keep_alloc _ (K3.out)))))))
        have B' := below_next (w := w) (by repeat' (first | (with_reducible exact Below.refl _ _) | (with_reducible assumption) | (with_reducible refine below_alloc ?_ _) | (with_reducible refine Below.drew ?_) | (with_reducible refine below_drewN ?_ _) | (with_reducible refine Below.setCell ?_ ?_ _) | go_size)) hbw7
        clear hbw7 B K0 K1 K2 K3 K0_0 K0_1 K0_2 K0_3 K0_f K0_z K1_0 K1_1 K1_2 K1_3 K1_f K1_z K2_0 K2_1 K2_2 K2_3 K2_f K2_z
        have B := B'; clear B'
        have K0 := K0'; clear K0'
        obtain ⟨K0_0, K0_1, K0_2, K0_3, K0_f, K0_z⟩ := cells4 K0.out
        have K1 := K1'; clear K1'
        obtain ⟨K1_0, K1_1, K1_2, K1_3, K1_f, K1_z⟩ := cells4 K1.out
        have K2 := K2'; clear K2'
        obtain ⟨K2_0, K2_1, K2_2, K2_3, K2_f, K2_z⟩ := cells4 K2.out
        have K3 := K3'; clear K3'
        obtain ⟨K3_0, K3_1, K3_2, K3_3, K3_f, K3_z⟩ := cells4 K3.out
        go_wp2_with fail
        refine (cmp_any S b HS.out HB.out _).mono ?_
        rintro e w8 ⟨rfl, hbw8⟩
        have K0' := Lib.hid (below_keep hbw8 (by first | exact K0.out | exact keep_alloc _ (K0.out) | exact keep_alloc _ (keep_alloc _ (K0.out)) | exact keep_alloc _ (keep_alloc _ (keep_alloc _ (K0.out))) | exact keep_alloc _ (keep_alloc _ (keep_alloc _ (keep_alloc _ (K0.out)))) | exact keep_alloc _ (keep_alloc _ (keep_alloc _ (keep_alloc _ (keep_alloc _ (K0.out)))))))
        have K1' := Lib.hid (below_keep hbw8 (by first | exact K1.out | exact keep_alloc _ (K1.out) | exact keep_alloc _ (keep_alloc _ (K1.out)) | exact keep_alloc _ (keep_alloc _ (keep_alloc _ (K1.out))) | exact keep_alloc _ (keep_alloc _ (keep_alloc _ (keep_alloc _ (K1.out)))) | exact keep_alloc _ (keep_alloc _ (keep_alloc _ (keep_alloc _ (keep_alloc _ (K1.out)))))))
        have K2' := Lib.hid (below_keep hbw8 (by first | exact K2.out | exact keep_alloc _ (K2.out) | exact keep_alloc _ (keep_alloc _ (K2.out)) | exact keep_alloc _ (keep_alloc _ (keep_alloc _ (K2.out))) | exact keep_alloc _ (keep_alloc _ (keep_alloc _ (keep_alloc _ (K2.out)))) | exact keep_alloc _ (keep_alloc _ (keep_alloc _ (keep_alloc _ (keep_alloc _ (K2.out)))))))
        have K3' := Lib.hid (below_keep hbw8 (by first | exact K3.out | exact keep_alloc _ (K3.out) | exact keep_alloc _ (keep_alloc _ (K3.out)) | exact keep_alloc _ (keep_alloc _ (keep_alloc _ (K3.out))) | exact keep_alloc _ (keep_alloc _ (keep_alloc _ (keep_alloc _ (K3.out)))) | exact keep_alloc _ (keep_alloc _ (keep_alloc _ (keep_alloc _ (keep_alloc _ (K3.out)))))))
        have B' := below_next (w := w) (by repeat' (first | (with_reducible exact Below.refl _ _) | (with_reducible assumption) | (with_reducible refine below_alloc ?_ _) | (with_reducible refine Below.drew ?_) | (with_reducible refine below_drewN ?_ _) | (with_reducible refine Below.setCell ?_ ?_ _) | go_size)) hbw8
        clear hbw8 B K0 K1 K2 K3 K0_0 K0_1 K0_2 K0_3 K0_f K0_z K1_0 K1_1 K1_2 K1_3 K1_f K1_z K2_0 K2_1 K2_2 K2_3 K2_f K2_z K3_0 K3_1 K3_2 K3_3 K3_f K3_z
        have B := B'; clear B'
        have K0 := K0'; clear K0'
        obtain ⟨K0_0, K0_1, K0_2, K0_3, K0_f, K0_z⟩ := cells4 K0.out
        have K1 := K1'; clear K1'
        obtain ⟨K1_0, K1_1, K1_2, K1_3, K1_f, K1_z⟩ := cells4 K1.out
        have K2 := K2'; clear K2'
        obtain ⟨K2_0, K2_1, K2_2, K2_3, K2_f, K2_z⟩ := cells4 K2.out
        have K3 := K3'; clear K3'
        obtain ⟨K3_0, K3_1, K3_2, K3_3, K3_f, K3_z⟩ := cells4 K3.out
        go_wp2_with fail
        go_ret
        exact ⟨rfl, (by repeat' (first | (with_reducible exact Below.refl _ _) | (with_reducible assumption) | (with_reducible refine below_alloc ?_ _) | (with_reducible refine Below.drew ?_) | (with_reducible refine below_drewN ?_ _) | (with_reducible refine Below.setCell ?_ ?_ _) | go_size))⟩
      · have c1 : 0 ≤ cmpn ((a + b) % 2 ^ 256) a := by rw [Nat.mod_eq_of_lt (by omega)]; unfold cmpn; rw [if_neg (by omega)]; split <;> omega
        have c2 : 0 ≤ cmpn ((a + b) % 2 ^ 256) b := by rw [Nat.mod_eq_of_lt (by omega)]; unfold cmpn; rw [if_neg (by omega)]; split <;> omega
        rw [decide_eq_false hov]
        generalize (a + b) % 2 ^ 256 = S at *
        clear hov
        go_wp2_with fail
        refine (cmp_any S a HS.out HA.out _).mono ?_
        rintro e w7 ⟨rfl, hbw7⟩
        have K0' := Lib.hid (below_keep hbw7 (by first | exact K0.out | exact keep_alloc _ (K0.out) | exact keep_alloc _ (keep_alloc _ (K0.out)) | exact keep_alloc _ (keep_alloc _ (keep_alloc _ (K0.out))) | exact keep_alloc _ (keep_alloc _ (keep_alloc _ (keep_alloc _ (K0.out)))) | exact keep_alloc _ (keep_alloc _ (keep_alloc _ (keep_alloc _ (keep_alloc _ (K0.out)))))))
        have K1' := Lib.hid (below_keep hbw7 (by first | exact K1.out | exact keep_alloc _ (K1.out) | exact keep_alloc _ (keep_alloc _ (K1.out)) | exact keep_alloc _ (keep_alloc _ (keep_alloc _ (K1.out))) | exact keep_alloc _ (keep_alloc _ (keep_alloc _ (keep_alloc _ (K1.out)))) | exact keep_alloc _ (keep_alloc _ (keep_alloc _ (keep_alloc _ (keep_alloc _ (K1.out)))))))
        have K2' := Lib.hid (below_keep hbw7 (by first | exact K2.out | exact keep_alloc _ (K2.out) | exact keep_alloc _ (keep_alloc _ (K2.out)) | exact keep_alloc _ (keep_alloc _ (keep_alloc _ (K2.out))) | exact keep_alloc _ (keep_alloc _ (keep_alloc _ (keep_alloc _ (K2.out)))) | exact keep_alloc _ (keep_alloc _ (keep_alloc _ (keep_alloc _ (keep_alloc _ (K2.out)))))))
        have K3' := Lib.hid (below_keep hbw7 (by first | exact K3.out | exact keep_alloc _ (K3.out) | exact keep_alloc _ (keep_alloc _ (K3.out)) | exact keep_alloc _ (keep_alloc _ (keep_alloc _ (K3.out))) | exact keep_alloc _ (keep_alloc _ (keep_alloc _ (keep_alloc _ (K3.out)))) | exact keep_alloc _ (keep_alloc _ (keep_alloc _ (keep_alloc _ (keep_alloc _ (K3.out)))))))
        have B' := below_next (w := w) (by repeat' (first | (with_reducible exact Below.refl _ _) | (with_reducible assumption) | (with_reducible refine below_alloc ?_ _) | (with_reducible refine Below.drew ?_) | (with_reducible refine below_drewN ?_ _) | (with_reducible refine Below.setCell ?_ ?_ _) | go_size)) hbw7
        clear hbw7 B K0 K1 K2 K3 K0_0 K0_1 K0_2 K0_3 K0_f K0_z K1_0 K1_1 K1_2 K1_3 K1_f K1_z K2_0 K2_1 K2_2 K2_3 K2_f K2_z
        have B := B'; clear B'
        have K0 := K0'; clear K0'
        obtain ⟨K0_0, K0_1, K0_2, K0_3, K0_f, K0_z⟩ := cells4 K0.out
        have K1 := K1'; clear K1'
        obtain ⟨K1_0, K1_1, K1_2, K1_3, K1_f, K1_z⟩ := cells4 K1.out
        have K2 := K2'; clear K2'
        obtain ⟨K2_0, K2_1, K2_2, K2_3, K2_f, K2_z⟩ := cells4 K2.out
        have K3 := K3'; clear K3'
        obtain ⟨K3_0, K3_1, K3_2, K3_3, K3_f, K3_z⟩ := cells4 K3.out
        go_wp2_with fail
        refine (cmp_any S b HS.out HB.out _).mono ?_
        rintro e w8 ⟨rfl, hbw8⟩
        have K0' := Lib.hid (below_keep hbw8 (by first | exact K0.out | exact keep_alloc _ (K0.out) | exact keep_alloc _ (keep_alloc _ (K0.out)) | exact keep_alloc _ (keep_alloc _ (keep_alloc _ (K0.out))) | exact keep_alloc _ (keep_alloc _ (keep_alloc _ (keep_alloc _ (K0.out)))) | exact keep_alloc _ (keep_alloc _ (keep_alloc _ (keep_alloc _ (keep_alloc _ (K0.out)))))))
        have K1' := Lib.hid (below_keep hbw8 (by first | exact K1.out | exact keep_alloc _ (K1.out) | exact keep_alloc _ (keep_alloc _ (K1.out)) | exact keep_alloc _ (keep_alloc _ (keep_alloc _ (K1.out))) | exact keep_alloc _ (keep_alloc _ (keep_alloc _ (keep_alloc _ (K1.out)))) | exact keep_alloc _ (keep_alloc _ (keep_alloc _ (keep_alloc _ (keep_alloc _ (K1.out)))))))
        have K2' := Lib.hid (below_keep hbw8 (by first | exact K2.out | exact keep_alloc _ (K2.out) | exact keep_alloc _ (keep_alloc _ (K2.out)) | exact keep_alloc _ (keep_alloc _ (keep_alloc _ (K2.out))) | exact keep_alloc _ (keep_alloc _ (keep_alloc _ (keep_alloc _ (K2.out)))) | exact keep_alloc _ (keep_alloc _ (keep_alloc _ (keep_alloc _ (keep_alloc _ (K2.out)))))))
        have K3' := Lib.hid (below_keep hbw8 (by first | exact K3.out | exact keep_alloc _ (K3.out) | exact keep_alloc _ (keep_alloc _ (K3.out)) | exact keep_alloc _ (keep_alloc _ (keep_alloc _ (K3.out))) | exact keep_alloc _ (keep_alloc _ (keep_alloc _ (keep_alloc _ (K3.out)))) | exact keep_alloc _ (keep_alloc _ (keep_alloc _ (keep_alloc _ (keep_alloc _ (K3.out)))))))
        have B' := below_next (w := w) (by repeat' (first | (with_reducible exact Below.refl _ _) | (with_reducible assumption) | (with_reducible refine below_alloc ?_ _) | (with_reducible refine Below.drew ?_) | (with_reducible refine below_drewN ?_ _) | (with_reducible refine Below.setCell ?_ ?_ _) | go_size)) hbw8
        clear hbw8 B K0 K1 K2 K3 K0_0 K0_1 K0_2 K0_3 K0_f K0_z K1_0 K1_1 K1_2 K1_3 K1_f K1_z K2_0 K2_1 K2_2 K2_3 K2_f K2_z K3_0 K3_1 K3_2 K3_3 K3_f K3_z
        have B := B'; clear B'
        have K0 := K0'; clear K0'
        obtain ⟨K0_0, K0_1, K0_2, K0_3, K0_f, K0_z⟩ := cells4 K0.out
        have K1 := K1'; clear K1'
        obtain ⟨K1_0, K1_1, K1_2, K1_3, K1_f, K1_z⟩ := cells4 K1.out
        have K2 := K2'; clear K2'
        obtain ⟨K2_0, K2_1, K2_2, K2_3, K2_f, K2_z⟩ := cells4 K2.out
        have K3 := K3'; clear K3'
        obtain ⟨K3_0, K3_1, K3_2, K3_3, K3_f, K3_z⟩ := cells4 K3.out
        go_wp2_with fail
        go_ret
        exact ⟨rfl, (by repeat' (first | (with_reducible exact Below.refl _ _) | (with_reducible assumption) | (with_reducible refine below_alloc ?_ _) | (with_reducible refine Below.drew ?_) | (with_reducible refine below_drewN ?_ _) | (with_reducible refine Below.setCell ?_ ?_ _) | go_size))⟩
  · have qe' : ∀ (w : World), (Op.equalIn 10000 24 (nv a) (nv b)).run Try.prog w = .ok false w := fun w => by rw [qe w, decide_eq_false hne]
    clear qe hne
    go_wp2_with fail
    refine (cmp_any a b HA.out HB.out _).mono ?_
    rintro e w3 ⟨rfl, hbw3⟩
    have K0' := Lib.hid (below_keep hbw3 (by first | exact K0.out | exact keep_alloc _ (K0.out) | exact keep_alloc _ (keep_alloc _ (K0.out)) | exact keep_alloc _ (keep_alloc _ (keep_alloc _ (K0.out))) | exact keep_alloc _ (keep_alloc _ (keep_alloc _ (keep_alloc _ (K0.out)))) | exact keep_alloc _ (keep_alloc _ (keep_alloc _ (keep_alloc _ (keep_alloc _ (K0.out)))))))
    have K1' := Lib.hid (below_keep hbw3 (by first | exact K1.out | exact keep_alloc _ (K1.out) | exact keep_alloc _ (keep_alloc _ (K1.out)) | exact keep_alloc _ (keep_alloc _ (keep_alloc _ (K1.out))) | exact keep_alloc _ (keep_alloc _ (keep_alloc _ (keep_alloc _ (K1.out)))) | exact keep_alloc _ (keep_alloc _ (keep_alloc _ (keep_alloc _ (keep_alloc _ (K1.out)))))))
    have K2' := Lib.hid (below_keep hbw3 (by first | exact K2.out | exact keep_alloc _ (K2.out) | exact keep_alloc _ (keep_alloc _ (K2.out)) | exact keep_alloc _ (keep_alloc _ (keep_alloc _ (K2.out))) | exact keep_alloc _ (keep_alloc _ (keep_alloc _ (keep_alloc _ (K2.out)))) | exact keep_alloc _ (keep_alloc _ (keep_alloc _ (keep_alloc _ (keep_alloc _ (K2.out)))))))
    have B' := below_next (w := w) (by repeat' (first | (with_reducible exact Below.refl _ _) | (with_reducible assumption) | (with_reducible refine below_alloc ?_ _) | (with_reducible refine Below.drew ?_) | (with_reducible refine below_drewN ?_ _) | (with_reducible refine Below.setCell ?_ ?_ _) | go_size)) hbw3
    clear hbw3 B K0 K1 K2 K0_0 K0_1 K0_2 K0_3 K0_f K0_z K1_0 K1_1 K1_2 K1_3 K1_f K1_z K2_0 K2_1 K2_2 K2_3 K2_f K2_z
    have B := B'; clear B'
    have K0 := K0'; clear K0'
    obtain ⟨K0_0, K0_1, K0_2, K0_3, K0_f, K0_z⟩ := cells4 K0.out
    have K1 := K1'; clear K1'
    obtain ⟨K1_0, K1_1, K1_2, K1_3, K1_f, K1_z⟩ := cells4 K1.out
    have K2 := K2'; clear K2'
    obtain ⟨K2_0, K2_1, K2_2, K2_3, K2_f, K2_z⟩ := cells4 K2.out
    rw [EX.out]
    go_wp2_with fail
    refine (add2_any a b HA.out HB.out _ _ _ (heap_new _ _)).mono ?_
    rintro e w6 ⟨rfl, hbw6⟩
    have K0' := Lib.hid (below_keep hbw6 (by first | exact K0.out | exact keep_alloc _ (K0.out) | exact keep_alloc _ (keep_alloc _ (K0.out)) | exact keep_alloc _ (keep_alloc _ (keep_alloc _ (K0.out))) | exact keep_alloc _ (keep_alloc _ (keep_alloc _ (keep_alloc _ (K0.out)))) | exact keep_alloc _ (keep_alloc _ (keep_alloc _ (keep_alloc _ (keep_alloc _ (K0.out)))))))
    have K1' := Lib.hid (below_keep hbw6 (by first | exact K1.out | exact keep_alloc _ (K1.out) | exact keep_alloc _ (keep_alloc _ (K1.out)) | exact keep_alloc _ (keep_alloc _ (keep_alloc _ (K1.out))) | exact keep_alloc _ (keep_alloc _ (keep_alloc _ (keep_alloc _ (K1.out)))) | exact keep_alloc _ (keep_alloc _ (keep_alloc _ (keep_alloc _ (keep_alloc _ (K1.out)))))))
    have K2' := Lib.hid (below_keep hbw6 (by first | exact K2.out | exact keep_alloc _ (K2.out) | exact keep_alloc _ (keep_alloc _ (K2.out)) | exact keep_alloc _ (keep_alloc _ (keep_alloc _ (K2.out))) | exact keep_alloc _ (keep_alloc _ (keep_alloc _ (keep_alloc _ (K2.out)))) | exact keep_alloc _ (keep_alloc _ (keep_alloc _ (keep_alloc _ (keep_alloc _ (K2.out)))))))
    have B' := below_next (w := w) (by repeat' (first | (with_reducible exact Below.refl _ _) | (with_reducible assumption) | (with_reducible refine below_alloc ?_ _) | (with_reducible refine Below.drew ?_) | (with_reducible refine below_drewN ?_ _) | (with_reducible refine Below.setCell ?_ ?_ _) | go_size)) hbw6
    clear hbw6 B K0 K1 K2 K0_0 K0_1 K0_2 K0_3 K0_f K0_z K1_0 K1_1 K1_2 K1_3 K1_f K1_z K2_0 K2_1 K2_2 K2_3 K2_f K2_z
    have B := B'; clear B'
    have K0 := K0'; clear K0'
    obtain ⟨K0_0, K0_1, K0_2, K0_3, K0_f, K0_z⟩ := cells4 K0.out
    have K1 := K1'; clear K1'
    obtain ⟨K1_0, K1_1, K1_2, K1_3, K1_f, K1_z⟩ := cells4 K1.out
    have K2 := K2'; clear K2'
    obtain ⟨K2_0, K2_1, K2_2, K2_3, K2_f, K2_z⟩ := cells4 K2.out
    have K3 := Lib.hid (heap_new w6 (nblk ((a + b) % 2 ^ 256)))
    have HS := Lib.hid (Nat.mod_lt (a + b) (show 0 < 2 ^ 256 by omega))
    by_cases hov : 2 ^ 256 ≤ a + b
    · have c1 : cmpn ((a + b) % 2 ^ 256) a < 0 := by have := HA.out; have := HB.out; unfold cmpn; rw [if_pos (by omega)]; omega
      have c2 : cmpn ((a + b) % 2 ^ 256) b < 0 := by have := HA.out; have := HB.out; unfold cmpn; rw [if_pos (by omega)]; omega
      rw [decide_eq_true hov]
      generalize (a + b) % 2 ^ 256 = S at *
      clear hov
      go_wp2_with fail
      refine (cmp_any S a HS.out HA.out _).mono ?_
      rintro e w7 ⟨rfl, hbw7⟩
      have K0' := Lib.hid (below_keep hbw7 (by first | exact K0.out | exact keep_alloc _ (K0.out) | exact keep_alloc _ (keep_alloc _ (K0.out)) | exact keep_alloc _ (keep_alloc _ (keep_alloc _ (K0.out))) | exact keep_alloc _ (keep_alloc _ (keep_alloc _ (keep_alloc _ (K0.out)))) | exact keep_alloc _ (keep_alloc _ (keep_alloc _ (keep_alloc _ (keep_alloc _ (K0.out)))))))
      have K1' := Lib.hid (below_keep hbw7 (by first | exact K1.out | exact keep_alloc _ (K1.out) | exact keep_alloc _ (keep_alloc _ (K1.out)) | exact keep_alloc _ (keep_alloc _ (keep_alloc _ (K1.out))) | exact keep_alloc _ (keep_alloc _ (keep_alloc _ (keep_alloc _ (K1.out)))) | exact keep_alloc _ (keep_alloc _ (keep_alloc _ (keep_alloc _ (keep_alloc _ (K1.out)))))))
      have K2' := Lib.hid (below_keep hbw7 (by first | exact K2.out | exact keep_alloc _ (K2.out) | exact keep_alloc _ (keep_alloc _ (K2.out)) | exact keep_alloc _ (keep_alloc _ (keep_alloc _ (K2.out))) | exact keep_alloc _ (keep_alloc _ (keep_alloc _ (keep_alloc _ (K2.out)))) | exact keep_alloc _ (keep_alloc _ (keep_alloc _ (keep_alloc _ (keep_alloc _ (K2.out)))))))
      have K3' := Lib.hid (below_keep hbw7 (by first | exact K3.out | exact keep_alloc _ (K3.out) | exact keep_alloc _ (keep_alloc _ (K3.out)) | exact keep_alloc _ (keep_alloc _ (keep_alloc _ (K3.out))) | exact keep_alloc _ (keep_alloc _ (keep_alloc _ (keep_alloc _ (K3.out)))) | exact keep_alloc _ (keep_alloc _ (keep_alloc _ (keep_alloc _ (keep_alloc _ (K3.out)))))))
      have B' := below_next (w := w) (by repeat' (first | (with_reducible exact Below.refl _ _) | (with_reducible assumption) | (with_reducible refine below_alloc ?_ _) | (with_reducible refine Below.drew ?_) | (with_reducible refine below_drewN ?_ _) | (with_reducible refine Below.setCell ?_ ?_ _) | go_size)) hbw7
      clear hbw7 B K0 K1 K2 K3 K0_0 K0_1 K0_2 K0_3 K0_f K0_z K1_0 K1_1 K1_2 K1_3 K1_f K1_z K2_0 K2_1 K2_2 K2_3 K2_f K2_z
      have B := B'; clear B'
      have K0 := K0'; clear K0'
      obtain ⟨K0_0, K0_1, K0_2, K0_3, K0_f, K0_z⟩ := cells4 K0.out
      have K1 := K1'; clear K1'
      obtain ⟨K1_0, K1_1, K1_2, K1_3, K1_f, K1_z⟩ := cells4 K1.out
      have K2 := K2'; clear K2'
      obtain ⟨K2_0, K2_1, K2_2, K2_3, K2_f, K2_z⟩ := cells4 K2.out
      have K3 := K3'; clear K3'
      obtain ⟨K3_0, K3_1, K3_2, K3_3, K3_f, K3_z⟩ := cells4 K3.out
      go_wp2_with fail
      refine (cmp_any S b HS.out HB.out _).mono ?_
      rintro e w8 ⟨rfl, hbw8⟩
      have K0' := Lib.hid (below_keep hbw8 (by first | exact K0.out | exact keep_alloc _ (K0.out) | exact keep_alloc _ (keep_alloc _ (K0.out)) | exact keep_alloc _ (keep_alloc _ (keep_alloc _ (K0.out))) | exact keep_alloc _ (keep_alloc _ (keep_alloc _ (keep_alloc _ (K0.out)))) | exact keep_alloc _ (keep_alloc _ (keep_alloc _ (keep_alloc _ (keep_alloc _ (K0.out)))))))
      have K1' := Lib.hid (below_keep hbw8 (by first | exact K1.out | exact keep_alloc _ (K1.out) | exact keep_alloc _ (keep_alloc _ (K1.out)) | exact keep_alloc _ (keep_alloc _ (keep_alloc _ (K1.out))) | exact keep_alloc _ (keep_alloc _ (keep_alloc _ (keep_alloc _ (K1.out)))) | exact keep_alloc _ (keep_alloc _ (keep_alloc _ (keep_alloc _ (keep_alloc _ (K1.out)))))))
      have K2' := Lib.hid (below_keep hbw8 (by first | exact K2.out | exact keep_alloc _ (K2.out) | exact keep_alloc _ (keep_alloc _ (K2.out)) | exact keep_alloc _ (keep_alloc _ (keep_alloc _ (K2.out))) | exact keep_alloc _ (keep_alloc _ (keep_alloc _ (keep_alloc _ (K2.out)))) | exact keep_alloc _ (keep_alloc _ (keep_alloc _ (keep_alloc _ (keep_alloc _ (K2.out)))))))
      have K3' := Lib.hid (below_keep hbw8 (by first | exact K3.out | exact keep_alloc _ (K3.out) | exact keep_alloc _ (keep_alloc _ (K3.out)) | exact keep_alloc _ (keep_alloc _ (keep_alloc _ (K3.out))) | exact keep_alloc _ (keep_alloc _ (keep_alloc _ (keep_alloc _ (K3.out)))) | exact keep_alloc _ (keep_alloc _ (keep_alloc _ (keep_alloc _ (keep_alloc _ (K3.out)))))))
      have B' := below_next (w := w) (by repeat' (first | (with_reducible exact Below.refl _ _) | (with_reducible assumption) | (with_reducible refine below_alloc ?_ _) | (with_reducible refine Below.drew ?_) | (with_reducible refine below_drewN ?_ _) | (with_reducible refine Below.setCell ?_ ?_ _) | go_size)) hbw8
      clear hbw8 B K0 K1 K2 K3 K0_0 K0_1 K0_2 K0_3 K0_f K0_z K1_0 K1_1 K1_2 K1_3 K1_f K1_z K2_0 K2_1 K2_2 K2_3 K2_f K2_z K3_0 K3_1 K3_2 K3_3 K3_f K3_z
      have B := B'; clear B'
      have K0 := K0'; clear K0'
      obtain ⟨K0_0, K0_1, K0_2, K0_3, K0_f, K0_z⟩ := cells4 K0.out
      have K1 := K1'; clear K1'
      obtain ⟨K1_0, K1_1, K1_2, K1_3, K1_f, K1_z⟩ := cells4 K1.out
      have K2 := K2'; clear K2'
      obtain ⟨K2_0, K2_1, K2_2, K2_3, K2_f, K2_z⟩ := cells4 K2.out
      have K3 := K3'; clear K3'
      obtain ⟨K3_0, K3_1, K3_2, K3_3, K3_f, K3_z⟩ := cells4 K3.out
      go_wp2_with fail
      go_ret
      exact ⟨rfl, (by repeat' (first | (with_reducible exact Below.refl _ _) | (with_reducible assumption) | (with_reducible refine below_alloc ?_ _) | (with_reducible refine Below.drew ?_) | (with_reducible refine below_drewN ?_ _) | (with_reducible refine Below.setCell ?_ ?_ _) | go_size))⟩
    · have c1 : 0 ≤ cmpn ((a + b) % 2 ^ 256) a := by rw [Nat.mod_eq_of_lt (by omega)]; unfold cmpn; rw [if_neg (by omega)]; split <;> omega
      have c2 : 0 ≤ cmpn ((a + b) % 2 ^ 256) b := by rw [Nat.mod_eq_of_lt (by omega)]; unfold cmpn; rw [if_neg (by omega)]; split <;> omega
      rw [decide_eq_false hov]
      generalize (a + b) % 2 ^ 256 = S at *
      clear hov
      go_wp2_with fail
      refine (cmp_any S a HS.out HA.out _).mono ?_
      rintro e w7 ⟨rfl, hbw7⟩
      have K0' := Lib.hid (below_keep hbw7 (by first | exact K0.out | exact keep_alloc _ (K0.out) | exact keep_alloc _ (keep_alloc _ (K0.out)) | exact keep_alloc _ (keep_alloc _ (keep_alloc _ (K0.out))) | exact keep_alloc _ (keep_alloc _ (keep_alloc _ (keep_alloc _ (K0.out)))) | exact keep_alloc _ (keep_alloc _ (keep_alloc _ (keep_alloc _ (keep_alloc _ (K0.out)))))))
      have K1' := Lib.hid (below_keep hbw7 (by first | exact K1.out | exact keep_alloc _ (K1.out) | exact keep_alloc _ (keep_alloc _ (K1.out)) | exact keep_alloc _ (keep_alloc _ (keep_alloc _ (K1.out))) | exact keep_alloc _ (keep_alloc _ (keep_alloc _ (keep_alloc _ (K1.out)))) | exact keep_alloc _ (keep_alloc _ (keep_alloc _ (keep_alloc _ (keep_alloc _ (K1.out)))))))
      have K2' := Lib.hid (below_keep hbw7 (by first | exact K2.out | exact keep_alloc _ (K2.out) | exact keep_alloc _ (keep_alloc _ (K2.out)) | exact keep_alloc _ (keep_alloc _ (keep_alloc _ (K2.out))) | exact keep_alloc _ (keep_alloc _ (keep_alloc _ (keep_alloc _ (K2.out)))) | exact keep_alloc _ (keep_alloc _ (keep_alloc _ (keep_alloc _ (keep_alloc _ (K2.out)))))))
      have K3' := Lib.hid (below_keep hbw7 (by first | exact K3.out | exact keep_alloc _ (K3.out) | exact keep_alloc _ (keep_alloc _ (K3.out)) | exact keep_alloc _ (keep_alloc _ (keep_alloc _ (K3.out))) | exact keep_alloc _ (keep_alloc _ (keep_alloc _ (keep_alloc _ (K3.out)))) | exact keep_alloc _ (keep_alloc _ (keep_alloc _ (keep_alloc _ (keep_alloc _ (K3.out)))))))
      have B' := below_next (w := w) (by repeat' (first | (with_reducible exact Below.refl _ _) | (with_reducible assumption) | (with_reducible refine below_alloc ?_ _) | (with_reducible refine Below.drew ?_) | (with_reducible refine below_drewN ?_ _) | (with_reducible refine Below.setCell ?_ ?_ _) | go_size)) hbw7
      clear hbw7 B K0 K1 K2 K3 K0_0 K0_1 K0_2 K0_3 K0_f K0_z K1_0 K1_1 K1_2 K1_3 K1_f K1_z K2_0 K2_1 K2_2 K2_3 K2_f K2_z
      have B := B'; clear B'
      have K0 := K0'; clear K0'
      obtain ⟨K0_0, K0_1, K0_2, K0_3, K0_f, K0_z⟩ := cells4 K0.out
      have K1 := K1'; clear K1'
      obtain ⟨K1_0, K1_1, K1_2, K1_3, K1_f, K1_z⟩ := cells4 K1.out
      have K2 := K2'; clear K2'
      obtain ⟨K2_0, K2_1, K2_2, K2_3, K2_f, K2_z⟩ := cells4 K2.out
      have K3 := K3'; clear K3'
      obtain ⟨K3_0, K3_1, K3_2, K3_3, K3_f, K3_z⟩ := cells4 K3.out
      go_wp2_with fail
      refine (cmp_any S b HS.out HB.out _).mono ?_
      rintro e w8 ⟨rfl, hbw8⟩
      have K0' := Lib.hid (below_keep hbw8 (by first | exact K0.out | exact keep_alloc _ (K0.out) | exact keep_alloc _ (keep_alloc _ (K0.out)) | exact keep_alloc _ (keep_alloc _ (keep_alloc _ (K0.out))) | exact keep_alloc _ (keep_alloc _ (keep_alloc _ (keep_alloc _ (K0.out)))) | exact keep_alloc _ (keep_alloc _ (keep_alloc _ (keep_alloc _ (keep_alloc _ (K0.out)))))))
      have K1' := Lib.hid (below_keep hbw8 (by first | exact K1.out | exact keep_alloc _ (K1.out) | exact keep_alloc _ (keep_alloc _ (K1.out)) | exact keep_alloc _ (keep_alloc _ (keep_alloc _ (K1.out))) | exact keep_alloc _ (keep_alloc _ (keep_alloc _ (keep_alloc _ (K1.out)))) | exact keep_alloc _ (keep_alloc _ (keep_alloc _ (keep_alloc _ (keep_alloc _ (K1.out)))))))
      have K2' := Lib.hid (below_keep hbw8 (by first | exact K2.out | exact keep_alloc _ (K2.out) | exact keep_alloc _ (keep_alloc _ (K2.out)) | exact keep_alloc _ (keep_alloc _ (keep_alloc _ (K2.out))) | exact keep_alloc _ (keep_alloc _ (keep_alloc _ (keep_alloc _ (K2.out)))) | exact keep_alloc _ (keep_alloc _ (keep_alloc _ (keep_alloc _ (keep_alloc _ (K2.out)))))))
      have K3' := Lib.hid (below_keep hbw8 (by first | exact K3.out | exact keep_alloc _ (K3.out) | exact keep_alloc _ (keep_alloc _ (K3.out)) | exact keep_alloc _ (keep_alloc _ (keep_alloc _ (K3.out))) | exact keep_alloc _ (keep_alloc _ (keep_alloc _ (keep_alloc _ (K3.out)))) | exact keep_alloc _ (keep_alloc _ (keep_alloc _ (keep_alloc _ (keep_alloc _ (K3.out)))))))
      have B' := below_next (w := w) (by repeat' (first | (with_reducible exact Below.refl _ _) | (with_reducible assumption) | (with_reducible refine below_alloc ?_ _) | (with_reducible refine Below.drew ?_) | (with_reducible refine below_drewN ?_ _) | (with_reducible refine Below.setCell ?_ ?_ _) | go_size)) hbw8
      clear hbw8 B K0 K1 K2 K3 K0_0 K0_1 K0_2 K0_3 K0_f K0_z K1_0 K1_1 K1_2 K1_3 K1_f K1_z K2_0 K2_1 K2_2 K2_3 K2_f K2_z K3_0 K3_1 K3_2 K3_3 K3_f K3_z
      have B := B'; clear B'
      have K0 := K0'; clear K0'
      obtain ⟨K0_0, K0_1, K0_2, K0_3, K0_f, K0_z⟩ := cells4 K0.out
      have K1 := K1'; clear K1'
      obtain ⟨K1_0, K1_1, K1_2, K1_3, K1_f, K1_z⟩ := cells4 K1.out
      have K2 := K2'; clear K2'
      obtain ⟨K2_0, K2_1, K2_2, K2_3, K2_f, K2_z⟩ := cells4 K2.out
      have K3 := K3'; clear K3'
      obtain ⟨K3_0, K3_1, K3_2, K3_3, K3_f, K3_z⟩ := cells4 K3.out
      go_wp2_with fail
      go_ret
      exact ⟨rfl, (by repeat' (first | (with_reducible exact Below.refl _ _) | (with_reducible assumption) | (with_reducible refine below_alloc ?_ _) | (with_reducible refine Below.drew ?_) | (with_reducible refine below_drewN ?_ _) | (with_reducible refine Below.setCell ?_ ?_ _) | go_size))⟩

set_option maxRecDepth 100000 in
theorem NumOrder_lifted (os : Os) (started : os.Started) (H : Type) (enc : TypeId × Value → H) :
    ReturnsInHanded {} Try.checked os 5 .any (Rows.numOrderSpec.pre6 enc Try.prog Try.f5 Rows.numOrderRow.domain false) (Rows.numOrderSpec.post enc Try.prog Try.f5 false true false false) := by
  refine returnsInHanded_of_change (C := Try.checked) own started (by kernel_rfl) Try.func5
    (ChangeSpec.witness6 (enc := enc) (C := Try.checked) false ⟨#[], #[.agg #[.int .u64 0, .int .u64 0, .int .u64 0, .int .u64 0], .agg #[.int .u64 0, .int .u64 0, .int .u64 0, .int .u64 0], .agg #[.int .u64 0, .int .u64 0, .int .u64 0, .int .u64 0]], []⟩ 8 (by kernel_rfl) (by kernel_rfl) (by kernel_rfl) (by kernel_rfl)) ?_
  intro W base args ds gs before hval0 hW hcnd _
  have hval : ∀ (j : Nat) t v, Try.f5.params[j]? = some t → args[j]? = some v → Value.okWide Try.prog W .any base t v := hval0
  have hW' := hW
  obtain ⟨p, q, hA0, hV, rfl, hfz, hnd⟩ := hW
  have hA : DataW.TrodAll enc Try.prog W 0 (fun _ => true) true Try.f5.params.toList args.toList ds p := hA0
  rw [Try.params5] at hA hval
  obtain ⟨v0, vs0, d0, ds0, p0, q0, hargs, rfl, rfl, h0, r0⟩ := trodAll_cons hA
  obtain ⟨v1, vs1, d1, ds1, p1, q1, rfl, rfl, rfl, h1, r1⟩ := trodAll_cons r0
  obtain ⟨v2, vs2, d2, ds2, p2, q2, rfl, rfl, rfl, h2, r2⟩ := trodAll_cons r1
  obtain ⟨rfl, rfl, rfl⟩ := trodAll_nil r2
  obtain rfl : args = #[v0, v1, v2] := by cases args; simp_all
  obtain ⟨rfl, rfl⟩ := trodVars_none hV
  have k0 := h0
  have lt0 := trod_lt_of h0
  obtain ⟨a0, b0, rfl⟩ := open_num (hval 0 24 v0 rfl rfl) h0
  have k1 := h1
  have lt1 := trod_lt_of h1
  obtain ⟨a1, b1, rfl⟩ := open_num (hval 1 24 v1 rfl rfl) h1
  have k2 := h2
  have lt2 := trod_lt_of h2
  obtain ⟨a2, b2, rfl⟩ := open_num (hval 2 24 v2 rfl rfl) h2
  clear hA0 hval0
  refine (NumOrder_walk a0 b0 a1 b1 a2 b2 W).mono fun e W' ⟨he, bel⟩ => ?_
  subst he
  exact ⟨_, rfl, _, _, _, [], _, [], hW', trodAll_mk1 (shut_bool (by kernel_rfl) _), (trodAll_cons_mk (Below.trod laidOut (by kernel_rfl) (of_decide_eq_true (by kernel_rfl)) k0 bel lt0) (trodAll_cons_mk (Below.trod laidOut (by kernel_rfl) (of_decide_eq_true (by kernel_rfl)) k1 bel lt1) (trodAll_cons_mk (Below.trod laidOut (by kernel_rfl) (of_decide_eq_true (by kernel_rfl)) k2 bel lt2) trodAll_mk0))), rfl, bel.frame _, fun h => by cases h⟩

theorem NumOrder_closed : joinedFacts Try.prog 5 Try.f5 Rows.numOrderSpec Rows.numOrderRow = true := by
  simp only [joinedFacts, Bool.and_eq_true]
  repeat' apply And.intro
  all_goals first
    | (with_reducible exact head_enter)
    | (rw [head_make]; kernel_rfl)
    | (rw [head_lift]; kernel_rfl)
    | kernel_rfl

theorem NumOrder_holds : Rows.NumOrderSaid :=
  OpenClaim.holds_of_wide 5 Try.f5 rfl rfl rfl rfl rfl rfl rfl ⟨rfl, rfl, rfl, rfl, rfl⟩ rfl rfl rfl rfl rfl (by kernel_rfl) Try.func5 NumOrder_closed
    (of_decide_eq_true (by kernel_rfl)) (by unfold Func.isWrapper; rw [if_neg (of_decide_eq_false (by kernel_rfl))]; exact ⟨rfl, rfl⟩)
    (fun os started H enc _ => NumOrder_lifted os started H enc)
end Go.Proofs.Ytdffblfofdniaaa
