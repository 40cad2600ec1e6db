/- The law BitsWork: a smaller target means no less work. No condition. -/
import Derived.Test.YtdffblfofdniaaaBtMeans
import Derived.Test.YtdffblfofdniaaaNumOpen
import Derived.Test.YtdffblfofdniaaaHead
namespace Go.Proofs.Ytdffblfofdniaaa
open Go.ChangeShapes Go.WideShapes Go.ChangeAt Go.RowKit

theorem wrk_zero : wrk 0 = 0 := by decide
theorem wrk_div (t : Nat) (h1 : 1 ≤ t) (h2 : t < 2 ^ 256) : wrk t = 2 ^ 256 / (t + 1) := by
  have e := Nat.div_eq_sub_div (a := 2 ^ 256) (b := t + 1) (by omega) (by omega)
  have h3 : 2 ^ 256 / (t + 1) ≤ 2 ^ 256 / 2 := Nat.div_le_div_left (by omega) (by omega)
  unfold wrk
  split
  · have : t + 1 = 2 ^ 256 := by omega
    rw [this, Nat.div_self (by omega)]
  · rw [show 2 ^ 256 - 1 - t = 2 ^ 256 - (t + 1) by omega, ← e, Nat.mod_eq_of_lt (by omega)]
theorem wrk_pos (t : Nat) (h1 : 1 ≤ t) (h2 : t < 2 ^ 256) : wrk t ≠ 0 := by
  rw [wrk_div t h1 h2]
  have := Nat.div_pos (show t + 1 ≤ 2 ^ 256 by omega) (by omega)
  omega
theorem wrk_anti (x y : Nat) (h1 : 1 ≤ x) (h : x ≤ y) (h2 : y < 2 ^ 256) : wrk y ≤ wrk x := by
  rw [wrk_div x h1 (by omega), wrk_div y (by omega) h2]
  exact Nat.div_le_div_left (by omega) (by omega)
theorem wrk_lt (t : Nat) : wrk t < 2 ^ 256 := by
  unfold wrk
  split
  · decide
  · exact Nat.mod_lt _ (by omega)

set_option maxRecDepth 100000 in
set_option maxHeartbeats 40000000 in
theorem BitsWork_walk (a : Nat) (ha : a < 2 ^ 256) (b : Nat) (hb : b < 2 ^ 256) (w : World) :
    Calls Try.prog 13 #[nv a, nv b] w fun e w' => e = .returned (.bool true) ∧ Below w.heap.size w w' := by
  have HA := Lib.hid ha; have HB := Lib.hid hb
  clear ha hb
  have B : Below w.heap.size w w := Below.refl _ _
  have A := alloc2 w (nblk a) (nblk b)
  have K0 := Lib.hid A.1; have K1 := Lib.hid A.2
  clear A
  go_enter Try.func13, Try.ntmps13
  go_wp2_with fail
  refine (means_any _).mono ?_
  rintro e w1 ⟨rfl, hbw1⟩
  have K0' := Lib.hid (below_keep hbw1 (by first | exact K0.out | exact keep_alloc _ (K0.out) | exact keep_alloc _ (keep_alloc _ (K0.out)) | exact keep_alloc _ (keep_alloc _ (keep_alloc _ (K0.out))) | exact keep_alloc _ (keep_alloc _ (keep_alloc _ (keep_alloc _ (K0.out)))) | exact keep_alloc _ (keep_alloc _ (keep_alloc _ (keep_alloc _ (keep_alloc _ (K0.out)))))))
  have K1' := Lib.hid (below_keep hbw1 (by first | exact K1.out | exact keep_alloc _ (K1.out) | exact keep_alloc _ (keep_alloc _ (K1.out)) | exact keep_alloc _ (keep_alloc _ (keep_alloc _ (K1.out))) | exact keep_alloc _ (keep_alloc _ (keep_alloc _ (keep_alloc _ (K1.out)))) | exact keep_alloc _ (keep_alloc _ (keep_alloc _ (keep_alloc _ (keep_alloc _ (K1.out)))))))
  have B' := below_next (w := w) (by repeat' (first | (with_reducible exact Below.refl _ _) | (with_reducible assumption) | (with_reducible refine below_alloc ?_ _) | (with_reducible refine Below.drew ?_) | (with_reducible refine below_drewN ?_ _) | (with_reducible refine Below.setCell ?_ ?_ _) | go_size)) hbw1
  clear hbw1 B K0 K1
  have B := B'; clear B'
  have K0 := K0'; clear K0'
  obtain ⟨K0_0, K0_1, K0_2, K0_3, K0_f, K0_z⟩ := cells4 K0.out
  have K1 := K1'; clear K1'
  obtain ⟨K1_0, K1_1, K1_2, K1_3, K1_f, K1_z⟩ := cells4 K1.out
  go_wp2_with fail
  refine (cmp_any a b HA.out HB.out _).mono ?_
  rintro e w2 ⟨rfl, hbw2⟩
  have K0' := Lib.hid (below_keep hbw2 (by first | exact K0.out | exact keep_alloc _ (K0.out) | exact keep_alloc _ (keep_alloc _ (K0.out)) | exact keep_alloc _ (keep_alloc _ (keep_alloc _ (K0.out))) | exact keep_alloc _ (keep_alloc _ (keep_alloc _ (keep_alloc _ (K0.out)))) | exact keep_alloc _ (keep_alloc _ (keep_alloc _ (keep_alloc _ (keep_alloc _ (K0.out)))))))
  have K1' := Lib.hid (below_keep hbw2 (by first | exact K1.out | exact keep_alloc _ (K1.out) | exact keep_alloc _ (keep_alloc _ (K1.out)) | exact keep_alloc _ (keep_alloc _ (keep_alloc _ (K1.out))) | exact keep_alloc _ (keep_alloc _ (keep_alloc _ (keep_alloc _ (K1.out)))) | exact keep_alloc _ (keep_alloc _ (keep_alloc _ (keep_alloc _ (keep_alloc _ (K1.out)))))))
  have B' := below_next (w := w) (by repeat' (first | (with_reducible exact Below.refl _ _) | (with_reducible assumption) | (with_reducible refine below_alloc ?_ _) | (with_reducible refine Below.drew ?_) | (with_reducible refine below_drewN ?_ _) | (with_reducible refine Below.setCell ?_ ?_ _) | go_size)) hbw2
  clear hbw2 B K0 K1 K0_0 K0_1 K0_2 K0_3 K0_f K0_z K1_0 K1_1 K1_2 K1_3 K1_f K1_z
  have B := B'; clear B'
  have K0 := K0'; clear K0'
  obtain ⟨K0_0, K0_1, K0_2, K0_3, K0_f, K0_z⟩ := cells4 K0.out
  have K1 := K1'; clear K1'
  obtain ⟨K1_0, K1_1, K1_2, K1_3, K1_f, K1_z⟩ := cells4 K1.out
  go_upto_if 17 with fail
  go_cut [] (fun wc => ∃ x y, x < 2 ^ 256 ∧ y < 2 ^ 256 ∧ x ≤ y ∧ wc.heap[w.heap.size]? = some (nblk x) ∧ wc.heap[w.heap.size + 1]? = some (nblk y) ∧ Below w.heap.size w wc)
  case first =>
    go_wp2_with fail
    all_goals
      go_meet
      case rel =>
        first
          | (have hlt := cmpn_pos.1 (show 0 < cmpn a b by assumption)
             refine ⟨b, a, HB.out, HA.out, by omega, ?_, ?_, (by repeat' (first | (with_reducible exact Below.refl _ _) | (with_reducible assumption) | (with_reducible refine below_alloc ?_ _) | (with_reducible refine Below.drew ?_) | (with_reducible refine below_drewN ?_ _) | (with_reducible refine Below.setCell ?_ ?_ _) | go_size))⟩
             · with_reducible exact (set4_other _ _ _ _ (show w.heap.size ≠ w.heap.size + 1 by omega)).trans (set4 _ _ _ _ K0.out)
             · with_reducible exact set4 _ _ _ _ ((set4_other _ _ _ _ (show w.heap.size + 1 ≠ w.heap.size by omega)).trans K1.out))
          | (have hle : a ≤ b := by first | exact cmpn_le.1 (show cmpn a b ≤ 0 by assumption) | exact cmpn_le.1 (by have h : ¬ 0 < cmpn a b := (by assumption); omega)
             with_reducible exact ⟨a, b, HA.out, HB.out, hle, K0.out, K1.out, B⟩)
  case rest =>
  obtain ⟨x, y, hx, hy, hxy, k0, k1, B'⟩ := hcut
  obtain ⟨W, hW⟩ : ∃ W, W = wc := ⟨_, rfl⟩
  subst hW
  clear K0 K1 B K0_0 K0_1 K0_2 K0_3 K0_f K0_z K1_0 K1_1 K1_2 K1_3 K1_f K1_z
  have K0 := Lib.hid k0; have K1 := Lib.hid k1; have B := B'
  have HX := Lib.hid hx; have HY := Lib.hid hy; have HXY := Lib.hid hxy
  clear k0 k1 B' hx hy hxy
  obtain ⟨K0_0, K0_1, K0_2, K0_3, K0_f, K0_z⟩ := cells4 K0.out
  obtain ⟨K1_0, K1_1, K1_2, K1_3, K1_f, K1_z⟩ := cells4 K1.out
  go_wp2_with fail
  refine (zero_any x HX.out _).mono ?_
  rintro e w3 ⟨rfl, hbw3⟩
  have K0' := Lib.hid (below_keep hbw3 (by first | exact K0.out | exact keep_alloc _ (K0.out) | exact keep_alloc _ (keep_alloc _ (K0.out)) | exact keep_alloc _ (keep_alloc _ (keep_alloc _ (K0.out))) | exact keep_alloc _ (keep_alloc _ (keep_alloc _ (keep_alloc _ (K0.out)))) | exact keep_alloc _ (keep_alloc _ (keep_alloc _ (keep_alloc _ (keep_alloc _ (K0.out)))))))
  have K1' := Lib.hid (below_keep hbw3 (by first | exact K1.out | exact keep_alloc _ (K1.out) | exact keep_alloc _ (keep_alloc _ (K1.out)) | exact keep_alloc _ (keep_alloc _ (keep_alloc _ (K1.out))) | exact keep_alloc _ (keep_alloc _ (keep_alloc _ (keep_alloc _ (K1.out)))) | exact keep_alloc _ (keep_alloc _ (keep_alloc _ (keep_alloc _ (keep_alloc _ (K1.out)))))))
  have B' := below_next (w := w) (by repeat' (first | (with_reducible exact Below.refl _ _) | (with_reducible assumption) | (with_reducible refine below_alloc ?_ _) | (with_reducible refine Below.drew ?_) | (with_reducible refine below_drewN ?_ _) | (with_reducible refine Below.setCell ?_ ?_ _) | go_size)) hbw3
  clear hbw3 B K0 K1 K0_0 K0_1 K0_2 K0_3 K0_f K0_z K1_0 K1_1 K1_2 K1_3 K1_f K1_z
  have B := B'; clear B'
  have K0 := K0'; clear K0'
  obtain ⟨K0_0, K0_1, K0_2, K0_3, K0_f, K0_z⟩ := cells4 K0.out
  have K1 := K1'; clear K1'
  obtain ⟨K1_0, K1_1, K1_2, K1_3, K1_f, K1_z⟩ := cells4 K1.out
  by_cases hx0 : x = 0
  · rw [decide_eq_true hx0]
    have hw0 : wrk x = 0 := by rw [hx0, wrk_zero]
    clear hx0
    have cw := Lib.hid fun w => work_any x HX.out w
    rw [hw0] at cw
    clear hw0
    go_wp2_with fail
    refine (cw.out _).mono ?_
    rintro e w4 ⟨rfl, hbw4⟩
    have K0' := Lib.hid (below_keep hbw4 (by first | exact K0.out | exact keep_alloc _ (K0.out) | exact keep_alloc _ (keep_alloc _ (K0.out)) | exact keep_alloc _ (keep_alloc _ (keep_alloc _ (K0.out))) | exact keep_alloc _ (keep_alloc _ (keep_alloc _ (keep_alloc _ (K0.out)))) | exact keep_alloc _ (keep_alloc _ (keep_alloc _ (keep_alloc _ (keep_alloc _ (K0.out)))))))
    have K1' := Lib.hid (below_keep hbw4 (by first | exact K1.out | exact keep_alloc _ (K1.out) | exact keep_alloc _ (keep_alloc _ (K1.out)) | exact keep_alloc _ (keep_alloc _ (keep_alloc _ (K1.out))) | exact keep_alloc _ (keep_alloc _ (keep_alloc _ (keep_alloc _ (K1.out)))) | exact keep_alloc _ (keep_alloc _ (keep_alloc _ (keep_alloc _ (keep_alloc _ (K1.out)))))))
    have B' := below_next (w := w) (by repeat' (first | (with_reducible exact Below.refl _ _) | (with_reducible assumption) | (with_reducible refine below_alloc ?_ _) | (with_reducible refine Below.drew ?_) | (with_reducible refine below_drewN ?_ _) | (with_reducible refine Below.setCell ?_ ?_ _) | go_size)) hbw4
    clear hbw4 B K0 K1 K0_0 K0_1 K0_2 K0_3 K0_f K0_z K1_0 K1_1 K1_2 K1_3 K1_f K1_z
    have B := B'; clear B'
    have K0 := K0'; clear K0'
    obtain ⟨K0_0, K0_1, K0_2, K0_3, K0_f, K0_z⟩ := cells4 K0.out
    have K1 := K1'; clear K1'
    obtain ⟨K1_0, K1_1, K1_2, K1_3, K1_f, K1_z⟩ := cells4 K1.out
    go_wp2_with fail
    refine (zero_any 0 (by omega) _).mono ?_
    rintro e w5 ⟨rfl, hbw5⟩
    have K0' := Lib.hid (below_keep hbw5 (by first | exact K0.out | exact keep_alloc _ (K0.out) | exact keep_alloc _ (keep_alloc _ (K0.out)) | exact keep_alloc _ (keep_alloc _ (keep_alloc _ (K0.out))) | exact keep_alloc _ (keep_alloc _ (keep_alloc _ (keep_alloc _ (K0.out)))) | exact keep_alloc _ (keep_alloc _ (keep_alloc _ (keep_alloc _ (keep_alloc _ (K0.out)))))))
    have K1' := Lib.hid (below_keep hbw5 (by first | exact K1.out | exact keep_alloc _ (K1.out) | exact keep_alloc _ (keep_alloc _ (K1.out)) | exact keep_alloc _ (keep_alloc _ (keep_alloc _ (K1.out))) | exact keep_alloc _ (keep_alloc _ (keep_alloc _ (keep_alloc _ (K1.out)))) | exact keep_alloc _ (keep_alloc _ (keep_alloc _ (keep_alloc _ (keep_alloc _ (K1.out)))))))
    have B' := below_next (w := w) (by repeat' (first | (with_reducible exact Below.refl _ _) | (with_reducible assumption) | (with_reducible refine below_alloc ?_ _) | (with_reducible refine Below.drew ?_) | (with_reducible refine below_drewN ?_ _) | (with_reducible refine Below.setCell ?_ ?_ _) | go_size)) hbw5
    clear hbw5 B K0 K1 K0_0 K0_1 K0_2 K0_3 K0_f K0_z K1_0 K1_1 K1_2 K1_3 K1_f K1_z
    have B := B'; clear B'
    have K0 := K0'; clear K0'
    obtain ⟨K0_0, K0_1, K0_2, K0_3, K0_f, K0_z⟩ := cells4 K0.out
    have K1 := K1'; clear K1'
    obtain ⟨K1_0, K1_1, K1_2, K1_3, K1_f, K1_z⟩ := cells4 K1.out
    go_wp2_with fail
    go_ret
    exact ⟨rfl, (by repeat' (first | (with_reducible exact Below.refl _ _) | (with_reducible assumption) | (with_reducible refine below_alloc ?_ _) | (with_reducible refine Below.drew ?_) | (with_reducible refine below_drewN ?_ _) | (with_reducible refine Below.setCell ?_ ?_ _) | go_size))⟩
  rw [decide_eq_false hx0]
  have cx := Lib.hid fun w => work_any x HX.out w
  have cy := Lib.hid fun w => work_any y HY.out w
  have hp1 := wrk_pos x (by omega) HX.out
  have hp2 := wrk_pos y (by have := HXY.out; omega) HY.out
  have han := wrk_anti x y (by omega) HXY.out HY.out
  have hl1 := wrk_lt x; have hl2 := wrk_lt y
  have hy1 : 2 ^ 256 ≤ y + 1 → wrk y = 1 := fun h => by unfold wrk; rw [if_pos h]
  generalize wrk x = p at *
  generalize wrk y = q at *
  have hcpq : ¬ cmpn p q < 0 := by have := cmpn_ge.2 han; omega
  have HP := Lib.hid hl1; have HQ := Lib.hid hl2; have HP0 := Lib.hid hp1; have HQ0 := Lib.hid hp2; have HY1 := Lib.hid hy1
  clear hx0 hp1 hp2 han hl1 hl2 hy1 K0_0 K0_1 K0_2 K0_3 K0_f K0_z K1_0 K1_1 K1_2 K1_3 K1_f K1_z HXY
  obtain ⟨K0_0, K0_1, K0_2, K0_3, K0_f, K0_z⟩ := cells4 K0.out
  obtain ⟨K1_0, K1_1, K1_2, K1_3, K1_f, K1_z⟩ := cells4 K1.out
  have L0 : ∀ w', Below w3.heap.size w3 w' → w'.cell? ⟨w.heap.size, 0, none⟩ = some (.int .u64 (lw x 0)) := fun w' h => (h.cell (p := ⟨_, 0, none⟩) K0_z).trans K0_0
  have L1 : ∀ w', Below w3.heap.size w3 w' → w'.cell? ⟨w.heap.size, 1, none⟩ = some (.int .u64 (lw x 1)) := fun w' h => (h.cell (p := ⟨_, 1, none⟩) K0_z).trans K0_1
  have L2 : ∀ w', Below w3.heap.size w3 w' → w'.cell? ⟨w.heap.size, 2, none⟩ = some (.int .u64 (lw x 2)) := fun w' h => (h.cell (p := ⟨_, 2, none⟩) K0_z).trans K0_2
  have L3 : ∀ w', Below w3.heap.size w3 w' → w'.cell? ⟨w.heap.size, 3, none⟩ = some (.int .u64 (lw x 3)) := fun w' h => (h.cell (p := ⟨_, 3, none⟩) K0_z).trans K0_3
  have M0 : ∀ w', Below w3.heap.size w3 w' → w'.cell? ⟨w.heap.size + 1, 0, none⟩ = some (.int .u64 (lw y 0)) := fun w' h => (h.cell (p := ⟨_, 0, none⟩) K1_z).trans K1_0
  have M1 : ∀ w', Below w3.heap.size w3 w' → w'.cell? ⟨w.heap.size + 1, 1, none⟩ = some (.int .u64 (lw y 1)) := fun w' h => (h.cell (p := ⟨_, 1, none⟩) K1_z).trans K1_1
  have M2 : ∀ w', Below w3.heap.size w3 w' → w'.cell? ⟨w.heap.size + 1, 2, none⟩ = some (.int .u64 (lw y 2)) := fun w' h => (h.cell (p := ⟨_, 2, none⟩) K1_z).trans K1_2
  have M3 : ∀ w', Below w3.heap.size w3 w' → w'.cell? ⟨w.heap.size + 1, 3, none⟩ = some (.int .u64 (lw y 3)) := fun w' h => (h.cell (p := ⟨_, 3, none⟩) K1_z).trans K1_3
  clear K0_0 K0_1 K0_2 K0_3 K0_f K1_0 K1_1 K1_2 K1_3 K1_f
  go_upto_region 7 with fail
  go_cut [5, 6] (fun s5 s6 wd => ∃ r s, s5 = .pointer (some ⟨r, 0, none⟩) ∧ s6 = .pointer (some ⟨s, 0, none⟩) ∧ wd.heap[r]? = some (nblk p) ∧ wd.heap[s]? = some (nblk q) ∧ Below w3.heap.size w3 wd)
  case first =>
    go_region_held3 (fun w' => Below w3.heap.size w3 w') (first | (with_reducible assumption) | exact (by repeat' (first | (with_reducible exact Below.refl _ _) | (with_reducible assumption) | (with_reducible refine below_alloc ?_ _) | (with_reducible refine Below.drew ?_) | (with_reducible refine below_drewN ?_ _) | (with_reducible refine Below.setCell ?_ ?_ _) | go_size))) (first | (go_at_call 47; (with_reducible refine (cx.out _).mono ?_); rintro e wx ⟨rfl, hbx⟩; have hSx := below_next (w := w3) (by repeat' (first | (with_reducible exact Below.refl _ _) | (with_reducible assumption) | (with_reducible refine below_alloc ?_ _) | (with_reducible refine Below.drew ?_) | (with_reducible refine below_drewN ?_ _) | (with_reducible refine Below.setCell ?_ ?_ _) | go_size)) hbx; have hzx := hSx.size; have hzq := hbx.size; (try simp only [World.size_drew] at hzq); (try simp only [World.size_alloc] at hzq); (try (have hX1 : wx.heap[w3.heap.size]? = some zblk := by exact below_keep hbx (heap_new w3.drew zblk))); (try (have hX1 : wx.heap[w3.heap.size]? = some zblk := by exact below_keep hbx (alloc2 w3.drew zblk zblk).1)); (try (have hX2 : wx.heap[w3.heap.size + 1]? = some zblk := by exact below_keep hbx (alloc2 w3.drew zblk zblk).2)); (try (have hXc := cells4 hX1; obtain ⟨X1_0, X1_1, X1_2, X1_3, X1_f, X1_z⟩ := hXc)); (try (have hXd := cells4 hX2; obtain ⟨X2_0, X2_1, X2_2, X2_3, X2_f, X2_z⟩ := hXd))) | (go_at_call 47; (with_reducible refine (cy.out _).mono ?_); rintro e wy ⟨rfl, hby⟩; have hSy := below_next (w := w3) (by repeat' (first | (with_reducible exact Below.refl _ _) | (with_reducible assumption) | (with_reducible refine below_alloc ?_ _) | (with_reducible refine Below.drew ?_) | (with_reducible refine below_drewN ?_ _) | (with_reducible refine Below.setCell ?_ ?_ _) | go_size)) hby; have hzy := hSy.size; have hzr := hby.size; (try simp only [World.size_alloc] at hzr); (try (have hY1 : wy.heap[wx.heap.size]? = some zblk := (by first | exact below_keep hby (heap_new wx zblk) | exact below_keep hby (alloc2 wx zblk zblk).1); obtain ⟨Y1_0, Y1_1, Y1_2, Y1_3, Y1_f, Y1_z⟩ := cells4 hY1)); (try (have hY2 : wy.heap[wx.heap.size + 1]? = some zblk := below_keep hby (alloc2 wx zblk zblk).2; obtain ⟨Y2_0, Y2_1, Y2_2, Y2_3, Y2_f, Y2_z⟩ := cells4 hY2)); (try (have hY3 : wy.heap[w3.heap.size]? = some zblk := (by first | exact below_keep hby hX1 | exact below_keep hby (keep_alloc _ hX1)); obtain ⟨Y3_0, Y3_1, Y3_2, Y3_3, Y3_f, Y3_z⟩ := cells4 hY3)); (try (have hY4 : wy.heap[w3.heap.size + 1]? = some zblk := (by first | exact below_keep hby hX2 | exact below_keep hby (keep_alloc _ hX2)); obtain ⟨Y4_0, Y4_1, Y4_2, Y4_3, Y4_f, Y4_z⟩ := cells4 hY4))))
    all_goals
      go_wp2_with fail
      go_meet
      case rel =>
        refine ⟨_, _, rfl, rfl, ?_, ?_, (by repeat' (first | (with_reducible exact Below.refl _ _) | (with_reducible assumption) | (with_reducible refine below_alloc ?_ _) | (with_reducible refine Below.drew ?_) | (with_reducible refine below_drewN ?_ _) | (with_reducible refine Below.setCell ?_ ?_ _) | go_size))⟩
        · repeat' (first | (with_reducible exact heap_new _ _) | (with_reducible exact set4_new _ _ _ _ _ _ _) | (with_reducible exact (alloc2 _ _ _).1) | (with_reducible exact (alloc2 _ _ _).2) | (with_reducible assumption) | (with_reducible refine set4z _ ?_) | (with_reducible refine keep_alloc _ ?_) | (with_reducible refine (set4_other _ _ _ _ ?_).trans ?_) | omega)
        · repeat' (first | (with_reducible exact heap_new _ _) | (with_reducible exact set4_new _ _ _ _ _ _ _) | (with_reducible exact (alloc2 _ _ _).1) | (with_reducible exact (alloc2 _ _ _).2) | (with_reducible assumption) | (with_reducible refine set4z _ ?_) | (with_reducible refine keep_alloc _ ?_) | (with_reducible refine (set4_other _ _ _ _ ?_).trans ?_) | omega)
  case rest =>
  obtain ⟨r, s, rfl, rfl, k5, k6, hbc⟩ := hcut
  obtain ⟨W2, hW⟩ : ∃ W2, W2 = wc := ⟨_, rfl⟩
  subst hW
  have Ka := Lib.hid (below_keep hbc K1.out); have K5 := Lib.hid k5; have K6 := Lib.hid k6
  have B2 := below_next (w := w) B hbc
  clear hbc k5 k6 B K0 K1 K0_z K1_z L0 L1 L2 L3 M0 M1 M2 M3 cx cy
  have B := B2; have K1 := Ka
  clear B2 Ka
  obtain ⟨K1_0, K1_1, K1_2, K1_3, K1_f, K1_z⟩ := cells4 K1.out
  obtain ⟨K5_0, K5_1, K5_2, K5_3, K5_f, K5_z⟩ := cells4 K5.out
  obtain ⟨K6_0, K6_1, K6_2, K6_3, K6_f, K6_z⟩ := cells4 K6.out
  go_wp2_with fail
  refine (cmp_any p q HP.out HQ.out _).mono ?_
  rintro e w4 ⟨rfl, hbw4⟩
  have K1' := Lib.hid (below_keep hbw4 (by first | exact K1.out | exact keep_alloc _ (K1.out) | exact keep_alloc _ (keep_alloc _ (K1.out)) | exact keep_alloc _ (keep_alloc _ (keep_alloc _ (K1.out))) | exact keep_alloc _ (keep_alloc _ (keep_alloc _ (keep_alloc _ (K1.out)))) | exact keep_alloc _ (keep_alloc _ (keep_alloc _ (keep_alloc _ (keep_alloc _ (K1.out)))))))
  have K5' := Lib.hid (below_keep hbw4 (by first | exact K5.out | exact keep_alloc _ (K5.out) | exact keep_alloc _ (keep_alloc _ (K5.out)) | exact keep_alloc _ (keep_alloc _ (keep_alloc _ (K5.out))) | exact keep_alloc _ (keep_alloc _ (keep_alloc _ (keep_alloc _ (K5.out)))) | exact keep_alloc _ (keep_alloc _ (keep_alloc _ (keep_alloc _ (keep_alloc _ (K5.out)))))))
  have K6' := Lib.hid (below_keep hbw4 (by first | exact K6.out | exact keep_alloc _ (K6.out) | exact keep_alloc _ (keep_alloc _ (K6.out)) | exact keep_alloc _ (keep_alloc _ (keep_alloc _ (K6.out))) | exact keep_alloc _ (keep_alloc _ (keep_alloc _ (keep_alloc _ (K6.out)))) | exact keep_alloc _ (keep_alloc _ (keep_alloc _ (keep_alloc _ (keep_alloc _ (K6.out)))))))
  have B' := below_next (w := w) (by repeat' (first | (with_reducible exact Below.refl _ _) | (with_reducible assumption) | (with_reducible refine below_alloc ?_ _) | (with_reducible refine Below.drew ?_) | (with_reducible refine below_drewN ?_ _) | (with_reducible refine Below.setCell ?_ ?_ _) | go_size)) hbw4
  clear hbw4 B K1 K5 K6 K1_0 K1_1 K1_2 K1_3 K1_f K1_z K5_0 K5_1 K5_2 K5_3 K5_f K5_z K6_0 K6_1 K6_2 K6_3 K6_f K6_z
  have B := B'; clear B'
  have K1 := K1'; clear K1'
  obtain ⟨K1_0, K1_1, K1_2, K1_3, K1_f, K1_z⟩ := cells4 K1.out
  have K5 := K5'; clear K5'
  obtain ⟨K5_0, K5_1, K5_2, K5_3, K5_f, K5_z⟩ := cells4 K5.out
  have K6 := K6'; clear K6'
  obtain ⟨K6_0, K6_1, K6_2, K6_3, K6_f, K6_z⟩ := cells4 K6.out
  go_wp2_with fail
  refine (zero_any p HP.out _).mono ?_
  rintro e w5 ⟨rfl, hbw5⟩
  have K1' := Lib.hid (below_keep hbw5 (by first | exact K1.out | exact keep_alloc _ (K1.out) | exact keep_alloc _ (keep_alloc _ (K1.out)) | exact keep_alloc _ (keep_alloc _ (keep_alloc _ (K1.out))) | exact keep_alloc _ (keep_alloc _ (keep_alloc _ (keep_alloc _ (K1.out)))) | exact keep_alloc _ (keep_alloc _ (keep_alloc _ (keep_alloc _ (keep_alloc _ (K1.out)))))))
  have K5' := Lib.hid (below_keep hbw5 (by first | exact K5.out | exact keep_alloc _ (K5.out) | exact keep_alloc _ (keep_alloc _ (K5.out)) | exact keep_alloc _ (keep_alloc _ (keep_alloc _ (K5.out))) | exact keep_alloc _ (keep_alloc _ (keep_alloc _ (keep_alloc _ (K5.out)))) | exact keep_alloc _ (keep_alloc _ (keep_alloc _ (keep_alloc _ (keep_alloc _ (K5.out)))))))
  have K6' := Lib.hid (below_keep hbw5 (by first | exact K6.out | exact keep_alloc _ (K6.out) | exact keep_alloc _ (keep_alloc _ (K6.out)) | exact keep_alloc _ (keep_alloc _ (keep_alloc _ (K6.out))) | exact keep_alloc _ (keep_alloc _ (keep_alloc _ (keep_alloc _ (K6.out)))) | exact keep_alloc _ (keep_alloc _ (keep_alloc _ (keep_alloc _ (keep_alloc _ (K6.out)))))))
  have B' := below_next (w := w) (by repeat' (first | (with_reducible exact Below.refl _ _) | (with_reducible assumption) | (with_reducible refine below_alloc ?_ _) | (with_reducible refine Below.drew ?_) | (with_reducible refine below_drewN ?_ _) | (with_reducible refine Below.setCell ?_ ?_ _) | go_size)) hbw5
  clear hbw5 B K1 K5 K6 K1_0 K1_1 K1_2 K1_3 K1_f K1_z K5_0 K5_1 K5_2 K5_3 K5_f K5_z K6_0 K6_1 K6_2 K6_3 K6_f K6_z
  have B := B'; clear B'
  have K1 := K1'; clear K1'
  obtain ⟨K1_0, K1_1, K1_2, K1_3, K1_f, K1_z⟩ := cells4 K1.out
  have K5 := K5'; clear K5'
  obtain ⟨K5_0, K5_1, K5_2, K5_3, K5_f, K5_z⟩ := cells4 K5.out
  have K6 := K6'; clear K6'
  obtain ⟨K6_0, K6_1, K6_2, K6_3, K6_f, K6_z⟩ := cells4 K6.out
  rw [decide_eq_false HP0.out]
  go_wp2_with fail
  refine (zero_any q HQ.out _).mono ?_
  rintro e w6 ⟨rfl, hbw6⟩
  have K1' := Lib.hid (below_keep hbw6 (by first | exact K1.out | exact keep_alloc _ (K1.out) | exact keep_alloc _ (keep_alloc _ (K1.out)) | exact keep_alloc _ (keep_alloc _ (keep_alloc _ (K1.out))) | exact keep_alloc _ (keep_alloc _ (keep_alloc _ (keep_alloc _ (K1.out)))) | exact keep_alloc _ (keep_alloc _ (keep_alloc _ (keep_alloc _ (keep_alloc _ (K1.out)))))))
  have K5' := Lib.hid (below_keep hbw6 (by first | exact K5.out | exact keep_alloc _ (K5.out) | exact keep_alloc _ (keep_alloc _ (K5.out)) | exact keep_alloc _ (keep_alloc _ (keep_alloc _ (K5.out))) | exact keep_alloc _ (keep_alloc _ (keep_alloc _ (keep_alloc _ (K5.out)))) | exact keep_alloc _ (keep_alloc _ (keep_alloc _ (keep_alloc _ (keep_alloc _ (K5.out)))))))
  have K6' := Lib.hid (below_keep hbw6 (by first | exact K6.out | exact keep_alloc _ (K6.out) | exact keep_alloc _ (keep_alloc _ (K6.out)) | exact keep_alloc _ (keep_alloc _ (keep_alloc _ (K6.out))) | exact keep_alloc _ (keep_alloc _ (keep_alloc _ (keep_alloc _ (K6.out)))) | exact keep_alloc _ (keep_alloc _ (keep_alloc _ (keep_alloc _ (keep_alloc _ (K6.out)))))))
  have B' := below_next (w := w) (by repeat' (first | (with_reducible exact Below.refl _ _) | (with_reducible assumption) | (with_reducible refine below_alloc ?_ _) | (with_reducible refine Below.drew ?_) | (with_reducible refine below_drewN ?_ _) | (with_reducible refine Below.setCell ?_ ?_ _) | go_size)) hbw6
  clear hbw6 B K1 K5 K6 K1_0 K1_1 K1_2 K1_3 K1_f K1_z K5_0 K5_1 K5_2 K5_3 K5_f K5_z K6_0 K6_1 K6_2 K6_3 K6_f K6_z
  have B := B'; clear B'
  have K1 := K1'; clear K1'
  obtain ⟨K1_0, K1_1, K1_2, K1_3, K1_f, K1_z⟩ := cells4 K1.out
  have K5 := K5'; clear K5'
  obtain ⟨K5_0, K5_1, K5_2, K5_3, K5_f, K5_z⟩ := cells4 K5.out
  have K6 := K6'; clear K6'
  obtain ⟨K6_0, K6_1, K6_2, K6_3, K6_f, K6_z⟩ := cells4 K6.out
  rw [decide_eq_false HQ0.out]
  clear K5 K5_0 K5_1 K5_2 K5_3 K5_f K5_z HP HP0 HQ0
  obtain ⟨T1, hT1⟩ : ∃ T1, T1 = (y + 1) % 2 ^ 256 := ⟨_, rfl⟩
  obtain ⟨o1, ho1⟩ : ∃ o1, o1 = decide (2 ^ 256 ≤ y + 1) := ⟨_, rfl⟩
  have c1 := Lib.hid fun w => of_nat 1 w (by omega)
  have ca : ∀ g ty w, w.heap[g]? = some (.cells #[.int .u64 (lw y 0), .int .u64 (lw y 1), .int .u64 (lw y 2), .int .u64 (lw y 3), .int .u64 (lw 1 0), .int .u64 (lw 1 1), .int .u64 (lw 1 2), .int .u64 (lw 1 3)] ty (0, 0)) →
      Calls Try.prog 21 #[.slice (some ⟨g, 0, none⟩) 2 2] w fun e w' => e = .returned (.tuple #[nv T1, .bool o1]) ∧ Below w.heap.size w w' := fun g ty w h => by
    have := add2_any y 1 HY.out (by omega) g ty w h
    rwa [← hT1, ← ho1] at this
  have ca1 := Lib.hid fun W ty => ca _ ty _ (heap_new W _)
  have ca3 := Lib.hid fun W ty o => ca _ ty _ (alloc2 W o _).2
  have ca2 := Lib.hid fun W ty o => ca _ ty _ (keep_alloc o (heap_new W _))
  have HT1 := Lib.hid hT1; have HO1 := Lib.hid ho1
  clear ca hT1 ho1
  have M0 : ∀ w', Below w6.heap.size w6 w' → w'.cell? ⟨w.heap.size + 1, 0, none⟩ = some (.int .u64 (lw y 0)) := fun w' h => (h.cell (p := ⟨_, 0, none⟩) K1_z).trans K1_0
  have M1 : ∀ w', Below w6.heap.size w6 w' → w'.cell? ⟨w.heap.size + 1, 1, none⟩ = some (.int .u64 (lw y 1)) := fun w' h => (h.cell (p := ⟨_, 1, none⟩) K1_z).trans K1_1
  have M2 : ∀ w', Below w6.heap.size w6 w' → w'.cell? ⟨w.heap.size + 1, 2, none⟩ = some (.int .u64 (lw y 2)) := fun w' h => (h.cell (p := ⟨_, 2, none⟩) K1_z).trans K1_2
  have M3 : ∀ w', Below w6.heap.size w6 w' → w'.cell? ⟨w.heap.size + 1, 3, none⟩ = some (.int .u64 (lw y 3)) := fun w' h => (h.cell (p := ⟨_, 3, none⟩) K1_z).trans K1_3
  clear K1_0 K1_1 K1_2 K1_3 K1_f K6_0 K6_1 K6_2 K6_3 K6_f
  go_upto_region 10 with fail
  go_cut [7, 8] (fun s7 s8 wd => ∃ g, s7 = .pointer (some ⟨g, 0, none⟩) ∧ s8 = .bool o1 ∧ wd.heap[g]? = some (nblk T1) ∧ Below w6.heap.size w6 wd)
  case first =>
    go_region_held3 (fun w' => Below w6.heap.size w6 w') (first | (with_reducible assumption) | exact (by repeat' (first | (with_reducible exact Below.refl _ _) | (with_reducible assumption) | (with_reducible refine below_alloc ?_ _) | (with_reducible refine Below.drew ?_) | (with_reducible refine below_drewN ?_ _) | (with_reducible refine Below.setCell ?_ ?_ _) | go_size))) (first | (go_at_call 37; refine (c1.out _).mono ?_; rintro e wx ⟨rfl, hbx⟩; have hSx := below_next (w := w6) (by repeat' (first | (with_reducible exact Below.refl _ _) | (with_reducible assumption) | (with_reducible refine below_alloc ?_ _) | (with_reducible refine Below.drew ?_) | (with_reducible refine below_drewN ?_ _) | (with_reducible refine Below.setCell ?_ ?_ _) | go_size)) hbx; have hzx := hSx.size; (try have hst : w6.heap.size < wx.heap.size := by (have h0 := hbx.size; simp only [World.size_alloc, World.size_drew] at h0; omega)); (try have hZ1 : wx.heap[w6.heap.size]? = some zblk := below_keep hbx (heap_new w6.drew zblk)); obtain ⟨hcx, hfx⟩ := bcell hbx) | (go_at_call 21; (first | with_reducible refine (ca1.out _ _).mono ?_ | with_reducible refine (ca2.out _ _ _).mono ?_ | with_reducible refine (ca3.out _ _ _).mono ?_); rintro e wy ⟨rfl, hby⟩; have hSy := below_next (w := w6) (by repeat' (first | (with_reducible exact Below.refl _ _) | (with_reducible assumption) | (with_reducible refine below_alloc ?_ _) | (with_reducible refine Below.drew ?_) | (with_reducible refine below_drewN ?_ _) | (with_reducible refine Below.setCell ?_ ?_ _) | go_size)) hby; have hzy := hSy.size; have hzq := hby.size; (try have hst : w6.heap.size < wy.heap.size := by (simp only [World.size_alloc] at hzq; omega)); (try have hst : wx.heap.size < wy.heap.size := by (simp only [World.size_alloc] at hzq; omega)); clear hzq; (try have hZ2 : wy.heap[wx.heap.size]? = some zblk := below_keep hby (keep_alloc _ (heap_new wx zblk))); (try have hZ3 : wy.heap[wx.heap.size + 1]? = some zblk := below_keep hby (alloc2 wx _ zblk).2); (try have hZ4 : wy.heap[w6.heap.size]? = some zblk := below_keep hby (keep_alloc _ hZ1)); obtain ⟨hcy, hfy⟩ := bcell hby))
    all_goals
      go_wp2_with fail
      go_meet
      case rel =>
        refine ⟨_, rfl, rfl, ?_, (by repeat' (first | (with_reducible exact Below.refl _ _) | (with_reducible assumption) | (with_reducible refine below_alloc ?_ _) | (with_reducible refine Below.drew ?_) | (with_reducible refine below_drewN ?_ _) | (with_reducible refine Below.setCell ?_ ?_ _) | go_size))⟩
        first
          | (with_reducible exact heap_new _ _)
          | (with_reducible exact set4 _ _ _ _ hZ2)
          | (with_reducible exact set4 _ _ _ _ hZ3)
          | (with_reducible exact set4 _ _ _ _ hZ4)
  case rest =>
  obtain ⟨g, rfl, rfl, k7, hbc⟩ := hcut
  obtain ⟨W3, hW⟩ : ∃ W3, W3 = wc := ⟨_, rfl⟩
  subst hW
  have Ka := Lib.hid (below_keep hbc K1.out); have Kb := Lib.hid (below_keep hbc K6.out); have K7 := Lib.hid k7
  have B2 := below_next (w := w) B hbc
  clear hbc k7 B K1 K6 K1_z K6_z M0 M1 M2 M3 ca1 ca2 ca3
  have B := B2; have K1 := Ka; have K6 := Kb
  clear B2 Ka Kb
  by_cases h1 : 2 ^ 256 ≤ y + 1
  · have ho : o1 = true := by rw [HO1.out, decide_eq_true h1]
    have hq1 : q = 1 := HY1.out h1
    subst ho hq1
    obtain ⟨K6_0, K6_1, K6_2, K6_3, K6_f, K6_z⟩ := cells4 K6.out
    have R0 := cell_regrown K6_0; have R1 := cell_regrown K6_1; have R2 := cell_regrown K6_2; have R3 := cell_regrown K6_3
    have q1 : ∀ w : World, (Op.equalIn 10000 24 (nv 1) (nv 1)).run Try.prog w = .ok true w := fun w => by rw [eq_num 1 1 (by omega) (by omega) w, decide_eq_true rfl]
    go_wp2_with fail
    refine wp_region_quiet_below (by kernel_rfl) (by kernel_rfl) ?_
    repeat (go_big_quiet_step ((go_at_call 37; exact Calls.regrown_of (c1.out _))))
    refine wpQuiet_nil ?_
    intro w7 hw7
    have hb7 := below_of_regrown hw7
    clear hw7
    go_wp2_with fail
    go_ret
    exact ⟨rfl, below_next B hb7⟩
  · have ho : o1 = false := by rw [HO1.out, decide_eq_false h1]
    have hT : T1 = y + 1 := by rw [HT1.out]; omega
    subst ho hT
    have HNT := Lib.hid (show 2 ^ 256 - 1 - y < 2 ^ 256 by omega)
    have cn := Lib.hid fun w => not_any y HY.out w
    have cd := Lib.hid fun w => div_walk (2 ^ 256 - 1 - y) (y + 1) HNT.out (by omega) (by omega) w
    have hR := Nat.mod_lt (2 ^ 256 - 1 - y) (show 0 < y + 1 by omega)
    generalize (2 ^ 256 - 1 - y) / (y + 1) = Q at *
    generalize (2 ^ 256 - 1 - y) % (y + 1) = Rm at *
    generalize 2 ^ 256 - 1 - y = NT at *
    have HRm := Lib.hid (show Rm < 2 ^ 256 by omega)
    have HY2 := Lib.hid (show y + 1 < 2 ^ 256 by omega)
    have hcr : cmpn Rm (y + 1) < 0 := by unfold cmpn; rw [if_pos (by omega)]; omega
    clear h1 hR K6 c1
    obtain ⟨K1_0, K1_1, K1_2, K1_3, K1_f, K1_z⟩ := cells4 K1.out
    obtain ⟨K7_0, K7_1, K7_2, K7_3, K7_f, K7_z⟩ := cells4 K7.out
    have L0 : ∀ w', Below W3.heap.size W3 w' → w'.cell? ⟨w.heap.size + 1, 0, none⟩ = some (.int .u64 (lw y 0)) := fun w' h => (h.cell (p := ⟨_, 0, none⟩) K1_z).trans K1_0
    have L1 : ∀ w', Below W3.heap.size W3 w' → w'.cell? ⟨w.heap.size + 1, 1, none⟩ = some (.int .u64 (lw y 1)) := fun w' h => (h.cell (p := ⟨_, 1, none⟩) K1_z).trans K1_1
    have L2 : ∀ w', Below W3.heap.size W3 w' → w'.cell? ⟨w.heap.size + 1, 2, none⟩ = some (.int .u64 (lw y 2)) := fun w' h => (h.cell (p := ⟨_, 2, none⟩) K1_z).trans K1_2
    have L3 : ∀ w', Below W3.heap.size W3 w' → w'.cell? ⟨w.heap.size + 1, 3, none⟩ = some (.int .u64 (lw y 3)) := fun w' h => (h.cell (p := ⟨_, 3, none⟩) K1_z).trans K1_3
    have M0 : ∀ w', Below W3.heap.size W3 w' → w'.cell? ⟨g, 0, none⟩ = some (.int .u64 (lw (y + 1) 0)) := fun w' h => (h.cell (p := ⟨_, 0, none⟩) K7_z).trans K7_0
    have M1 : ∀ w', Below W3.heap.size W3 w' → w'.cell? ⟨g, 1, none⟩ = some (.int .u64 (lw (y + 1) 1)) := fun w' h => (h.cell (p := ⟨_, 1, none⟩) K7_z).trans K7_1
    have M2 : ∀ w', Below W3.heap.size W3 w' → w'.cell? ⟨g, 2, none⟩ = some (.int .u64 (lw (y + 1) 2)) := fun w' h => (h.cell (p := ⟨_, 2, none⟩) K7_z).trans K7_2
    have M3 : ∀ w', Below W3.heap.size W3 w' → w'.cell? ⟨g, 3, none⟩ = some (.int .u64 (lw (y + 1) 3)) := fun w' h => (h.cell (p := ⟨_, 3, none⟩) K7_z).trans K7_3
    clear K1_0 K1_1 K1_2 K1_3 K1_f K7_0 K7_1 K7_2 K7_3 K7_f
    go_upto_region 13 with fail
    go_cut [10] (fun s10 wd => ∃ h, s10 = .pointer (some ⟨h, 0, none⟩) ∧ wd.heap[h]? = some (nblk Rm) ∧ Below W3.heap.size W3 wd)
    case first =>
      go_region_held3 (fun w' => Below W3.heap.size W3 w') (first | (with_reducible assumption) | exact (by repeat' (first | (with_reducible exact Below.refl _ _) | (with_reducible assumption) | (with_reducible refine below_alloc ?_ _) | (with_reducible refine Below.drew ?_) | (with_reducible refine below_drewN ?_ _) | (with_reducible refine Below.setCell ?_ ?_ _) | go_size))) (first | (go_at_call 42; (with_reducible refine (cn.out _).mono ?_); rintro e wx ⟨rfl, hbx⟩; have hSx := below_next (w := W3) (by repeat' (first | (with_reducible exact Below.refl _ _) | (with_reducible assumption) | (with_reducible refine below_alloc ?_ _) | (with_reducible refine Below.drew ?_) | (with_reducible refine below_drewN ?_ _) | (with_reducible refine Below.setCell ?_ ?_ _) | go_size)) hbx; have hzx := hSx.size; have hzq := hbx.size; (try simp only [World.size_drew] at hzq); (try simp only [World.size_alloc] at hzq); (try (have hX1 : wx.heap[W3.heap.size]? = some zblk := by exact below_keep hbx (heap_new W3.drew zblk))); (try (have hX1 : wx.heap[W3.heap.size]? = some zblk := by exact below_keep hbx (alloc2 W3.drew zblk zblk).1)); (try (have hX2 : wx.heap[W3.heap.size + 1]? = some zblk := by exact below_keep hbx (alloc2 W3.drew zblk zblk).2)); (try (have hXc := cells4 hX1; obtain ⟨X1_0, X1_1, X1_2, X1_3, X1_f, X1_z⟩ := hXc)); (try (have hXd := cells4 hX2; obtain ⟨X2_0, X2_1, X2_2, X2_3, X2_f, X2_z⟩ := hXd))) | (go_at_call 40; (with_reducible refine (cd.out _).mono ?_); rintro e wy ⟨rfl, hby⟩; have hSy := below_next (w := W3) (by repeat' (first | (with_reducible exact Below.refl _ _) | (with_reducible assumption) | (with_reducible refine below_alloc ?_ _) | (with_reducible refine Below.drew ?_) | (with_reducible refine below_drewN ?_ _) | (with_reducible refine Below.setCell ?_ ?_ _) | go_size)) hby; have hzy := hSy.size; have hzr := hby.size; (try simp only [World.size_alloc] at hzr); (try (have hY1 : wy.heap[wx.heap.size]? = some zblk := (by first | exact below_keep hby (heap_new wx zblk) | exact below_keep hby (alloc2 wx zblk zblk).1); obtain ⟨Y1_0, Y1_1, Y1_2, Y1_3, Y1_f, Y1_z⟩ := cells4 hY1)); (try (have hY2 : wy.heap[wx.heap.size + 1]? = some zblk := below_keep hby (alloc2 wx zblk zblk).2; obtain ⟨Y2_0, Y2_1, Y2_2, Y2_3, Y2_f, Y2_z⟩ := cells4 hY2)); (try (have hY3 : wy.heap[W3.heap.size]? = some zblk := (by first | exact below_keep hby hX1 | exact below_keep hby (keep_alloc _ hX1)); obtain ⟨Y3_0, Y3_1, Y3_2, Y3_3, Y3_f, Y3_z⟩ := cells4 hY3)); (try (have hY4 : wy.heap[W3.heap.size + 1]? = some zblk := (by first | exact below_keep hby hX2 | exact below_keep hby (keep_alloc _ hX2)); obtain ⟨Y4_0, Y4_1, Y4_2, Y4_3, Y4_f, Y4_z⟩ := cells4 hY4))))
      all_goals
        go_wp2_with fail
        go_meet
        case rel =>
          refine ⟨_, rfl, ?_, (by repeat' (first | (with_reducible exact Below.refl _ _) | (with_reducible assumption) | (with_reducible refine below_alloc ?_ _) | (with_reducible refine Below.drew ?_) | (with_reducible refine below_drewN ?_ _) | (with_reducible refine Below.setCell ?_ ?_ _) | go_size))⟩
          repeat' (first | (with_reducible exact heap_new _ _) | (with_reducible exact set4_new _ _ _ _ _ _ _) | (with_reducible exact (alloc2 _ _ _).1) | (with_reducible exact (alloc2 _ _ _).2) | (with_reducible assumption) | (with_reducible refine set4z _ ?_) | (with_reducible refine keep_alloc _ ?_) | (with_reducible refine (set4_other _ _ _ _ ?_).trans ?_) | omega)
    case rest =>
    obtain ⟨h, rfl, k8, hbc⟩ := hcut
    have Ka := Lib.hid (below_keep hbc K7.out); have K8 := Lib.hid k8
    have B2 := below_next (w := w) B hbc
    clear hbc k8 B K1 K7 K1_z K7_z L0 L1 L2 L3 M0 M1 M2 M3 cn cd
    have B := B2; have K7 := Ka
    clear B2 Ka
    obtain ⟨K7_0, K7_1, K7_2, K7_3, K7_f, K7_z⟩ := cells4 K7.out
    obtain ⟨K8_0, K8_1, K8_2, K8_3, K8_f, K8_z⟩ := cells4 K8.out
    go_wp2_with fail
    refine (cmp_any Rm (y + 1) HRm.out HY2.out _).mono ?_
    rintro e w8 ⟨rfl, hbw8⟩
    have K7' := Lib.hid (below_keep hbw8 (by first | exact K7.out | exact keep_alloc _ (K7.out) | exact keep_alloc _ (keep_alloc _ (K7.out)) | exact keep_alloc _ (keep_alloc _ (keep_alloc _ (K7.out))) | exact keep_alloc _ (keep_alloc _ (keep_alloc _ (keep_alloc _ (K7.out)))) | exact keep_alloc _ (keep_alloc _ (keep_alloc _ (keep_alloc _ (keep_alloc _ (K7.out)))))))
    have K8' := Lib.hid (below_keep hbw8 (by first | exact K8.out | exact keep_alloc _ (K8.out) | exact keep_alloc _ (keep_alloc _ (K8.out)) | exact keep_alloc _ (keep_alloc _ (keep_alloc _ (K8.out))) | exact keep_alloc _ (keep_alloc _ (keep_alloc _ (keep_alloc _ (K8.out)))) | exact keep_alloc _ (keep_alloc _ (keep_alloc _ (keep_alloc _ (keep_alloc _ (K8.out)))))))
    have B' := below_next (w := w) (by repeat' (first | (with_reducible exact Below.refl _ _) | (with_reducible assumption) | (with_reducible refine below_alloc ?_ _) | (with_reducible refine Below.drew ?_) | (with_reducible refine below_drewN ?_ _) | (with_reducible refine Below.setCell ?_ ?_ _) | go_size)) hbw8
    clear hbw8 B K7 K8 K7_0 K7_1 K7_2 K7_3 K7_f K7_z K8_0 K8_1 K8_2 K8_3 K8_f K8_z
    have B := B'; clear B'
    have K7 := K7'; clear K7'
    obtain ⟨K7_0, K7_1, K7_2, K7_3, K7_f, K7_z⟩ := cells4 K7.out
    have K8 := K8'; clear K8'
    obtain ⟨K8_0, K8_1, K8_2, K8_3, K8_f, K8_z⟩ := cells4 K8.out
    go_wp2_with fail
    go_ret
    exact ⟨rfl, (by repeat' (first | (with_reducible exact Below.refl _ _) | (with_reducible assumption) | (with_reducible refine below_alloc ?_ _) | (with_reducible refine Below.drew ?_) | (with_reducible refine below_drewN ?_ _) | (with_reducible refine Below.setCell ?_ ?_ _) | go_size))⟩

set_option maxRecDepth 100000 in
theorem BitsWork_lifted (os : Os) (started : os.Started) (H : Type) (enc : TypeId × Value → H) :
    ReturnsInHanded {} Try.checked os 13 .any (Rows.bitsWorkSpec.pre6 enc Try.prog Try.f13 Rows.bitsWorkRow.domain false) (Rows.bitsWorkSpec.post enc Try.prog Try.f13 false true false false) := by
  refine returnsInHanded_of_change (C := Try.checked) own started (by kernel_rfl) Try.func13
    (ChangeSpec.witness6 (enc := enc) (C := Try.checked) false ⟨#[], #[.agg #[.int .u64 0, .int .u64 0, .int .u64 0, .int .u64 0], .agg #[.int .u64 0, .int .u64 0, .int .u64 0, .int .u64 0]], []⟩ 8 (by kernel_rfl) (by kernel_rfl) (by kernel_rfl) (by kernel_rfl)) ?_
  intro W base args ds gs before hval0 hW hcnd _
  have hval : ∀ (j : Nat) t v, Try.f13.params[j]? = some t → args[j]? = some v → Value.okWide Try.prog W .any base t v := hval0
  have hW' := hW
  obtain ⟨p, q, hA0, hV, rfl, hfz, hnd⟩ := hW
  have hA : DataW.TrodAll enc Try.prog W 0 (fun _ => true) true Try.f13.params.toList args.toList ds p := hA0
  rw [Try.params13] at hA hval
  obtain ⟨v0, vs0, d0, ds0, p0, q0, hargs, rfl, rfl, h0, r0⟩ := trodAll_cons hA
  obtain ⟨v1, vs1, d1, ds1, p1, q1, rfl, rfl, rfl, h1, r1⟩ := trodAll_cons r0
  obtain ⟨rfl, rfl, rfl⟩ := trodAll_nil r1
  obtain rfl : args = #[v0, v1] := by cases args; simp_all
  obtain ⟨rfl, rfl⟩ := trodVars_none hV
  have k0 := h0
  have lt0 := trod_lt_of h0
  obtain ⟨a0, b0, rfl⟩ := open_num (hval 0 24 v0 rfl rfl) h0
  have k1 := h1
  have lt1 := trod_lt_of h1
  obtain ⟨a1, b1, rfl⟩ := open_num (hval 1 24 v1 rfl rfl) h1
  clear hA0 hval0
  refine (BitsWork_walk a0 b0 a1 b1 W).mono fun e W' ⟨he, bel⟩ => ?_
  subst he
  exact ⟨_, rfl, _, _, _, [], _, [], hW', trodAll_mk1 (shut_bool (by kernel_rfl) _), (trodAll_cons_mk (Below.trod laidOut (by kernel_rfl) (of_decide_eq_true (by kernel_rfl)) k0 bel lt0) (trodAll_cons_mk (Below.trod laidOut (by kernel_rfl) (of_decide_eq_true (by kernel_rfl)) k1 bel lt1) trodAll_mk0)), rfl, bel.frame _, fun h => by cases h⟩

theorem BitsWork_closed : joinedFacts Try.prog 13 Try.f13 Rows.bitsWorkSpec Rows.bitsWorkRow = true := by
  simp only [joinedFacts, Bool.and_eq_true]
  repeat' apply And.intro
  all_goals first
    | (with_reducible exact head_enter)
    | (rw [head_make]; kernel_rfl)
    | (rw [head_lift]; kernel_rfl)
    | kernel_rfl

theorem BitsWork_holds : Rows.BitsWorkSaid :=
  OpenClaim.holds_of_wide 13 Try.f13 rfl rfl rfl rfl rfl rfl rfl ⟨rfl, rfl, rfl, rfl, rfl⟩ rfl rfl rfl rfl rfl (by kernel_rfl) Try.func13 BitsWork_closed
    (of_decide_eq_true (by kernel_rfl)) (by unfold Func.isWrapper; rw [if_neg (of_decide_eq_false (by kernel_rfl))]; exact ⟨rfl, rfl⟩)
    (fun os started H enc _ => BitsWork_lifted os started H enc)
end Go.Proofs.Ytdffblfofdniaaa
