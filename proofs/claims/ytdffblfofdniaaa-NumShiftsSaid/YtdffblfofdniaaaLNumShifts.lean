/- The law NumShifts: any number so many bits to the left or right, and how many it has. No condition. -/
import Derived.Test.YtdffblfofdniaaaNumLawA
import Derived.Test.YtdffblfofdniaaaRefLaw
import Derived.Test.YtdffblfofdniaaaRefMul
import Derived.Test.YtdffblfofdniaaaBtRound
import Derived.Test.YtdffblfofdniaaaNumOpen
import Derived.Test.YtdffblfofdniaaaHead
namespace Go.Proofs.Ytdffblfofdniaaa
open Go.ChangeShapes Go.WideShapes Go.ChangeAt Go.RowKit

theorem top_bit {a : Nat} (h : a ≠ 0) : a.testBit (bitLen a - 1) = true := by
  have h1 := two_le_of h
  have h2 := lt_two_bitLen a
  have h3 := bitLen_pos h
  rw [Nat.testBit_eq_decide_div_mod_eq, decide_eq_true_iff]
  have e : 2 ^ bitLen a = 2 ^ (bitLen a - 1) * 2 := by rw [← Nat.pow_succ]; congr 1; omega
  rw [e] at h2
  have h4 : a / 2 ^ (bitLen a - 1) < 2 := by rw [Nat.div_lt_iff_lt_mul (Nat.two_pow_pos _), Nat.mul_comm]; exact h2
  have h5 : 1 ≤ a / 2 ^ (bitLen a - 1) := by rw [Nat.le_div_iff_mul_le (Nat.two_pow_pos _), Nat.one_mul]; exact h1
  omega

set_option maxRecDepth 100000 in
set_option maxHeartbeats 40000000 in
theorem NumShifts_walk (a : Nat) (ha : a < 2 ^ 256) (n : Int) (_hn : (Lit.int .i64 n).wf = true) (w : World) :
    Calls Try.prog 6 #[nv a, .int .i64 n] w fun e w' => e = .returned (.bool true) ∧ Below w.heap.size w w' := by
  have HA := Lib.hid ha
  obtain ⟨X, hX⟩ : ∃ X, X = shlN a n := ⟨_, rfl⟩
  obtain ⟨Y, hY⟩ : ∃ Y, Y = shrN a n := ⟨_, rfl⟩
  have hXl : X < 2 ^ 256 := by rw [hX]; unfold shlN; split <;> first | exact Nat.mod_lt _ (by omega) | decide
  have hYl : Y < 2 ^ 256 := by rw [hY]; unfold shrN; split <;> first | exact Nat.lt_of_le_of_lt (Nat.div_le_self _ _) ha | decide
  have HXL := Lib.hid hXl; have HYL := Lib.hid hYl; have EX := Lib.hid hX; have EY := Lib.hid hY
  have cs := Lib.hid fun w => shl_any a ha n w
  have cr := Lib.hid fun w => shr_any a ha n w
  rw [← hX] at cs
  rw [← hY] at cr
  clear ha hXl hYl hX hY
  have B : Below w.heap.size w w := Below.refl _ _
  have K0 := Lib.hid (heap_new w (nblk a))
  go_enter Try.func6, Try.ntmps6
  go_wp2_with fail
  refine (counts_any _).mono ?_
  rintro e w3 ⟨rfl, hbw3⟩
  have K0' := Lib.hid (below_keep hbw3 (by first | exact K0.out | exact keep_alloc _ (K0.out) | exact keep_alloc _ (keep_alloc _ (K0.out)) | exact keep_alloc _ (keep_alloc _ (keep_alloc _ (K0.out))) | exact keep_alloc _ (keep_alloc _ (keep_alloc _ (keep_alloc _ (K0.out)))) | exact keep_alloc _ (keep_alloc _ (keep_alloc _ (keep_alloc _ (keep_alloc _ (K0.out)))))))
  have B' := below_next (w := w) (by repeat' (first | (with_reducible exact Below.refl _ _) | (with_reducible assumption) | (with_reducible refine below_alloc ?_ _) | (with_reducible refine Below.drew ?_) | (with_reducible refine below_drewN ?_ _) | (with_reducible refine Below.setCell ?_ ?_ _) | go_size)) hbw3
  clear hbw3 B K0
  have B := B'; clear B'
  have K0 := K0'; clear K0'
  obtain ⟨K0_0, K0_1, K0_2, K0_3, K0_f, K0_z⟩ := cells4 K0.out
  have L0 : ∀ w', Below w3.heap.size w3 w' → w'.cell? ⟨w.heap.size, 0, none⟩ = some (.int .u64 (lw a 0)) := fun w' h => (h.cell (p := ⟨_, 0, none⟩) K0_z).trans K0_0
  have L1 : ∀ w', Below w3.heap.size w3 w' → w'.cell? ⟨w.heap.size, 1, none⟩ = some (.int .u64 (lw a 1)) := fun w' h => (h.cell (p := ⟨_, 1, none⟩) K0_z).trans K0_1
  have L2 : ∀ w', Below w3.heap.size w3 w' → w'.cell? ⟨w.heap.size, 2, none⟩ = some (.int .u64 (lw a 2)) := fun w' h => (h.cell (p := ⟨_, 2, none⟩) K0_z).trans K0_2
  have L3 : ∀ w', Below w3.heap.size w3 w' → w'.cell? ⟨w.heap.size, 3, none⟩ = some (.int .u64 (lw a 3)) := fun w' h => (h.cell (p := ⟨_, 3, none⟩) K0_z).trans K0_3
  clear K0_0 K0_1 K0_2 K0_3 K0_f
  go_upto_region 3 with fail
  go_cut [5, 6] (fun s5 s6 wd => ∃ r s, s5 = .pointer (some ⟨r, 0, none⟩) ∧ s6 = .pointer (some ⟨s, 0, none⟩) ∧ wd.heap[r]? = some (nblk X) ∧ wd.heap[s]? = some (nblk Y) ∧ Below w3.heap.size w3 wd)
  case first =>
    go_region_held3 (fun w' => Below w3.heap.size w3 w') (first | (with_reducible assumption) | exact (by repeat' (first | (with_reducible exact Below.refl _ _) | (with_reducible assumption) | (with_reducible refine below_alloc ?_ _) | (with_reducible refine Below.drew ?_) | (with_reducible refine below_drewN ?_ _) | (with_reducible refine Below.setCell ?_ ?_ _) | go_size))) (first | (go_at_call 31; (with_reducible refine (cs.out _).mono ?_); rintro e wx ⟨rfl, hbx⟩; have hSx := below_next (w := w3) (by repeat' (first | (with_reducible exact Below.refl _ _) | (with_reducible assumption) | (with_reducible refine below_alloc ?_ _) | (with_reducible refine Below.drew ?_) | (with_reducible refine below_drewN ?_ _) | (with_reducible refine Below.setCell ?_ ?_ _) | go_size)) hbx; have hzx := hSx.size; have hzq := hbx.size; (try simp only [World.size_drew] at hzq); (try simp only [World.size_alloc] at hzq); (try (have hX1 : wx.heap[w3.heap.size]? = some zblk := by exact below_keep hbx (heap_new w3.drew zblk))); (try (have hX1 : wx.heap[w3.heap.size]? = some zblk := by exact below_keep hbx (alloc2 w3.drew zblk zblk).1)); (try (have hX2 : wx.heap[w3.heap.size + 1]? = some zblk := by exact below_keep hbx (alloc2 w3.drew zblk zblk).2)); (try (have hXc := cells4 hX1; obtain ⟨X1_0, X1_1, X1_2, X1_3, X1_f, X1_z⟩ := hXc)); (try (have hXd := cells4 hX2; obtain ⟨X2_0, X2_1, X2_2, X2_3, X2_f, X2_z⟩ := hXd))) | (go_at_call 32; (with_reducible refine (cr.out _).mono ?_); rintro e wy ⟨rfl, hby⟩; have hSy := below_next (w := w3) (by repeat' (first | (with_reducible exact Below.refl _ _) | (with_reducible assumption) | (with_reducible refine below_alloc ?_ _) | (with_reducible refine Below.drew ?_) | (with_reducible refine below_drewN ?_ _) | (with_reducible refine Below.setCell ?_ ?_ _) | go_size)) hby; have hzy := hSy.size; have hzr := hby.size; (try simp only [World.size_alloc] at hzr); (try (have hY1 : wy.heap[wx.heap.size]? = some zblk := (by first | exact below_keep hby (heap_new wx zblk) | exact below_keep hby (alloc2 wx zblk zblk).1); obtain ⟨Y1_0, Y1_1, Y1_2, Y1_3, Y1_f, Y1_z⟩ := cells4 hY1)); (try (have hY2 : wy.heap[wx.heap.size + 1]? = some zblk := below_keep hby (alloc2 wx zblk zblk).2; obtain ⟨Y2_0, Y2_1, Y2_2, Y2_3, Y2_f, Y2_z⟩ := cells4 hY2)); (try (have hY3 : wy.heap[w3.heap.size]? = some zblk := (by first | exact below_keep hby hX1 | exact below_keep hby (keep_alloc _ hX1)); obtain ⟨Y3_0, Y3_1, Y3_2, Y3_3, Y3_f, Y3_z⟩ := cells4 hY3)); (try (have hY4 : wy.heap[w3.heap.size + 1]? = some zblk := (by first | exact below_keep hby hX2 | exact below_keep hby (keep_alloc _ hX2)); obtain ⟨Y4_0, Y4_1, Y4_2, Y4_3, Y4_f, Y4_z⟩ := cells4 hY4))))
    all_goals
      go_wp2_with fail
      go_meet
      case rel =>
        refine ⟨_, _, rfl, rfl, ?_, ?_, (by repeat' (first | (with_reducible exact Below.refl _ _) | (with_reducible assumption) | (with_reducible refine below_alloc ?_ _) | (with_reducible refine Below.drew ?_) | (with_reducible refine below_drewN ?_ _) | (with_reducible refine Below.setCell ?_ ?_ _) | go_size))⟩
        · repeat' (first | (with_reducible exact heap_new _ _) | (with_reducible exact set4_new _ _ _ _ _ _ _) | (with_reducible exact (alloc2 _ _ _).1) | (with_reducible exact (alloc2 _ _ _).2) | (with_reducible assumption) | (with_reducible refine set4z _ ?_) | (with_reducible refine keep_alloc _ ?_) | (with_reducible refine (set4_other _ _ _ _ ?_).trans ?_) | omega)
        · repeat' (first | (with_reducible exact heap_new _ _) | (with_reducible exact set4_new _ _ _ _ _ _ _) | (with_reducible exact (alloc2 _ _ _).1) | (with_reducible exact (alloc2 _ _ _).2) | (with_reducible assumption) | (with_reducible refine set4z _ ?_) | (with_reducible refine keep_alloc _ ?_) | (with_reducible refine (set4_other _ _ _ _ ?_).trans ?_) | omega)
  case rest =>
  obtain ⟨r, s, rfl, rfl, k5, k6, hbc⟩ := hcut
  obtain ⟨W2, hW⟩ : ∃ W2, W2 = wc := ⟨_, rfl⟩
  subst hW
  have Ka := Lib.hid (below_keep hbc K0.out); have K5 := Lib.hid k5; have K6 := Lib.hid k6
  have B2 := below_next (w := w) B hbc
  clear hbc k5 k6 B K0 K0_z L0 L1 L2 L3 cs cr
  have B := B2; have K0 := Ka
  clear B2 Ka
  obtain ⟨K0_0, K0_1, K0_2, K0_3, K0_f, K0_z⟩ := cells4 K0.out
  obtain ⟨K5_0, K5_1, K5_2, K5_3, K5_f, K5_z⟩ := cells4 K5.out
  obtain ⟨K6_0, K6_1, K6_2, K6_3, K6_f, K6_z⟩ := cells4 K6.out
  by_cases hout : n < 0 ∨ 255 < n
  · have hX0 : X = 0 := by rw [EX.out]; unfold shlN; rw [if_pos hout]
    have hY0 : Y = 0 := by rw [EY.out]; unfold shrN; rw [if_pos hout]
    subst hX0 hY0
    have cz := Lib.hid fun w => zero_any 0 (by omega) w
    by_cases hlo : n < 0
    · clear hout
      go_wp2_with fail
      refine (cz.out _).mono ?_
      rintro e w4 ⟨rfl, hbw4⟩
      have K0' := Lib.hid (below_keep hbw4 (by first | exact K0.out | exact keep_alloc _ (K0.out) | exact keep_alloc _ (keep_alloc _ (K0.out)) | exact keep_alloc _ (keep_alloc _ (keep_alloc _ (K0.out))) | exact keep_alloc _ (keep_alloc _ (keep_alloc _ (keep_alloc _ (K0.out)))) | exact keep_alloc _ (keep_alloc _ (keep_alloc _ (keep_alloc _ (keep_alloc _ (K0.out)))))))
      have K5' := Lib.hid (below_keep hbw4 (by first | exact K5.out | exact keep_alloc _ (K5.out) | exact keep_alloc _ (keep_alloc _ (K5.out)) | exact keep_alloc _ (keep_alloc _ (keep_alloc _ (K5.out))) | exact keep_alloc _ (keep_alloc _ (keep_alloc _ (keep_alloc _ (K5.out)))) | exact keep_alloc _ (keep_alloc _ (keep_alloc _ (keep_alloc _ (keep_alloc _ (K5.out)))))))
      have K6' := Lib.hid (below_keep hbw4 (by first | exact K6.out | exact keep_alloc _ (K6.out) | exact keep_alloc _ (keep_alloc _ (K6.out)) | exact keep_alloc _ (keep_alloc _ (keep_alloc _ (K6.out))) | exact keep_alloc _ (keep_alloc _ (keep_alloc _ (keep_alloc _ (K6.out)))) | exact keep_alloc _ (keep_alloc _ (keep_alloc _ (keep_alloc _ (keep_alloc _ (K6.out)))))))
      have B' := below_next (w := w) (by repeat' (first | (with_reducible exact Below.refl _ _) | (with_reducible assumption) | (with_reducible refine below_alloc ?_ _) | (with_reducible refine Below.drew ?_) | (with_reducible refine below_drewN ?_ _) | (with_reducible refine Below.setCell ?_ ?_ _) | go_size)) hbw4
      clear hbw4 B K0 K5 K6 K0_0 K0_1 K0_2 K0_3 K0_f K0_z K5_0 K5_1 K5_2 K5_3 K5_f K5_z K6_0 K6_1 K6_2 K6_3 K6_f K6_z
      have B := B'; clear B'
      have K0 := K0'; clear K0'
      obtain ⟨K0_0, K0_1, K0_2, K0_3, K0_f, K0_z⟩ := cells4 K0.out
      have K5 := K5'; clear K5'
      obtain ⟨K5_0, K5_1, K5_2, K5_3, K5_f, K5_z⟩ := cells4 K5.out
      have K6 := K6'; clear K6'
      obtain ⟨K6_0, K6_1, K6_2, K6_3, K6_f, K6_z⟩ := cells4 K6.out
      go_wp2_with fail
      refine (cz.out _).mono ?_
      rintro e w5 ⟨rfl, hbw5⟩
      have K0' := Lib.hid (below_keep hbw5 (by first | exact K0.out | exact keep_alloc _ (K0.out) | exact keep_alloc _ (keep_alloc _ (K0.out)) | exact keep_alloc _ (keep_alloc _ (keep_alloc _ (K0.out))) | exact keep_alloc _ (keep_alloc _ (keep_alloc _ (keep_alloc _ (K0.out)))) | exact keep_alloc _ (keep_alloc _ (keep_alloc _ (keep_alloc _ (keep_alloc _ (K0.out)))))))
      have K5' := Lib.hid (below_keep hbw5 (by first | exact K5.out | exact keep_alloc _ (K5.out) | exact keep_alloc _ (keep_alloc _ (K5.out)) | exact keep_alloc _ (keep_alloc _ (keep_alloc _ (K5.out))) | exact keep_alloc _ (keep_alloc _ (keep_alloc _ (keep_alloc _ (K5.out)))) | exact keep_alloc _ (keep_alloc _ (keep_alloc _ (keep_alloc _ (keep_alloc _ (K5.out)))))))
      have K6' := Lib.hid (below_keep hbw5 (by first | exact K6.out | exact keep_alloc _ (K6.out) | exact keep_alloc _ (keep_alloc _ (K6.out)) | exact keep_alloc _ (keep_alloc _ (keep_alloc _ (K6.out))) | exact keep_alloc _ (keep_alloc _ (keep_alloc _ (keep_alloc _ (K6.out)))) | exact keep_alloc _ (keep_alloc _ (keep_alloc _ (keep_alloc _ (keep_alloc _ (K6.out)))))))
      have B' := below_next (w := w) (by repeat' (first | (with_reducible exact Below.refl _ _) | (with_reducible assumption) | (with_reducible refine below_alloc ?_ _) | (with_reducible refine Below.drew ?_) | (with_reducible refine below_drewN ?_ _) | (with_reducible refine Below.setCell ?_ ?_ _) | go_size)) hbw5
      clear hbw5 B K0 K5 K6 K0_0 K0_1 K0_2 K0_3 K0_f K0_z K5_0 K5_1 K5_2 K5_3 K5_f K5_z K6_0 K6_1 K6_2 K6_3 K6_f K6_z
      have B := B'; clear B'
      have K0 := K0'; clear K0'
      obtain ⟨K0_0, K0_1, K0_2, K0_3, K0_f, K0_z⟩ := cells4 K0.out
      have K5 := K5'; clear K5'
      obtain ⟨K5_0, K5_1, K5_2, K5_3, K5_f, K5_z⟩ := cells4 K5.out
      have K6 := K6'; clear K6'
      obtain ⟨K6_0, K6_1, K6_2, K6_3, K6_f, K6_z⟩ := cells4 K6.out
      go_wp2_with fail
      go_ret
      exact ⟨rfl, (by repeat' (first | (with_reducible exact Below.refl _ _) | (with_reducible assumption) | (with_reducible refine below_alloc ?_ _) | (with_reducible refine Below.drew ?_) | (with_reducible refine below_drewN ?_ _) | (with_reducible refine Below.setCell ?_ ?_ _) | go_size))⟩
    · have hhi : 255 < n := by omega
      clear hout
      go_wp2_with fail
      refine (cz.out _).mono ?_
      rintro e w4 ⟨rfl, hbw4⟩
      have K0' := Lib.hid (below_keep hbw4 (by first | exact K0.out | exact keep_alloc _ (K0.out) | exact keep_alloc _ (keep_alloc _ (K0.out)) | exact keep_alloc _ (keep_alloc _ (keep_alloc _ (K0.out))) | exact keep_alloc _ (keep_alloc _ (keep_alloc _ (keep_alloc _ (K0.out)))) | exact keep_alloc _ (keep_alloc _ (keep_alloc _ (keep_alloc _ (keep_alloc _ (K0.out)))))))
      have K5' := Lib.hid (below_keep hbw4 (by first | exact K5.out | exact keep_alloc _ (K5.out) | exact keep_alloc _ (keep_alloc _ (K5.out)) | exact keep_alloc _ (keep_alloc _ (keep_alloc _ (K5.out))) | exact keep_alloc _ (keep_alloc _ (keep_alloc _ (keep_alloc _ (K5.out)))) | exact keep_alloc _ (keep_alloc _ (keep_alloc _ (keep_alloc _ (keep_alloc _ (K5.out)))))))
      have K6' := Lib.hid (below_keep hbw4 (by first | exact K6.out | exact keep_alloc _ (K6.out) | exact keep_alloc _ (keep_alloc _ (K6.out)) | exact keep_alloc _ (keep_alloc _ (keep_alloc _ (K6.out))) | exact keep_alloc _ (keep_alloc _ (keep_alloc _ (keep_alloc _ (K6.out)))) | exact keep_alloc _ (keep_alloc _ (keep_alloc _ (keep_alloc _ (keep_alloc _ (K6.out)))))))
      have B' := below_next (w := w) (by repeat' (first | (with_reducible exact Below.refl _ _) | (with_reducible assumption) | (with_reducible refine below_alloc ?_ _) | (with_reducible refine Below.drew ?_) | (with_reducible refine below_drewN ?_ _) | (with_reducible refine Below.setCell ?_ ?_ _) | go_size)) hbw4
      clear hbw4 B K0 K5 K6 K0_0 K0_1 K0_2 K0_3 K0_f K0_z K5_0 K5_1 K5_2 K5_3 K5_f K5_z K6_0 K6_1 K6_2 K6_3 K6_f K6_z
      have B := B'; clear B'
      have K0 := K0'; clear K0'
      obtain ⟨K0_0, K0_1, K0_2, K0_3, K0_f, K0_z⟩ := cells4 K0.out
      have K5 := K5'; clear K5'
      obtain ⟨K5_0, K5_1, K5_2, K5_3, K5_f, K5_z⟩ := cells4 K5.out
      have K6 := K6'; clear K6'
      obtain ⟨K6_0, K6_1, K6_2, K6_3, K6_f, K6_z⟩ := cells4 K6.out
      go_wp2_with fail
      refine (cz.out _).mono ?_
      rintro e w5 ⟨rfl, hbw5⟩
      have K0' := Lib.hid (below_keep hbw5 (by first | exact K0.out | exact keep_alloc _ (K0.out) | exact keep_alloc _ (keep_alloc _ (K0.out)) | exact keep_alloc _ (keep_alloc _ (keep_alloc _ (K0.out))) | exact keep_alloc _ (keep_alloc _ (keep_alloc _ (keep_alloc _ (K0.out)))) | exact keep_alloc _ (keep_alloc _ (keep_alloc _ (keep_alloc _ (keep_alloc _ (K0.out)))))))
      have K5' := Lib.hid (below_keep hbw5 (by first | exact K5.out | exact keep_alloc _ (K5.out) | exact keep_alloc _ (keep_alloc _ (K5.out)) | exact keep_alloc _ (keep_alloc _ (keep_alloc _ (K5.out))) | exact keep_alloc _ (keep_alloc _ (keep_alloc _ (keep_alloc _ (K5.out)))) | exact keep_alloc _ (keep_alloc _ (keep_alloc _ (keep_alloc _ (keep_alloc _ (K5.out)))))))
      have K6' := Lib.hid (below_keep hbw5 (by first | exact K6.out | exact keep_alloc _ (K6.out) | exact keep_alloc _ (keep_alloc _ (K6.out)) | exact keep_alloc _ (keep_alloc _ (keep_alloc _ (K6.out))) | exact keep_alloc _ (keep_alloc _ (keep_alloc _ (keep_alloc _ (K6.out)))) | exact keep_alloc _ (keep_alloc _ (keep_alloc _ (keep_alloc _ (keep_alloc _ (K6.out)))))))
      have B' := below_next (w := w) (by repeat' (first | (with_reducible exact Below.refl _ _) | (with_reducible assumption) | (with_reducible refine below_alloc ?_ _) | (with_reducible refine Below.drew ?_) | (with_reducible refine below_drewN ?_ _) | (with_reducible refine Below.setCell ?_ ?_ _) | go_size)) hbw5
      clear hbw5 B K0 K5 K6 K0_0 K0_1 K0_2 K0_3 K0_f K0_z K5_0 K5_1 K5_2 K5_3 K5_f K5_z K6_0 K6_1 K6_2 K6_3 K6_f K6_z
      have B := B'; clear B'
      have K0 := K0'; clear K0'
      obtain ⟨K0_0, K0_1, K0_2, K0_3, K0_f, K0_z⟩ := cells4 K0.out
      have K5 := K5'; clear K5'
      obtain ⟨K5_0, K5_1, K5_2, K5_3, K5_f, K5_z⟩ := cells4 K5.out
      have K6 := K6'; clear K6'
      obtain ⟨K6_0, K6_1, K6_2, K6_3, K6_f, K6_z⟩ := cells4 K6.out
      go_wp2_with fail
      go_ret
      exact ⟨rfl, (by repeat' (first | (with_reducible exact Below.refl _ _) | (with_reducible assumption) | (with_reducible refine below_alloc ?_ _) | (with_reducible refine Below.drew ?_) | (with_reducible refine below_drewN ?_ _) | (with_reducible refine Below.setCell ?_ ?_ _) | go_size))⟩
  · obtain ⟨t, rfl⟩ := Int.eq_ofNat_of_zero_le (show 0 ≤ n by omega)
    have ht : t ≤ 255 := by omega
    have hlo : ¬ (t : Int) < 0 := by omega
    have hhi : ¬ 255 < (t : Int) := by omega
    have hXe : X = a * 2 ^ t % 2 ^ 256 := by rw [EX.out]; unfold shlN; rw [if_neg hout, Int.toNat_natCast]
    have hYe : Y = a / 2 ^ t := by rw [EY.out]; unfold shrN; rw [if_neg hout, Int.toNat_natCast]
    have HXE := Lib.hid hXe; have HYE := Lib.hid hYe
    clear hout hXe hYe
    go_wp2_with fail
    refine (of2_any a _).mono ?_
    rintro e w4 ⟨x, rfl, hx, hb4⟩
    have Ka := Lib.hid (below_keep hb4 K0.out); have Kb := Lib.hid (below_keep hb4 K5.out); have Kc := Lib.hid (below_keep hb4 K6.out)
    have B4 := below_next B hb4
    have HV := Lib.hid hx
    clear hb4 hx K0 K5 K6 B K0_0 K0_1 K0_2 K0_3 K0_f K0_z K5_0 K5_1 K5_2 K5_3 K5_f K5_z K6_0 K6_1 K6_2 K6_3 K6_f K6_z
    have K0 := Ka; have K5 := Kb; have K6 := Kc; have B := B4
    clear Ka Kb Kc B4
    go_wp2_with fail
    refine (shiftl_any _ _ a 256 HA.out t (by omega) (by omega) _ HV.out).mono ?_
    rintro e w5 ⟨y, rfl, hy, hb5⟩
    have Ka := Lib.hid (below_keep hb5 K0.out); have Kb := Lib.hid (below_keep hb5 K5.out); have Kc := Lib.hid (below_keep hb5 K6.out)
    have B5 := below_next B hb5
    have HV2 := Lib.hid hy
    clear hb5 hy K0 K5 K6 B HV
    have K0 := Ka; have K5 := Kb; have K6 := Kc; have B := B5
    clear Ka Kb Kc B5
    go_wp2_with fail
    refine (words_any _ _ (a * 2 ^ t) (256 + t) (shl_lt HA.out) (by omega) _ HV2.out).mono ?_
    rintro e w6 ⟨rfl, hb6⟩
    rw [← HXE.out]
    generalize decide (2 ^ 256 ≤ a * 2 ^ t) = ob
    have Ka := Lib.hid (below_keep hb6 K0.out); have Kb := Lib.hid (below_keep hb6 K5.out); have Kc := Lib.hid (below_keep hb6 K6.out)
    have B6 := below_next B hb6
    clear hb6 K0 K5 K6 B HV2
    have K0 := Ka; have K5 := Kb; have K6 := Kc; have B := B6
    clear Ka Kb Kc B6
    have K7 := Lib.hid (heap_new w6 (.cells #[.int .u64 (lw X 0), .int .u64 (lw X 1), .int .u64 (lw X 2), .int .u64 (lw X 3)] 23 (0, 0)))
    obtain ⟨K0_0, K0_1, K0_2, K0_3, K0_f, K0_z⟩ := cells4 K0.out
    go_wp2_with fail
    refine (of2_any a _).mono ?_
    rintro e w7 ⟨x2, rfl, hx, hb7⟩
    have Ka := Lib.hid (below_keep hb7 (keep_alloc _ K0.out)); have Kb := Lib.hid (below_keep hb7 (keep_alloc _ K5.out)); have Kc := Lib.hid (below_keep hb7 (keep_alloc _ K6.out)); have Kd := Lib.hid (below_keep hb7 K7.out)
    have B7 := below_next (w := w) (by repeat' (first | (with_reducible exact Below.refl _ _) | (with_reducible assumption) | (with_reducible refine below_alloc ?_ _) | (with_reducible refine Below.drew ?_) | (with_reducible refine below_drewN ?_ _) | (with_reducible refine Below.setCell ?_ ?_ _) | go_size)) hb7
    have HV := Lib.hid hx
    clear hb7 hx K0 K5 K6 K7 B K0_0 K0_1 K0_2 K0_3 K0_f K0_z
    have K0 := Ka; have K5 := Kb; have K6 := Kc; have K7 := Kd; have B := B7
    clear Ka Kb Kc Kd B7
    go_wp2_with fail
    refine (shiftr_any _ _ a 256 HA.out t (by omega) (by omega) _ HV.out).mono ?_
    rintro e w8 ⟨y2, rfl, hy, hb8⟩
    have Ka := Lib.hid (below_keep hb8 K0.out); have Kb := Lib.hid (below_keep hb8 K5.out); have Kc := Lib.hid (below_keep hb8 K6.out); have Kd := Lib.hid (below_keep hb8 K7.out)
    have B8 := below_next B hb8
    have HV2 := Lib.hid hy
    clear hb8 hy K0 K5 K6 K7 B HV
    have K0 := Ka; have K5 := Kb; have K6 := Kc; have K7 := Kd; have B := B8
    clear Ka Kb Kc Kd B8
    go_wp2_with fail
    refine (words_any _ _ (a / 2 ^ t) (256 - t) (by rw [Nat.div_lt_iff_lt_mul (Nat.two_pow_pos _), ← Nat.pow_add, show 256 - t + t = 256 by omega]; exact HA.out) (by omega) _ HV2.out).mono ?_
    rintro e w9 ⟨rfl, hb9⟩
    rw [← HYE.out, Nat.mod_eq_of_lt HYL.out]
    generalize decide (2 ^ 256 ≤ Y) = ob2
    have Ka := Lib.hid (below_keep hb9 K0.out); have Kb := Lib.hid (below_keep hb9 K5.out); have Kc := Lib.hid (below_keep hb9 K6.out); have Kd := Lib.hid (below_keep hb9 K7.out)
    have B9 := below_next B hb9
    clear hb9 K0 K5 K6 K7 B HV2
    have K0 := Ka; have K5 := Kb; have K6 := Kc; have K7 := Kd; have B := B9
    clear Ka Kb Kc Kd B9
    have K9 := Lib.hid (heap_new w9 (.cells #[.int .u64 (lw Y 0), .int .u64 (lw Y 1), .int .u64 (lw Y 2), .int .u64 (lw Y 3)] 23 (0, 0)))
    obtain ⟨K0_0, K0_1, K0_2, K0_3, K0_f, K0_z⟩ := cells4 K0.out
    go_wp2_with fail
    refine (len_any a HA.out _).mono ?_
    rintro e w10 ⟨rfl, hb10⟩
    have Ka := Lib.hid (below_keep hb10 (keep_alloc _ K0.out)); have Kb := Lib.hid (below_keep hb10 (keep_alloc _ K5.out)); have Kc := Lib.hid (below_keep hb10 (keep_alloc _ K6.out)); have Kd := Lib.hid (below_keep hb10 (keep_alloc _ K7.out)); have Ke := Lib.hid (below_keep hb10 K9.out)
    have B10 := below_next (w := w) (by repeat' (first | (with_reducible exact Below.refl _ _) | (with_reducible assumption) | (with_reducible refine below_alloc ?_ _) | (with_reducible refine Below.drew ?_) | (with_reducible refine below_drewN ?_ _) | (with_reducible refine Below.setCell ?_ ?_ _) | go_size)) hb10
    clear hb10 K0 K5 K6 K7 K9 B K0_0 K0_1 K0_2 K0_3 K0_f K0_z
    have K0 := Ka; have K5 := Kb; have K6 := Kc; have K7 := Kd; have K9 := Ke; have B := B10
    clear Ka Kb Kc Kd Ke B10
    obtain ⟨K0_0, K0_1, K0_2, K0_3, K0_f, K0_z⟩ := cells4 K0.out
    go_wp2_with fail
    refine (of2_any a _).mono ?_
    rintro e w11 ⟨bv, rfl, hx, hb11⟩
    have Ka := Lib.hid (below_keep hb11 K0.out); have Kb := Lib.hid (below_keep hb11 K5.out); have Kc := Lib.hid (below_keep hb11 K6.out); have Kd := Lib.hid (below_keep hb11 K7.out); have Ke := Lib.hid (below_keep hb11 K9.out)
    have B11 := below_next B hb11
    have HV := Lib.hid hx
    clear hb11 hx K0 K5 K6 K7 K9 B K0_0 K0_1 K0_2 K0_3 K0_f K0_z
    have K0 := Ka; have K5 := Kb; have K6 := Kc; have K7 := Kd; have K9 := Ke; have B := B11
    clear Ka Kb Kc Kd Ke B11
    have hbl := bitLen_num a HA.out
    have hlt2 := lt_two_bitLen a
    have htop := @top_bit a
    have hzero : bitLen a = 0 ↔ a = 0 := ⟨fun h => by by_cases h0 : a = 0; exact h0; exact absurd h (by have := bitLen_pos h0; omega), fun h => by rw [h]; rfl⟩
    have HBZ := Lib.hid hzero
    have HTOP := Lib.hid htop
    have HLT := Lib.hid hlt2
    clear hzero htop hlt2
    obtain ⟨g, cap, rfl, -, hg, -, -⟩ := HV.out.at 0 (by omega)
    have hcell : ∀ i, i < 256 → w11.cell? ⟨g, i, none⟩ = some (.bool (a.testBit i)) := fun i hi => by
      obtain ⟨g', cap', hgv, -, -, hc, -⟩ := HV.out.at i hi
      simp only [Value.slice.injEq, Option.some.injEq, Addr.mk.injEq, and_true, true_and] at hgv
      obtain ⟨rfl, rfl⟩ := hgv
      exact hc
    have HCELL := Lib.hid hcell
    clear hcell HV
    generalize hk : bitLen a = k at *
    go_wp2_with fail
    go_loopw [13] (fun ix wr => ∃ i : Nat, k ≤ i ∧ i ≤ 256 ∧ ix = .int .i64 i ∧ wr = w11) (fun ix _ => 256 - (intOf ix).toNat)
    case atStart => exact ⟨k, Nat.le_refl _, by omega, rfl, rfl⟩
    case round =>
      obtain ⟨i, hki, hi, rfl, rfl⟩ := hrel
      by_cases hlt : i < 256
      · have hc := HCELL.out i hlt
        rw [bit_out HLT.out hki] at hc
        go_wp2_with fail
        go_roundw
        case rel => exact ⟨i + 1, by omega, by omega, by go_num, by first | rfl | trivial⟩
        case measure => simp [intOf]; omega
      · obtain rfl : i = 256 := by omega
        obtain ⟨K0_0, K0_1, K0_2, K0_3, K0_f, K0_z⟩ := cells4 K0.out
        obtain ⟨K5_0, K5_1, K5_2, K5_3, K5_f, K5_z⟩ := cells4 K5.out
        obtain ⟨K6_0, K6_1, K6_2, K6_3, K6_f, K6_z⟩ := cells4 K6.out
        obtain ⟨K7_0, K7_1, K7_2, K7_3, K7_f, K7_z⟩ := cells4 K7.out
        obtain ⟨K9_0, K9_1, K9_2, K9_3, K9_f, K9_z⟩ := cells4 K9.out
        have qX : ∀ w : World, (Op.equalIn 10000 24 (nv X) (nv X)).run Try.prog w = .ok true w := fun w => by rw [eq_num X X HXL.out HXL.out w, decide_eq_true rfl]
        have qY : ∀ w : World, (Op.equalIn 10000 24 (nv Y) (nv Y)).run Try.prog w = .ok true w := fun w => by rw [eq_num Y Y HYL.out HYL.out w, decide_eq_true rfl]
        have cz := Lib.hid fun w => zero_any a HA.out w
        by_cases ha0 : a = 0
        · have hk0 : k = 0 := HBZ.out.2 ha0
          rw [decide_eq_true ha0] at cz
          subst hk0
          clear ha0 HBZ
          go_wp2_with fail
          refine (cz.out _).mono ?_
          rintro e w12 ⟨rfl, hb12⟩
          have B12 := below_next B hb12
          clear hb12 B
          go_wp2_with fail
          go_ret
          exact ⟨rfl, B12⟩
        · have hk0 : k ≠ 0 := fun h => ha0 (HBZ.out.1 h)
          rw [decide_eq_false ha0] at cz
          have hb1 := HTOP.out ha0
          obtain ⟨k2, rfl⟩ : ∃ k2, k = k2 + 1 := ⟨k - 1, by omega⟩
          rw [show k2 + 1 - 1 = k2 by omega] at hb1
          have hk1 : k2 < 256 := by omega
          have hc := HCELL.out k2 hk1
          rw [hb1] at hc
          have hne0 : ¬ ((k2 : Int) + 1 = 0) := by omega
          clear ha0 hk0 HBZ hb1
          go_wp2_with fail
          refine (cz.out _).mono ?_
          rintro e w12 ⟨rfl, hb12⟩
          have hc2 := (hb12.cell (p := ⟨g, k2, none⟩) hg).trans hc
          have B12 := below_next B hb12
          clear hb12 B
          go_wp2_with fail
          go_ret
          exact ⟨rfl, B12⟩

set_option maxRecDepth 100000 in
theorem NumShifts_lifted (os : Os) (started : os.Started) (H : Type) (enc : TypeId × Value → H) :
    ReturnsInHanded {} Try.checked os 6 .any (Rows.numShiftsSpec.pre6 enc Try.prog Try.f6 Rows.numShiftsRow.domain false) (Rows.numShiftsSpec.post enc Try.prog Try.f6 false true false false) := by
  refine returnsInHanded_of_change (C := Try.checked) own started (by kernel_rfl) Try.func6
    (ChangeSpec.witness6 (enc := enc) (C := Try.checked) false ⟨#[], #[.agg #[.int .u64 0, .int .u64 0, .int .u64 0, .int .u64 0], .int .i64 0], []⟩ 8 (by kernel_rfl) (by kernel_rfl) (by kernel_rfl) (by kernel_rfl)) ?_
  intro W base args ds gs before hval0 hW hcnd _
  have hval : ∀ (j : Nat) t v, Try.f6.params[j]? = some t → args[j]? = some v → Value.okWide Try.prog W .any base t v := hval0
  have hW' := hW
  obtain ⟨p, q, hA0, hV, rfl, hfz, hnd⟩ := hW
  have hA : DataW.TrodAll enc Try.prog W 0 (fun _ => true) true Try.f6.params.toList args.toList ds p := hA0
  rw [Try.params6] at hA hval
  obtain ⟨v0, vs0, d0, ds0, p0, q0, hargs, rfl, rfl, h0, r0⟩ := trodAll_cons hA
  obtain ⟨v1, vs1, d1, ds1, p1, q1, rfl, rfl, rfl, h1, r1⟩ := trodAll_cons r0
  obtain ⟨rfl, rfl, rfl⟩ := trodAll_nil r1
  obtain rfl : args = #[v0, v1] := by cases args; simp_all
  obtain ⟨rfl, rfl⟩ := trodVars_none hV
  have k0 := h0
  have lt0 := trod_lt_of h0
  obtain ⟨a0, b0, rfl⟩ := open_num (hval 0 24 v0 rfl rfl) h0
  have k1 := h1
  have lt1 := trod_lt_of h1
  obtain ⟨a1, rfl, rfl, rfl, b1⟩ := open_int Try.underlying3 (hval 1 3 v1 rfl rfl) h1
  clear hA0 hval0
  refine (NumShifts_walk a0 b0 a1 b1 W).mono fun e W' ⟨he, bel⟩ => ?_
  subst he
  exact ⟨_, rfl, _, _, _, [], _, [], hW', trodAll_mk1 (shut_bool (by kernel_rfl) _), (trodAll_cons_mk (Below.trod laidOut (by kernel_rfl) (of_decide_eq_true (by kernel_rfl)) k0 bel lt0) (trodAll_cons_mk (Below.trod laidOut (by kernel_rfl) (of_decide_eq_true (by kernel_rfl)) k1 bel lt1) trodAll_mk0)), rfl, bel.frame _, fun h => by cases h⟩

theorem NumShifts_closed : joinedFacts Try.prog 6 Try.f6 Rows.numShiftsSpec Rows.numShiftsRow = true := by
  simp only [joinedFacts, Bool.and_eq_true]
  repeat' apply And.intro
  all_goals first
    | (with_reducible exact head_enter)
    | (rw [head_make]; kernel_rfl)
    | (rw [head_lift]; kernel_rfl)
    | kernel_rfl

theorem NumShifts_holds : Rows.NumShiftsSaid :=
  OpenClaim.holds_of_wide 6 Try.f6 rfl rfl rfl rfl rfl rfl rfl ⟨rfl, rfl, rfl, rfl, rfl⟩ rfl rfl rfl rfl rfl (by kernel_rfl) Try.func6 NumShifts_closed
    (of_decide_eq_true (by kernel_rfl)) (by unfold Func.isWrapper; rw [if_neg (of_decide_eq_false (by kernel_rfl))]; exact ⟨rfl, rfl⟩)
    (fun os started H enc _ => NumShifts_lifted os started H enc)
end Go.Proofs.Ytdffblfofdniaaa
