/- The heads of the laws of package num: num.Add of two, counts. -/
import Derived.Test.YtdffblfofdniaaaNumDiv
import Derived.Test.YtdffblfofdniaaaNumMul
namespace Go.Proofs.Ytdffblfofdniaaa
open Go.RowKit

/-- the sum of two numbers in a new row -/
theorem add2_any (a b : Nat) (ha : a < 2 ^ 256) (hb : b < 2 ^ 256) (g : Nat) (t : TypeId) (w : World)
    (h : w.heap[g]? = some (.cells #[.int .u64 (lw a 0), .int .u64 (lw a 1), .int .u64 (lw a 2), .int .u64 (lw a 3), .int .u64 (lw b 0), .int .u64 (lw b 1), .int .u64 (lw b 2), .int .u64 (lw b 3)] t (0, 0))) :
    Calls Try.prog 21 #[.slice (some ⟨g, 0, none⟩) 2 2] w fun e w' => e = .returned (.tuple #[nv ((a + b) % 2 ^ 256), .bool (decide (2 ^ 256 ≤ a + b))]) ∧ Below w.heap.size w w' := by
  have hr := add_row [a, b] g 0 2 w (by intro x hx; simp at hx; rcases hx with rfl | rfl <;> assumption) (by simp) (block_lt h) (by
    intro i hi j hj
    have hi' : i = 0 ∨ i = 1 := by simp at hi; omega
    have hj' : j = 0 ∨ j = 1 ∨ j = 2 ∨ j = 3 := by omega
    rw [cell_of_row _ _ _ _ _ _ h]
    rcases hi' with rfl | rfl <;> rcases hj' with rfl | rfl | rfl | rfl <;> rfl)
  have e : addAll [a, b] = ((a + b) % 2 ^ 256, decide (2 ^ 256 ≤ a + b)) := by
    simp only [addAll, addStep, List.foldl_cons, List.foldl_nil, Nat.zero_add, Nat.mod_eq_of_lt ha]
    congr 1
    simp; omega
  rw [e] at hr
  exact hr

theorem of_nat (n : Nat) (w : World) (h : n < 18446744073709551616) : Calls Try.prog 37 #[.int .u64 (n : Int)] w fun e w' => e = .returned (nv n) ∧ Below w.heap.size w w' := by
  have := of_any n w (by omega) (by omega)
  simpa using this

set_option maxRecDepth 100000 in
set_option maxHeartbeats 1000000 in
theorem counts_any (w : World) : Calls Try.prog 20 #[] w fun e w' => e = .returned (.bool true) ∧ Below w.heap.size w w' := by
  have B0 : Below w.heap.size w w := Below.refl _ _
  go_enter Try.func20, Try.ntmps20
  go_wp2_with fail
  refine (of_nat 3 _ (by omega)).mono ?_
  rintro e w1 ⟨rfl, hb⟩
  have B1 := below_next B0 hb; clear hb B0
  go_wp2_with fail
  refine (of_nat 4 _ (by omega)).mono ?_
  rintro e w2 ⟨rfl, hb⟩
  have B2 := below_next B1 hb; clear hb B1
  go_wp2_with fail
  refine (add2_any 3 4 (by omega) (by omega) _ _ _ (heap_new _ _)).mono ?_
  rintro e w3 ⟨rfl, hb⟩
  have B3 := below_next (w := w) (by repeat' (first | (with_reducible exact Below.refl _ _) | (with_reducible assumption) | (with_reducible refine below_alloc ?_ _) | (with_reducible refine Below.drew ?_) | (with_reducible refine below_drewN ?_ _) | (with_reducible refine Below.setCell ?_ ?_ _) | go_size)) hb; clear hb B2
  rw [show (3 + 4) % 2 ^ 256 = 7 from rfl, show decide (2 ^ 256 ≤ 3 + 4) = false from rfl]
  go_wp2_with fail
  refine (of_nat 17 _ (by omega)).mono ?_
  rintro e w4 ⟨rfl, hb⟩
  have K4 := Lib.hid (below_keep hb (heap_new w3 _))
  have z4 := hb.size
  have B4 := below_next (w := w) (by repeat' (first | (with_reducible exact Below.refl _ _) | (with_reducible assumption) | (with_reducible refine below_alloc ?_ _) | (with_reducible refine Below.drew ?_) | (with_reducible refine below_drewN ?_ _) | (with_reducible refine Below.setCell ?_ ?_ _) | go_size)) hb; clear hb B3
  go_wp2_with fail
  refine (of_nat 5 _ (by omega)).mono ?_
  rintro e w5 ⟨rfl, hb⟩
  have K5 := Lib.hid (below_keep hb K4.out); clear K4
  have B5 := below_next (w := w) (by repeat' (first | (with_reducible exact Below.refl _ _) | (with_reducible assumption) | (with_reducible refine below_alloc ?_ _) | (with_reducible refine Below.drew ?_) | (with_reducible refine below_drewN ?_ _) | (with_reducible refine Below.setCell ?_ ?_ _) | go_size)) hb; clear hb B4
  go_wp2_with fail
  refine (div_any 17 5 (by omega) (by omega) _).mono ?_
  rintro e w6 ⟨rfl, hb⟩
  have K6 := Lib.hid (below_keep hb K5.out); clear K5
  have B6 := below_next (w := w) (by repeat' (first | (with_reducible exact Below.refl _ _) | (with_reducible assumption) | (with_reducible refine below_alloc ?_ _) | (with_reducible refine Below.drew ?_) | (with_reducible refine below_drewN ?_ _) | (with_reducible refine Below.setCell ?_ ?_ _) | go_size)) hb; clear hb B5
  rw [if_neg (by omega), if_neg (by omega), if_neg (by omega), show 17 / 5 = 3 from rfl, show 17 % 5 = 2 from rfl]
  go_wp2_with fail
  have A2 := alloc2 w6 (nblk 3) (nblk 2)
  refine wp_abs (fun W => W.heap[w3.heap.size]? = some (nblk 7) ∧ W.heap[w6.heap.size]? = some (nblk 3) ∧ W.heap[w6.heap.size + 1]? = some (nblk 2) ∧ Below w.heap.size w W)
    ⟨(Below.heap_alloc _ _ _ (by have := block_lt K6.out; simp; omega)).trans ((Below.heap_alloc _ _ _ (block_lt K6.out)).trans K6.out), A2.1, A2.2, (by repeat' (first | (with_reducible exact Below.refl _ _) | (with_reducible assumption) | (with_reducible refine below_alloc ?_ _) | (with_reducible refine Below.drew ?_) | (with_reducible refine below_drewN ?_ _) | (with_reducible refine Below.setCell ?_ ?_ _) | go_size))⟩ ?_
  rintro W ⟨k1, k3, k4, B7⟩
  generalize w3.heap.size = p1 at *
  generalize w6.heap.size = p3 at *
  obtain ⟨c0, c1, c2, c3, cf, cz⟩ := cells4 k1
  obtain ⟨d0, d1, d2, d3, df, dz⟩ := cells4 k3
  obtain ⟨e0, e1, e2, e3, ef, ez⟩ := cells4 k4
  have C0 := cell_regrown c0; have C1 := cell_regrown c1; have C2 := cell_regrown c2; have C3 := cell_regrown c3
  have D0 := cell_regrown d0; have D1 := cell_regrown d1; have D2 := cell_regrown d2; have D3 := cell_regrown d3
  have E0 := cell_regrown e0; have E1 := cell_regrown e1; have E2 := cell_regrown e2; have E3 := cell_regrown e3
  have q7 := eq_num 7 7 (by omega) (by omega)
  have q3 := eq_num 3 3 (by omega) (by omega)
  have q2 := eq_num 2 2 (by omega) (by omega)
  have hcm : cmpn 1 2 = -1 := rfl
  have hl : bitLen 8 = 4 := by decide
  clear k1 k3 k4 K6 A2 B6 z4 c0 c1 c2 c3 cf cz d0 d1 d2 d3 df dz e0 e1 e2 e3 ef ez
  refine wp_region_quiet_below (by kernel_rfl) (by kernel_rfl) ?_
  repeat (go_big_quiet_step (first | (go_at_call 37; exact Calls.regrown_of (of_any _ _ (by omega) (by omega))) | (go_at_call 26; exact Calls.regrown_of (cmp_any _ _ (by decide) (by decide) _)) | (go_at_call 34; exact Calls.regrown_of (len_any _ (by decide) _))))
  refine wpQuiet_nil ?_
  intro W2 hW2
  have hb2 := below_of_regrown hW2
  clear hW2
  go_wp2_with fail
  go_ret
  exact ⟨rfl, below_next B7 hb2⟩
end Go.Proofs.Ytdffblfofdniaaa
