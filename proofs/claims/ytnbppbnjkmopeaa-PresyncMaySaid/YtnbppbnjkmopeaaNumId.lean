/- FromID and ID: a number's bytes. No condition. -/
import Derived.Test.YtnbppbnjkmopeaaIdPlain
import Derived.Test.YtnbppbnjkmopeaaMem
import Derived.Handy
namespace Go.Proofs.Ytnbppbnjkmopeaa
open Go.ChangeShapes Go.WideShapes Go.ChangeAt Go.RowKit

attribute [local irreducible] ids
set_option maxRecDepth 100000 in
set_option maxHeartbeats 1000000 in
theorem fromid_any (n : Nat) (hn : n < 2 ^ 256) (w : World) :
    Calls Try.prog 51 #[iv n] w fun e w' => e = .returned (nv n) ∧ Below w.heap.size w w' := by
  have HN := Lib.hid hn; clear hn
  have K0 := Lib.hid (keep_alloc zblk (keep_alloc zblk (heap_new w (iblk n))))
  have ei : Obj.cells (ids n).toArray 24 (0, 0) = iblk n := rfl
  show Calls Try.prog 51 #[.agg (ids n).toArray] w _
  go_enter Try.func51, Try.ntmps51
  go_wp2_with (refine wpList_load_id rfl (.tmp 1) rfl w.heap.size n rfl K0.out ?_)
  go_loopg [7] 32 (fun g ix wr => ∃ k : Nat, g = 32 - k ∧ k ≤ 32 ∧ ix = .int .i64 k ∧ wr.heap[w.heap.size + 1]? = some zblk ∧ wr.heap[w.heap.size + 1 + 1]? = some (nblk (n % 2 ^ (8 * k))) ∧ Below w.heap.size w wr)
  case atStart =>
    have A := alloc3 w (iblk n) zblk zblk
    refine ⟨0, rfl, by omega, rfl, A.2.1, ?_, (by repeat' (first | (with_reducible exact Below.refl _ _) | (with_reducible assumption) | (with_reducible refine below_alloc ?_ _) | (with_reducible refine Below.drew ?_) | (with_reducible refine below_drewN ?_ _) | (with_reducible refine Below.setCell ?_ ?_ _) | go_size))⟩
    rw [Nat.mul_zero, Nat.pow_zero, Nat.mod_one]
    exact A.2.2
  case round =>
    obtain ⟨k, hg, hk, rfl, hr1, hr2, B⟩ := hrel
    have HG := Lib.hid hg; have K1 := Lib.hid hr1; have K2 := Lib.hid hr2
    clear hg hr1 hr2 K0
    by_cases hlt : k < 32
    · have hj : k / 8 < 4 := by omega
      have hc := cell_at K2.out hj
      have hf : ∀ j, wr.frozen? ⟨w.heap.size + 1 + 1, j, none⟩ = false := (cells4 K2.out).2.2.2.2.1
      have e1 : Int.tdiv (k : Int) 8 = ((k / 8 : Nat) : Int) := by rw [Int.tdiv_eq_ediv_of_nonneg (by omega)]; omega
      have e2 : Int.tmod (k : Int) 8 = ((k % 8 : Nat) : Int) := by rw [Int.tmod_eq_emod_of_nonneg (by omega)]; omega
      have hib : ∀ W, (Instr.index 24 (.agg (ids n).toArray) (.int .i64 (k : Int))).run Try.prog W = .ok (.int .u8 (lb n k)) W := run_index_id n k hlt
      have hiv : iv n = .agg (ids n).toArray := rfl
      have hb0 := lb_0 n k
      have hb1 := lb_m n k
      rw [hiv]
      go_wp2_with fail
      go_roundg (32 - (k + 1))
      case measure => have := HG.out; omega
      case rel => exact ⟨k + 1, rfl, by omega, by go_num, (heap_setCell_other _ _ _ _ (show w.heap.size + 1 ≠ w.heap.size + 1 + 1 by omega)).trans K1.out, from_step n k hlt K2.out, (by repeat' (first | (with_reducible exact Below.refl _ _) | (with_reducible assumption) | (with_reducible refine below_alloc ?_ _) | (with_reducible refine Below.drew ?_) | (with_reducible refine below_drewN ?_ _) | (with_reducible refine Below.setCell ?_ ?_ _) | go_size))⟩
    · obtain rfl : k = 32 := by omega
      have hm : n % 2 ^ (8 * 32) = n := Nat.mod_eq_of_lt HN.out
      rw [hm] at K2
      clear hm
      obtain ⟨c0, c1, c2, c3, cf, cz⟩ := cells4 K2.out
      obtain ⟨r0, r1, r2, r3, rf, rz⟩ := cells4 K1.out
      go_wp2_with fail
      exact bodyPost_ret (v := nv n) (by simp [results, Try.results51, go_sem, r0, r1, r2, r3]) rfl ⟨rfl, (by repeat' (first | (with_reducible exact Below.refl _ _) | (with_reducible assumption) | (with_reducible refine below_alloc ?_ _) | (with_reducible refine Below.drew ?_) | (with_reducible refine below_drewN ?_ _) | (with_reducible refine Below.setCell ?_ ?_ _) | go_size))⟩

set_option maxRecDepth 100000 in
set_option maxHeartbeats 1000000 in
theorem id_any (n : Nat) (hn : n < 2 ^ 256) (w : World) :
    Calls Try.prog 57 #[nv n] w fun e w' => e = .returned (iv n) ∧ Below w.heap.size w w' := by
  have HN := Lib.hid hn; clear hn
  have K0 := Lib.hid (keep_alloc (iblk 0) (keep_alloc (iblk 0) (heap_new w (nblk n))))
  have ei : Obj.cells (Array.replicate 32 (.int .u8 0)) 24 (0, 0) = iblk 0 := iblk_zero.symm
  go_enter Try.func57, Try.ntmps57
  go_wp2_with fail
  rw [iblk_lit]
  go_loopg [5] 32 (fun g ix wr => ∃ k : Nat, g = 32 - k ∧ k ≤ 32 ∧ ix = .int .i64 k ∧ wr.heap[w.heap.size]? = some (nblk n) ∧ wr.heap[w.heap.size + 1]? = some (iblk 0) ∧ wr.heap[w.heap.size + 1 + 1]? = some (iblk (n % 2 ^ (8 * k))) ∧ Below w.heap.size w wr)
  case atStart =>
    have A := alloc3 w (nblk n) (iblk 0) (iblk 0)
    refine ⟨0, rfl, by omega, rfl, A.1, A.2.1, ?_, (by repeat' (first | (with_reducible exact Below.refl _ _) | (with_reducible assumption) | (with_reducible refine below_alloc ?_ _) | (with_reducible refine Below.drew ?_) | (with_reducible refine below_drewN ?_ _) | (with_reducible refine Below.setCell ?_ ?_ _) | go_size))⟩
    rw [Nat.mul_zero, Nat.pow_zero, Nat.mod_one]
    exact A.2.2
  case round =>
    obtain ⟨k, hg, hk, rfl, hr0, hr1, hr2, B⟩ := hrel
    have HG := Lib.hid hg; have K1 := Lib.hid hr0; have K2 := Lib.hid hr1; have K3 := Lib.hid hr2
    clear hg hr0 hr1 hr2 K0
    by_cases hlt : k < 32
    · have hj : k / 8 < 4 := by omega
      have hc := cell_at K1.out hj
      have hi := id_cell K3.out k hlt
      have hf : ∀ j, wr.frozen? ⟨w.heap.size + 1 + 1, j, none⟩ = false := fun j => frozen_of_row _ _ _ _ _ K3.out
      have e1 : Int.tdiv (k : Int) 8 = ((k / 8 : Nat) : Int) := by rw [Int.tdiv_eq_ediv_of_nonneg (by omega)]; omega
      have e2 : Int.tmod (k : Int) 8 = ((k % 8 : Nat) : Int) := by rw [Int.tmod_eq_emod_of_nonneg (by omega)]; omega
      go_wp2_with fail
      rw [id_byteI]
      go_roundg (32 - (k + 1))
      case measure => have := HG.out; omega
      case rel => exact ⟨k + 1, rfl, by omega, by go_num, (heap_setCell_other _ _ _ _ (show w.heap.size ≠ w.heap.size + 1 + 1 by omega)).trans K1.out, (heap_setCell_other _ _ _ _ (show w.heap.size + 1 ≠ w.heap.size + 1 + 1 by omega)).trans K2.out, id_step n k K3.out, (by repeat' (first | (with_reducible exact Below.refl _ _) | (with_reducible assumption) | (with_reducible refine below_alloc ?_ _) | (with_reducible refine Below.drew ?_) | (with_reducible refine below_drewN ?_ _) | (with_reducible refine Below.setCell ?_ ?_ _) | go_size))⟩
    · obtain rfl : k = 32 := by omega
      have hm : n % 2 ^ (8 * 32) = n := Nat.mod_eq_of_lt HN.out
      rw [hm] at K3
      clear hm
      go_wp2_with (first | refine wpList_load_id rfl (.tmp 3) rfl (w.heap.size + 1 + 1) n rfl K3.out ?_ | refine wpList_store_id rfl (.tmp 2) (.tmp 21) rfl (w.heap.size + 1) 0 n rfl rfl K2.out (fun w' h1 h2 h3 h4 => ?_))
      have hl := loadVar_id h1
      exact bodyPost_ret (v := iv n) (by simp [results, Try.results57, Act.put, asAddr, hl]) rfl ⟨rfl, h4 _ _ (by omega) B⟩
end Go.Proofs.Ytnbppbnjkmopeaa
