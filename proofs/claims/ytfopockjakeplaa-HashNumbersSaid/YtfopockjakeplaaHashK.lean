/- law01: what is known ahead. No condition. -/
import Derived.Test.YtfopockjakeplaaHash2
import Derived.Test.YtfopockjakeplaaOpenBytes
namespace Go.Proofs.Ytfopockjakeplaa
open Go.RowKit

set_option maxRecDepth 100000 in
set_option maxHeartbeats 1000000 in
theorem known_any (w : World) : Calls Try.prog 16 #[] w fun e w' => e = .returned (.bool true) ∧ Below w.heap.size w w' := by
  have B : Below w.heap.size w w := Below.refl _ _
  have kc := fun (w : World) (C : Array Value) (n c : Nat) => Lib.run_convert_bytes_const (P := Try.prog) w 22 5 C n c underlying_u8s underlying_u8
  have c1 := Lib.hid fun (W : World) g fr (h : W.heap[w.heap.size]? = some (.cells #[.int .u8 97, .int .u8 98, .int .u8 99] 5 fr)) (hg : W.heap.size = g) => sum_one (.slice (some ⟨w.heap.size, 0, none⟩) 3 3) [97, 98, 99] g 22 1 (W.alloc (.cells #[.slice (some ⟨w.heap.size, 0, none⟩) 3 3] 22 (0, 0))) (by rw [← hg]; exact heap_new _ _) ((bytes_three W 97 98 99 _ _ _ h).keep (below_alloc (Below.refl _ _) _)) (by simp) (by simp)
  have i1 : ∀ w, (Instr.index 25 (iv (sha [97, 98, 99])) (.int .i64 0)).run Try.prog w = .ok (.int .u8 186) w := ix_id (n := sha [97, 98, 99]) (show 0 < 32 by omega) sha_abc
  have i2 : ∀ w, (Instr.index 25 (iv (sha [])) (.int .i64 31)).run Try.prog w = .ok (.int .u8 85) w := ix_id (n := sha []) (show 31 < 32 by omega) sha_nil
  have i3 : ∀ w, (Instr.index 25 (iv (tw [])) (.int .i64 0)).run Try.prog w = .ok (.int .u8 93) w := ix_id (n := tw []) (show 0 < 32 by omega) tw_nil
  have c2 := Lib.hid sum_none; have c3 := Lib.hid twice_none
  generalize sha [97, 98, 99] = X1 at *
  generalize sha [] = X2 at *
  generalize tw [] = X3 at *
  go_enter Try.func16, Try.ntmps16
  go_wp2_with fail
  refine (c1.out _ _ _ (heap_new w _) (by simp)).mono ?_
  rintro e w1 ⟨rfl, hb1⟩
  have B1 := below_next (w := w) (by repeat' (first | (with_reducible exact Below.refl _ _) | (with_reducible assumption) | (with_reducible refine below_alloc ?_ _) | (with_reducible refine Below.drew ?_) | (with_reducible refine below_drewN ?_ _) | (with_reducible refine Below.setCell ?_ ?_ _) | go_size)) hb1
  clear hb1 B c1 kc
  go_wp2_with fail
  refine (c2.out _ _ _).mono ?_
  rintro e w2 ⟨rfl, hb2⟩
  have B2 := below_next (w := w) B1 hb2
  clear hb2 B1 c2
  go_wp2_with fail
  refine (c3.out _ _ _).mono ?_
  rintro e w3 ⟨rfl, hb3⟩
  have B3 := below_next (w := w) B2 hb3
  clear hb3 B2 c3
  go_wp2_with fail
  go_ret
  exact ⟨rfl, B3⟩
end Go.Proofs.Ytfopockjakeplaa
