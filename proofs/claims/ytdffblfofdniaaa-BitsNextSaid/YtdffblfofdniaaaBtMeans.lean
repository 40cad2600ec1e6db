/- The head of the laws of package bits: the easiest target of tests. No condition. -/
import Derived.Test.YtdffblfofdniaaaBtRound
import Derived.Test.YtdffblfofdniaaaBtTarget
namespace Go.Proofs.Ytdffblfofdniaaa
open Go.RowKit

theorem cmpn_le {a b : Nat} : cmpn a b ≤ 0 ↔ a ≤ b := by unfold cmpn; split <;> (try split) <;> constructor <;> intro h <;> omega
theorem cmpn_ge {a b : Nat} : 0 ≤ cmpn a b ↔ b ≤ a := by unfold cmpn; split <;> (try split) <;> constructor <;> intro h <;> omega
theorem cmpn_pos {a b : Nat} : 0 < cmpn a b ↔ b < a := by unfold cmpn; split <;> (try split) <;> constructor <;> intro h <;> omega
theorem means_facts : ∃ T, T < 2 ^ 256 ∧ tgt 545259519 = (T, true) ∧ bitLen T = 255 ∧ sht T = 545259519 ∧ wrk T = 2 :=
  ⟨8388607 * 2 ^ 232, by decide, by kernel_rfl, by kernel_rfl, by kernel_rfl, by kernel_rfl⟩

set_option maxRecDepth 100000 in
set_option maxHeartbeats 1000000 in
theorem means_any (w : World) : Calls Try.prog 43 #[] w fun e w' => e = .returned (.bool true) ∧ Below w.heap.size w w' := by
  obtain ⟨T, hT, h1, h2, h3, h4⟩ := means_facts
  have B : Below w.heap.size w w := Below.refl _ _
  have ct := Lib.hid fun w => target_any 545259519 (by omega) w
  have cl := Lib.hid fun w => len_any T hT w
  have cs := Lib.hid fun w => short_any T hT w
  have cw := Lib.hid fun w => work_any T hT w
  have co := Lib.hid fun w => of_nat 2 w (by omega)
  rw [h1] at ct
  rw [h2] at cl
  rw [h3] at cs
  rw [h4] at cw
  have q2 : ∀ w : World, (Op.equalIn 10000 24 (nv 2) (nv 2)).run Try.prog w = .ok true w := fun w => by rw [eq_num 2 2 (by omega) (by omega) w, decide_eq_true rfl]
  clear h1 h2 h3 h4 hT
  go_enter Try.func43, Try.ntmps43
  go_wp2_with fail
  refine (ct.out _).mono ?_
  rintro e w1 ⟨rfl, hb⟩
  have B1 := below_next (w := w) (by repeat' (first | (with_reducible exact Below.refl _ _) | (with_reducible assumption) | (with_reducible refine below_alloc ?_ _) | (with_reducible refine Below.drew ?_) | (with_reducible refine below_drewN ?_ _) | (with_reducible refine Below.setCell ?_ ?_ _) | go_size)) hb
  clear hb B ct
  have K0 := Lib.hid (heap_new w1 (nblk T))
  have B := B1; clear B1
  go_wp2_with fail
  refine (cl.out _).mono ?_
  rintro e w2 ⟨rfl, hb⟩
  have K0' := Lib.hid (below_keep hb K0.out)
  have B1 := below_next (w := w) (by repeat' (first | (with_reducible exact Below.refl _ _) | (with_reducible assumption) | (with_reducible refine below_alloc ?_ _) | (with_reducible refine Below.drew ?_) | (with_reducible refine below_drewN ?_ _) | (with_reducible refine Below.setCell ?_ ?_ _) | go_size)) hb
  clear hb B cl K0
  have B := B1; have K0 := K0'; clear B1 K0'
  obtain ⟨K0_0, K0_1, K0_2, K0_3, K0_f, K0_z⟩ := cells4 K0.out
  go_wp2_with fail
  refine (cs.out _).mono ?_
  rintro e w3 ⟨rfl, hb⟩
  have K0' := Lib.hid (below_keep hb K0.out)
  have B1 := below_next (w := w) (by repeat' (first | (with_reducible exact Below.refl _ _) | (with_reducible assumption) | (with_reducible refine below_alloc ?_ _) | (with_reducible refine Below.drew ?_) | (with_reducible refine below_drewN ?_ _) | (with_reducible refine Below.setCell ?_ ?_ _) | go_size)) hb
  clear hb B cs K0 K0_0 K0_1 K0_2 K0_3 K0_f K0_z
  have B := B1; have K0 := K0'; clear B1 K0'
  obtain ⟨K0_0, K0_1, K0_2, K0_3, K0_f, K0_z⟩ := cells4 K0.out
  go_wp2_with fail
  refine (cw.out _).mono ?_
  rintro e w4 ⟨rfl, hb⟩
  have B1 := below_next (w := w) (by repeat' (first | (with_reducible exact Below.refl _ _) | (with_reducible assumption) | (with_reducible refine below_alloc ?_ _) | (with_reducible refine Below.drew ?_) | (with_reducible refine below_drewN ?_ _) | (with_reducible refine Below.setCell ?_ ?_ _) | go_size)) hb
  clear hb B cw K0 K0_0 K0_1 K0_2 K0_3 K0_f K0_z
  have B := B1; clear B1
  go_wp2_with fail
  refine (co.out _).mono ?_
  rintro e w5 ⟨rfl, hb⟩
  have B1 := below_next (w := w) (by repeat' (first | (with_reducible exact Below.refl _ _) | (with_reducible assumption) | (with_reducible refine below_alloc ?_ _) | (with_reducible refine Below.drew ?_) | (with_reducible refine below_drewN ?_ _) | (with_reducible refine Below.setCell ?_ ?_ _) | go_size)) hb
  clear hb B co
  have B := B1; clear B1
  go_wp2_with fail
  go_ret
  exact ⟨rfl, (by repeat' (first | (with_reducible exact Below.refl _ _) | (with_reducible assumption) | (with_reducible refine below_alloc ?_ _) | (with_reducible refine Below.drew ?_) | (with_reducible refine below_drewN ?_ _) | (with_reducible refine Below.setCell ?_ ?_ _) | go_size))⟩
end Go.Proofs.Ytdffblfofdniaaa
