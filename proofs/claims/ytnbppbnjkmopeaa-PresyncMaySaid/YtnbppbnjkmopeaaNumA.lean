/- What num.Of, Zero, Not, Cmp, Sub, Len answer: numbers below 2^256. -/
import Derived.Test.YtnbppbnjkmopeaaNumPlain
import Derived.Test.YtnbppbnjkmopeaaNumLen
namespace Go.Proofs.Ytnbppbnjkmopeaa
open Go.RowKit

set_option maxHeartbeats 400000 in
theorem of_any (n : Int) (w : World) (h0 : 0 ≤ n) (h1 : n < 18446744073709551616) :
    Calls Try.prog 55 #[.int .u64 n] w fun e w' => e = .returned (nv n.toNat) ∧ Below w.heap.size w w' := by
  have H := Lib.hid (of_small h0 h1)
  go_enter Try.func55, Try.ntmps55
  go_wp2
  rw [H.out]
  exact bodyPost_ret (v := .agg #[.int .u64 n, .int .u64 0, .int .u64 0, .int .u64 0]) (by simp [results, Try.results55, go_sem]) rfl ⟨rfl, (by repeat' (first | (with_reducible exact Below.refl _ _) | (with_reducible assumption) | (with_reducible refine Below.alloc ?_ ?_ _) | (with_reducible refine Below.drew ?_) | (with_reducible refine below_drewN ?_ _) | (with_reducible refine Below.setCell ?_ ?_ _) | go_size))⟩

set_option maxRecDepth 100000 in
set_option maxHeartbeats 400000 in
theorem zero_any (a : Nat) (ha : a < 2 ^ 256) (w : World) :
    Calls Try.prog 53 #[nv a] w fun e w' => e = .returned (.bool (decide (a = 0))) ∧ Below w.heap.size w w' := by
  have hq := eq_num0 a ha
  clear ha
  go_enter Try.func53, Try.ntmps53
  go_wp2
  go_ret
  exact ⟨rfl, (by repeat' (first | (with_reducible exact Below.refl _ _) | (with_reducible assumption) | (with_reducible refine Below.alloc ?_ ?_ _) | (with_reducible refine Below.drew ?_) | (with_reducible refine below_drewN ?_ _) | (with_reducible refine Below.setCell ?_ ?_ _) | go_size))⟩

set_option maxHeartbeats 400000 in
theorem not_any (a : Nat) (ha : a < 2 ^ 256) (w : World) :
    Calls Try.prog 95 #[nv a] w fun e w' => e = .returned (nv (2 ^ 256 - 1 - a)) ∧ Below w.heap.size w w' := by
  have H := Lib.hid (not_words a ha)
  have b0 := Lib.hid (not_word _ (lw_0 a 0) (lw_m a 0))
  have b1 := Lib.hid (not_word _ (lw_0 a 1) (lw_m a 1))
  have b2 := Lib.hid (not_word _ (lw_0 a 2) (lw_m a 2))
  have b3 := Lib.hid (not_word _ (lw_0 a 3) (lw_m a 3))
  clear ha
  go_enter Try.func95, Try.ntmps95
  go_wp2
  rw [H.out, b0.out, b1.out, b2.out, b3.out]
  exact bodyPost_ret (v := .agg #[.int .u64 (18446744073709551615 - lw a 0), .int .u64 (18446744073709551615 - lw a 1), .int .u64 (18446744073709551615 - lw a 2), .int .u64 (18446744073709551615 - lw a 3)]) (by simp [results, Try.results95, go_sem]) rfl ⟨rfl, (by repeat' (first | (with_reducible exact Below.refl _ _) | (with_reducible assumption) | (with_reducible refine Below.alloc ?_ ?_ _) | (with_reducible refine Below.drew ?_) | (with_reducible refine below_drewN ?_ _) | (with_reducible refine Below.setCell ?_ ?_ _) | go_size))⟩

theorem ret_i64 {a b : Int} (h : a = b) : Ending.returned (.int .i64 a) = .returned (.int .i64 b) := by rw [h]

set_option maxRecDepth 100000 in
set_option maxHeartbeats 400000 in
theorem cmp_any (a b : Nat) (ha : a < 2 ^ 256) (hb : b < 2 ^ 256) (w : World) :
    Calls Try.prog 29 #[nv a, nv b] w fun e w' => e = .returned (.int .i64 (cmpn a b)) ∧ Below w.heap.size w w' := by
  rw [← cmp_words a b ha hb]
  clear ha hb
  go_enter Try.func29, Try.ntmps29
  go_wp2
  refine wp_loop_rounds 5 ?_
  repeat any_goals (first | (rw [rounds_succ]; go_wp2) | (go_quiet (fail); go_wp2))
  all_goals go_ret
  all_goals refine ⟨ret_i64 ?_, (by repeat' (first | (with_reducible exact Below.refl _ _) | (with_reducible assumption) | (with_reducible refine Below.alloc ?_ ?_ _) | (with_reducible refine Below.drew ?_) | (with_reducible refine below_drewN ?_ _) | (with_reducible refine Below.setCell ?_ ?_ _) | go_size))⟩
  all_goals (simp only [bne_iff_ne, ne_eq, bne_eq_false_iff_eq] at *)
  all_goals (unfold cmp4; repeat (first | rw [if_pos (by omega)] | rw [if_neg (by omega)]))

set_option maxRecDepth 100000 in
set_option maxHeartbeats 1000000 in
theorem sub_any (a b : Nat) (ha : a < 2 ^ 256) (hb : b < 2 ^ 256) (w : World) :
    Calls Try.prog 59 #[nv a, nv b] w fun e w' =>
      e = .returned (.tuple #[nv ((a + 2 ^ 256 - b) % 2 ^ 256), .bool (decide (a < b))]) ∧ Below w.heap.size w w' := by
  have H1 := Lib.hid (sub_words a b ha hb).1
  have H2 := Lib.hid (sub_words a b ha hb).2
  clear ha hb
  have hs := call_sub
  have s0 := subc_0
  have s1 := subc_1
  have x0 := lw_0
  have x1 := lw_m
  go_enter Try.func59, Try.ntmps59
  go_wp2
  refine wp_loop_rounds 5 ?_
  rw [rounds_succ]; go_wp2
  go_region; go_wp2
  rw [rounds_succ]; go_wp2
  go_region; go_wp2
  rw [rounds_succ]; go_wp2
  go_region; go_wp2
  rw [rounds_succ]; go_wp2
  go_region; go_wp2
  rw [rounds_succ]; go_wp2
  rw [H1.out, ← H2.out]
  exact bodyPost_ret (v := .tuple #[.agg #[.int .u64 (subw (lw a 0) (lw b 0) 0), .int .u64 (subw (lw a 1) (lw b 1) (subc (lw a 0) (lw b 0) 0)), .int .u64 (subw (lw a 2) (lw b 2) (subc (lw a 1) (lw b 1) (subc (lw a 0) (lw b 0) 0))), .int .u64 (subw (lw a 3) (lw b 3) (subc (lw a 2) (lw b 2) (subc (lw a 1) (lw b 1) (subc (lw a 0) (lw b 0) 0))))], .bool (subc (lw a 3) (lw b 3) (subc (lw a 2) (lw b 2) (subc (lw a 1) (lw b 1) (subc (lw a 0) (lw b 0) 0))) != 0)])
    (by simp [results, Try.results59, go_sem]) rfl ⟨rfl, (by repeat' (first | (with_reducible exact Below.refl _ _) | (with_reducible assumption) | (with_reducible refine Below.alloc ?_ ?_ _) | (with_reducible refine Below.drew ?_) | (with_reducible refine below_drewN ?_ _) | (with_reducible refine Below.setCell ?_ ?_ _) | go_size))⟩
theorem len64_any (x : Int) (w : World) (h0 : 0 ≤ x) (h1 : x < 18446744073709551616) :
    Calls Try.prog 99 #[.int .u64 x] w fun e w' => e = .returned (.int .i64 (bitLen x.toNat)) ∧ w = w' := by
  rw [← libLen x.toNat (by omega)]
  exact (len64_lib x w h0 (by omega)).mono fun _ _ h => ⟨h.1, h.2.symm⟩

theorem bitLen_word (a i : Nat) : (bitLen (lw a i).toNat : Int) ≤ 64 := by
  have h := lw_m a i
  have h0 := lw_0 a i
  unfold bitLen
  split
  · simp
  · rename_i hne
    have := (Nat.log2_lt hne).2 (show (lw a i).toNat < 2 ^ 64 by omega)
    omega

set_option maxRecDepth 100000 in
set_option maxHeartbeats 400000 in
theorem len_any (a : Nat) (ha : a < 2 ^ 256) (w : World) :
    Calls Try.prog 54 #[nv a] w fun e w' => e = .returned (.int .i64 (bitLen a)) ∧ Below w.heap.size w w' := by
  obtain ⟨l3, l2, l1, l0⟩ := len_words a ha
  have L3 := Lib.hid l3; have L2 := Lib.hid l2; have L1 := Lib.hid l1; have L0 := Lib.hid l0
  clear l3 l2 l1 l0 ha
  have x0 := lw_0
  have x1 := lw_m
  have b3 := bitLen_word a 3; have b2 := bitLen_word a 2; have b1 := bitLen_word a 1; have b0 := bitLen_word a 0
  go_enter Try.func54, Try.ntmps54
  go_wp2
  refine wp_loop_rounds 5 ?_
  repeat any_goals (first | (rw [rounds_succ]; go_wp2_with fail) | (refine (len64_any _ _ (x0 _ _) (x1 _ _)).mono ?_; rintro e w' ⟨rfl, rfl⟩; go_wp2_with fail))
  all_goals go_ret
  all_goals refine ⟨ret_i64 ?_, (by repeat' (first | (with_reducible exact Below.refl _ _) | (with_reducible assumption) | (with_reducible refine Below.alloc ?_ ?_ _) | (with_reducible refine Below.drew ?_) | (with_reducible refine below_drewN ?_ _) | (with_reducible refine Below.setCell ?_ ?_ _) | go_size))⟩
  all_goals (simp only [bne_iff_ne, ne_eq, bne_eq_false_iff_eq] at *)
  · rw [L3.out (by assumption)]; omega
  · rw [L2.out (by assumption) (by assumption)]; omega
  · rw [L1.out (by assumption) (by assumption) (by assumption)]; omega
  · rw [L0.out (by assumption) (by assumption) (by assumption)]
  · rw [L0.out (by assumption) (by assumption) (by assumption), show lw a 0 = 0 by assumption]; rfl
end Go.Proofs.Ytnbppbnjkmopeaa
