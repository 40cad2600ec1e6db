/- tallystickref02.at, Of: bits of a number. No condition. -/
import Derived.Test.YtdffblfofdniaaaRefBase
namespace Go.Proofs.Ytdffblfofdniaaa
open Go.RowKit

theorem bit_out {n L i : Nat} (h : n < 2 ^ L) (hi : L ≤ i) : n.testBit i = false := Nat.testBit_lt_two_pow (Nat.lt_of_lt_of_le h (Nat.pow_le_pow_right (by omega) hi))

set_option maxRecDepth 100000 in
set_option maxHeartbeats 1000000 in
theorem at_any (base : Nat) (v : Value) (n L : Nat) (hn : n < 2 ^ L) (i : Int) (w : World) (h : BitsIs w base v n L) :
    Calls Try.prog 59 #[v, .int .i64 i] w fun e w' => e = .returned (.bool (decide (0 ≤ i) && n.testBit i.toNat)) ∧ Below w.heap.size w w' := by
  by_cases h0 : i < 0
  · obtain ⟨x, cap, rfl⟩ := h.shape
    rw [decide_eq_false (by omega), Bool.false_and]
    clear h hn
    go_enter Try.func59, Try.ntmps59
    go_wp2_with fail
    go_ret
    exact ⟨rfl, (by repeat' (first | (with_reducible exact Below.refl _ _) | (with_reducible assumption) | (with_reducible refine below_alloc ?_ _) | (with_reducible refine Below.drew ?_) | (with_reducible refine below_drewN ?_ _) | (with_reducible refine Below.setCell ?_ ?_ _) | go_size))⟩
  · obtain ⟨k, rfl⟩ := Int.eq_ofNat_of_zero_le (show 0 ≤ i by omega)
    rw [decide_eq_true (by omega), Bool.true_and, Int.toNat_natCast]
    by_cases hk : k < L
    · obtain ⟨g, cap, rfl, hb, hg, hc, hf⟩ := h.at k hk
      have hk' : (k : Int) < (L : Int) := by omega
      clear h hn h0
      generalize n.testBit k = b at *
      go_enter Try.func59, Try.ntmps59
      go_wp2_with fail
      go_ret
      exact ⟨rfl, (by repeat' (first | (with_reducible exact Below.refl _ _) | (with_reducible assumption) | (with_reducible refine below_alloc ?_ _) | (with_reducible refine Below.drew ?_) | (with_reducible refine below_drewN ?_ _) | (with_reducible refine Below.setCell ?_ ?_ _) | go_size))⟩
    · obtain ⟨x, cap, rfl⟩ := h.shape
      have hk' : ¬ (k : Int) < (L : Int) := by omega
      rw [bit_out hn (by omega)]
      clear h hn h0
      go_enter Try.func59, Try.ntmps59
      go_wp2_with fail
      go_ret
      exact ⟨rfl, (by repeat' (first | (with_reducible exact Below.refl _ _) | (with_reducible assumption) | (with_reducible refine below_alloc ?_ _) | (with_reducible refine Below.drew ?_) | (with_reducible refine below_drewN ?_ _) | (with_reducible refine Below.setCell ?_ ?_ _) | go_size))⟩

theorem of_bit (a i k : Nat) (hk : k < 64) : (a / 2 ^ (64 * i) % 2 ^ 64 / 2 ^ k % 2 = 1) ↔ a.testBit (64 * i + k) = true := by
  rw [Nat.testBit_eq_decide_div_mod_eq, decide_eq_true_iff, Nat.pow_add, ← Nat.div_div_eq_div_mul]
  generalize a / 2 ^ (64 * i) = x
  obtain ⟨d, hd⟩ := Nat.exists_eq_add_of_le (show k + 1 ≤ 64 by omega)
  rw [hd, Nat.add_assoc, Nat.pow_add 2 k, Nat.mod_mul_right_div_self, Nat.pow_add, Nat.pow_one, Nat.mod_mul_right_mod]
/-- what is left of a word -/
def wrest (a i k : Nat) : Nat := a / 2 ^ (64 * i) % 2 ^ 64 / 2 ^ k
theorem wrest_lt (a i k : Nat) : wrest a i k < 18446744073709551616 := by
  unfold wrest
  exact Nat.lt_of_le_of_lt (Nat.div_le_self _ _) (Nat.mod_lt _ (by omega))
theorem wrest_succ (a i k : Nat) : wrest a i (k + 1) = wrest a i k / 2 := by unfold wrest; generalize a / 2 ^ (64 * i) % 2 ^ 64 = y; rw [Nat.pow_succ, Nat.div_div_eq_div_mul]
theorem wrest_zero (a i : Nat) : (wrest a i 0 : Int) = lw a i := by unfold wrest lw; rw [Nat.pow_zero, Nat.div_one]

theorem wrest_bit (a i k : Nat) (hk : k < 64) : a.testBit (64 * i + k) = (((wrest a i k : Nat) : Int) % 2 == 1) := by
  have h := of_bit a i k hk
  have e : wrest a i k = a / 2 ^ (64 * i) % 2 ^ 64 / 2 ^ k := rfl
  rw [← e] at h
  rw [Bool.eq_iff_iff, ← h, beq_iff_eq]
  omega

attribute [local irreducible] wrest
set_option maxRecDepth 100000 in
set_option maxHeartbeats 4000000 in
theorem refof_any (a : Nat) (w : World) :
    Calls Try.prog 51 #[nv a] w fun e w' => ∃ v, e = .returned v ∧ BitsIs w' w.heap.size v a 256 ∧ Below w.heap.size w w' := by
  have B : Below w.heap.size w w := Below.refl _ _
  have K0 := Lib.hid (heap_new w (.cells #[.int .u64 (lw a 0), .int .u64 (lw a 1), .int .u64 (lw a 2), .int .u64 (lw a 3)] 23 (0, 0)))
  go_enter Try.func51, Try.ntmps51
  go_wp2_with fail
  go_loopw [3, 4] (fun v ix wr => ∃ i : Nat, i ≤ 4 ∧ ix = .int .i64 i ∧ BitsIs wr (w.heap.size + 1) v a (64 * i) ∧ (∀ j, j < 4 → wr.cell? ⟨w.heap.size, j, none⟩ = some (.int .u64 (lw a j))) ∧ w.heap.size + 1 ≤ wr.heap.size ∧ Below w.heap.size w wr) (fun _ ix _ => 4 - (intOf ix).toNat)
  case atStart =>
    refine ⟨0, by omega, rfl, BitsIs.nil _ _ _, ?_, by simp, (by repeat' (first | (with_reducible exact Below.refl _ _) | (with_reducible assumption) | (with_reducible refine below_alloc ?_ _) | (with_reducible refine Below.drew ?_) | (with_reducible refine below_drewN ?_ _) | (with_reducible refine Below.setCell ?_ ?_ _) | go_size))⟩
    intro j hj
    have hj' : j = 0 ∨ j = 1 ∨ j = 2 ∨ j = 3 := by omega
    rw [cell_of_row _ _ _ _ _ _ K0.out]
    rcases hj' with rfl | rfl | rfl | rfl <;> rfl
  case round =>
    obtain ⟨i, hi, rfl, hO, hC, hz, B⟩ := hrel
    by_cases hlt : i < 4
    · have hc := hC i hlt
      have HC := Lib.hid hC
      have HO := Lib.hid hO
      clear hC hO K0
      have hx0 := wrest_zero a i
      rw [← hx0] at hc
      clear hx0
      go_wp2_with fail
      rw [show decide ((i : Int) < 4) = true from decide_eq_true (by omega)]
      go_loopw [3, 5, 6] (fun v xv ix wr2 => ∃ k : Nat, k ≤ 64 ∧ ix = .int .i64 k ∧ xv = .int .u64 (wrest a i k) ∧ BitsIs wr2 (w.heap.size + 1) v a (64 * i + k) ∧ w.heap.size + 1 ≤ wr2.heap.size ∧ Below (w.heap.size + 1) wr wr2) (fun _ _ ix _ => 64 - (intOf ix).toNat)
      case atStart => exact ⟨0, by omega, rfl, rfl, HO.out, hz, Below.refl _ _⟩
      case round =>
        obtain ⟨k, hk, rfl, rfl, hO, hz2, B2⟩ := hrel
        have HO2 := Lib.hid hO
        clear hO HO hc
        have hxl := wrest_lt a i k
        by_cases hlt2 : k < 64
        · have hbit := Lib.hid (wrest_bit a i k hlt2)
          have hws := wrest_succ a i k
          go_wp2_with (at_builtin; refine wpList_append_bit rfl (.tmp 18) (.tmp 22) rfl (w.heap.size + 1) _ a a (64 * i + k) rfl (HO2.out.alloc _) _ _ rfl (cell_new _ _ _) (fun _ _ => rfl) hbit.out (by omega) (by simp; omega) (fun v' w1 hown' hbel => ?_))
          have B3 := hbel (w.heap.size + 1) _ (Nat.le_refl _) (B2.alloc hz2 _)
          have hz3 := B3.size
          have HO3 := Lib.hid hown'
          clear hbel hown'
          go_wp2_with fail
          go_roundw
          case rel =>
            exact ⟨k + 1, by omega, by go_num, by rw [hws]; go_num, by rw [show 64 * i + (k + 1) = 64 * i + k + 1 by omega]; exact HO3.out, by omega, B3⟩
          case measure => simp [intOf]; omega
        · obtain rfl : k = 64 := by omega
          go_wp2_with fail
          go_roundw
          case rel =>
            refine ⟨i + 1, by omega, by go_num, by rw [show 64 * (i + 1) = 64 * i + 64 by omega]; exact HO2.out, fun j hj => ?_, hz2, B.trans (B2.mono (by omega))⟩
            rw [B2.cell (p := ⟨w.heap.size, j, none⟩) (by simp)]
            exact HC.out j hj
          case measure => simp [intOf]; omega
    · obtain rfl : i = 4 := by omega
      have HO := Lib.hid hO
      clear hO hC
      go_wp2_with fail
      go_ret
      exact ⟨_, rfl, HO.out.mono (by omega), B⟩
end Go.Proofs.Ytdffblfofdniaaa
