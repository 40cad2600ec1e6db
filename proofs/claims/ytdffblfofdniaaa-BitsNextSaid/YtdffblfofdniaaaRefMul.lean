/- tallystickref02.Mul. No condition. -/
import Derived.Test.YtdffblfofdniaaaRefShift
namespace Go.Proofs.Ytdffblfofdniaaa
open Go.RowKit

/-- the product with the lowest k bits -/
def pro (n m k : Nat) : Nat := n * (m % 2 ^ k)
theorem pro_zero (n m : Nat) : pro n m 0 = 0 := by unfold pro; rw [Nat.pow_zero, Nat.mod_one, Nat.mul_zero]
theorem pro_all (n m K : Nat) (h : m < 2 ^ K) : pro n m K = n * m := by unfold pro; rw [Nat.mod_eq_of_lt h]
theorem pro_yes (n m k : Nat) (h : m.testBit k = true) : pro n m (k + 1) = pro n m k + n * 2 ^ k := by
  unfold pro
  rcases bit01 m k with ⟨b, f⟩ | ⟨b, f⟩
  · rw [mod_next, f, Nat.mul_one, Nat.mul_add]
  · rw [b] at h; cases h
theorem pro_no (n m k : Nat) (h : m.testBit k = false) : pro n m (k + 1) = pro n m k := by
  unfold pro
  rcases bit01 m k with ⟨b, f⟩ | ⟨b, f⟩
  · rw [b] at h; cases h
  · rw [mod_next, f, Nat.mul_zero, Nat.add_zero]
theorem shl_lt {n L k : Nat} (h : n < 2 ^ L) : n * 2 ^ k < 2 ^ (L + k) := by
  rw [Nat.pow_add]; exact Nat.mul_lt_mul_of_pos_right h (Nat.two_pow_pos k)
theorem sum_lt {x y T : Nat} (h1 : x < 2 ^ T) (h2 : y < 2 ^ T) : x + y < 2 ^ (T + 1) := by rw [Nat.pow_succ]; omega

attribute [local irreducible] pro
set_option maxRecDepth 100000 in
set_option maxHeartbeats 4000000 in
theorem refmul_any (b1 : Nat) (v : Value) (n L : Nat) (hn : n < 2 ^ L) (b2 : Nat) (u : Value) (m K : Nat) (hm : m < 2 ^ K) (hL : L ≤ 10000) (hK : K ≤ 10000) (w : World) (h1 : BitsIs w b1 v n L) (h2 : BitsIs w b2 u m K) :
    Calls Try.prog 39 #[v, u] w fun e w' => ∃ x T, e = .returned x ∧ T ≤ L + K ∧ n * m < 2 ^ T ∧ BitsIs w' w.heap.size x (n * m) T ∧ Below w.heap.size w w' := by
  have HA := Lib.hid h1; have HB := Lib.hid h2
  have HN := Lib.hid hn
  have HE := Lib.hid (pro_all n m K hm)
  obtain ⟨xv, capv, rfl⟩ := h1.shape
  obtain ⟨xu, capu, rfl⟩ := h2.shape
  clear h1 h2 hn hm
  have B : Below w.heap.size w w := Below.refl _ _
  go_enter Try.func39, Try.ntmps39
  go_wp2_with fail
  go_loopw [5, 6] (fun ov ix wr => ∃ k T : Nat, k ≤ K ∧ T ≤ L + k ∧ pro n m k < 2 ^ T ∧ ix = .int .i64 k ∧ BitsIs wr w.heap.size ov (pro n m k) T ∧ Below w.heap.size w wr) (fun _ ix _ => K - (intOf ix).toNat)
  case atStart => exact ⟨0, 0, by omega, by omega, by rw [pro_zero]; decide, rfl, BitsIs.nil _ _ _, B⟩
  case round =>
    obtain ⟨k, T, hk, hT, hp, rfl, hO, B⟩ := hrel
    have HO := Lib.hid hO; have HP := Lib.hid hp
    clear hO hp
    by_cases hlt : k < K
    · have hlt' : (k : Int) < (K : Int) := by omega
      obtain ⟨g, cap, hgv, -, hg, hcb0, hfb0⟩ := HB.out.at k hlt
      simp only [Value.slice.injEq, true_and] at hgv
      obtain ⟨rfl, rfl⟩ := hgv
      have hcb := (B.cell (p := ⟨g, k, none⟩) hg).trans hcb0
      have hfb := (B.frozen (p := ⟨g, k, none⟩) hg).trans hfb0
      clear hcb0 hfb0
      rcases Bool.eq_false_or_eq_true (m.testBit k) with hbt | hbt
      · have HY := Lib.hid (pro_yes n m k hbt)
        rw [hbt] at hcb
        clear hbt
        go_wp2_with fail
        refine (shiftl_any b1 _ n L HN.out k (by omega) (by omega) _ (HA.out.keep B)).mono ?_
        rintro e w2 ⟨y, rfl, hy, hb2⟩
        have HO2 := Lib.hid (HO.out.keep hb2)
        have HYY := Lib.hid hy
        have B2 := below_next B hb2
        clear hb2 hy hcb hfb
        go_wp2_with fail
        refine (refadd_any _ _ (pro n m k) T HP.out _ _ (n * 2 ^ k) (L + k) (shl_lt HN.out) (by omega) (by omega) _ HO2.out HYY.out).mono ?_
        rintro e w3 ⟨x, rfl, hx, hb3⟩
        have B3 := below_next B2 hb3
        have HX := Lib.hid (hx.mono (base' := w.heap.size) B2.size)
        have hTm : max T (L + k) + 1 = L + k + 1 := by omega
        have HP3 := Lib.hid (show pro n m (k + 1) < 2 ^ (L + k + 1) by
          rw [HY.out]
          exact sum_lt (Nat.lt_of_lt_of_le HP.out (Nat.pow_le_pow_right (by omega) hT)) (shl_lt HN.out))
        rw [← HY.out, hTm] at HX
        clear hx hb3 HO2 HYY B2 hTm
        go_wp2_with fail
        go_roundw
        case rel => exact ⟨k + 1, L + k + 1, by omega, by omega, HP3.out, by go_num, HX.out, B3⟩
        case measure => simp [intOf]; omega
      · have HY := Lib.hid (pro_no n m k hbt)
        rw [hbt] at hcb
        clear hbt
        go_wp2_with fail
        go_roundw
        case rel => exact ⟨k + 1, T, by omega, by omega, by rw [HY.out]; exact HP.out, by go_num, by rw [HY.out]; exact HO.out, B⟩
        case measure => simp [intOf]; omega
    · obtain rfl : k = K := by omega
      go_wp2_with fail
      go_ret
      refine ⟨_, T, rfl, hT, ?_, ?_, B⟩
      · rw [← HE.out]; exact HP.out
      · rw [← HE.out]; exact HO.out
end Go.Proofs.Ytdffblfofdniaaa
