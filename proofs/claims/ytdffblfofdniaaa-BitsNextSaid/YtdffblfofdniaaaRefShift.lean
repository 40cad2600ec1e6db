/- tallystickref02.Shift, Less. No condition. -/
import Derived.Test.YtdffblfofdniaaaRefAdd
namespace Go.Proofs.Ytdffblfofdniaaa
open Go.RowKit

set_option maxRecDepth 100000 in
set_option maxHeartbeats 4000000 in
theorem shift_gen (b1 : Nat) (v : Value) (n L : Nat) (hn : n < 2 ^ L) (s : Int) (R T : Nat) (hT : ((L : Int) + s).toNat = T) (hT2 : T ≤ 1000000) (hs : -1000000 ≤ s ∧ s ≤ 1000000) (hL : L ≤ 1000000)
    (hR : ∀ i : Nat, R.testBit i = (decide (0 ≤ (i : Int) - s) && n.testBit ((i : Int) - s).toNat)) (w : World) (h1 : BitsIs w b1 v n L) :
    Calls Try.prog 33 #[v, .int .i64 s] w fun e w' => ∃ x, e = .returned x ∧ BitsIs w' w.heap.size x R T ∧ Below w.heap.size w w' := by
  have cx := Lib.hid fun (i : Nat) w1 (hb : Below w.heap.size w w1) => by
    have := at_any b1 v n L hn ((i : Int) - s) w1 (h1.keep hb)
    rwa [← hR i] at this
  obtain ⟨xv, capv, rfl⟩ := h1.shape
  have HTT := Lib.hid hT
  clear hn h1 hR hT
  have B : Below w.heap.size w w := Below.refl _ _
  go_enter Try.func33, Try.ntmps33
  go_wp2_with fail
  go_loopw [5, 6] (fun ov ix wr => ∃ k : Nat, k ≤ T ∧ ix = .int .i64 k ∧ BitsIs wr w.heap.size ov R k ∧ Below w.heap.size w wr) (fun _ ix _ => T - (intOf ix).toNat)
  case atStart => exact ⟨0, by omega, rfl, BitsIs.nil _ _ _, B⟩
  case round =>
    obtain ⟨k, hk, rfl, hO, B⟩ := hrel
    have HO := Lib.hid hO
    clear hO
    by_cases hlt : k < T
    · have hlt' : (k : Int) < (L : Int) + s := by have := HTT.out; omega
      have cx := Lib.hid fun w1 hb => cx.out k w1 hb
      have HB := Lib.hid (rfl : R.testBit k = R.testBit k)
      generalize hX : R.testBit k = X at *
      have HX := Lib.hid hX
      clear hX
      go_wp2_with fail
      refine (cx.out _ B).mono ?_
      rintro e w2 ⟨rfl, hb2⟩
      have HO2 := Lib.hid (HO.out.keep hb2)
      have B2 := below_next B hb2
      clear hb2 cx HO B
      go_wp2_with (at_builtin; refine wpList_append_bit rfl (.tmp 15) (.tmp 21) rfl w.heap.size _ R R k rfl (HO2.out.alloc _) _ _ rfl (cell_new _ _ _) (fun _ _ => rfl) HX.out (by omega) (by have := B2.size; simp; omega) (fun v' w4 hown' hbel => ?_))
      have B4 := hbel w.heap.size w (Nat.le_refl _) (below_alloc B2 _)
      have HO4 := Lib.hid hown'
      clear hbel hown' HO2 B2
      go_wp2_with fail
      go_roundw
      case rel => exact ⟨k + 1, by omega, by go_num, HO4.out, B4⟩
      case measure => simp [intOf]; omega
    · obtain rfl : k = T := by omega
      have hlt' : ¬ (k : Int) < (L : Int) + s := by have := HTT.out; omega
      go_wp2_with fail
      go_ret
      exact ⟨_, rfl, HO.out, B⟩

theorem shiftl_any (b1 : Nat) (v : Value) (n L : Nat) (hn : n < 2 ^ L) (s : Nat) (hL : L ≤ 100000) (hs : s ≤ 100000) (w : World) (h1 : BitsIs w b1 v n L) :
    Calls Try.prog 33 #[v, .int .i64 s] w fun e w' => ∃ x, e = .returned x ∧ BitsIs w' w.heap.size x (n * 2 ^ s) (L + s) ∧ Below w.heap.size w w' :=
  shift_gen b1 v n L hn s (n * 2 ^ s) (L + s) (by omega) (by omega) (by omega) (by omega) (shl_bit n s) w h1
theorem shiftr_any (b1 : Nat) (v : Value) (n L : Nat) (hn : n < 2 ^ L) (s : Nat) (hL : L ≤ 100000) (hs : s ≤ 100000) (w : World) (h1 : BitsIs w b1 v n L) :
    Calls Try.prog 33 #[v, .int .i64 (-(s : Int))] w fun e w' => ∃ x, e = .returned x ∧ BitsIs w' w.heap.size x (n / 2 ^ s) (L - s) ∧ Below w.heap.size w w' :=
  shift_gen b1 v n L hn (-(s : Int)) (n / 2 ^ s) (L - s) (by omega) (by omega) (by omega) (by omega) (shr_bit n s) w h1

set_option maxRecDepth 100000 in
set_option maxHeartbeats 4000000 in
theorem less_any (b1 : Nat) (v : Value) (n L : Nat) (hn : n < 2 ^ L) (b2 : Nat) (u : Value) (m K : Nat) (hm : m < 2 ^ K) (hL : L ≤ 100000) (hK : K ≤ 100000) (w : World) (h1 : BitsIs w b1 v n L) (h2 : BitsIs w b2 u m K) :
    Calls Try.prog 29 #[v, u] w fun e w' => e = .returned (.bool (decide (n < m))) ∧ Below w.heap.size w w' := by
  have cx := Lib.hid (at_old hn h1)
  have cy := Lib.hid (at_old hm h2)
  obtain ⟨xv, capv, rfl⟩ := h1.shape
  obtain ⟨xu, capu, rfl⟩ := h2.shape
  obtain ⟨M, hM⟩ : ∃ M, M = max L K := ⟨_, rfl⟩
  have em : max (L : Int) (K : Int) = (M : Int) := by omega
  have hM2 : M ≤ 100000 := by omega
  have H0 := Lib.hid (show n / 2 ^ M = m / 2 ^ M by
    rw [Nat.div_eq_of_lt (Nat.lt_of_lt_of_le hn (Nat.pow_le_pow_right (by omega) (by omega))), Nat.div_eq_of_lt (Nat.lt_of_lt_of_le hm (Nat.pow_le_pow_right (by omega) (by omega)))])
  clear hn hm h1 h2 hM hL hK
  have B : Below w.heap.size w w := Below.refl _ _
  go_enter Try.func29, Try.ntmps29
  go_wp2_with fail
  go_loopw [5] (fun ix wr => ∃ j : Nat, j ≤ M ∧ ix = .int .i64 ((j : Int) - 1) ∧ n / 2 ^ j = m / 2 ^ j ∧ Below w.heap.size w wr) (fun ix _ => (intOf ix + 1).toNat)
  case atStart => exact ⟨M, Nat.le_refl _, rfl, H0.out, B⟩
  case round =>
    obtain ⟨j, hj, rfl, he, B⟩ := hrel
    have HE := Lib.hid he
    clear he em H0
    by_cases h0 : j = 0
    · subst h0
      have : n = m := by have := HE.out; simpa using this
      have HNM := Lib.hid this
      clear this
      go_wp2_with fail
      go_ret
      exact ⟨by rw [decide_eq_false (show ¬ n < m by have := HNM.out; omega)]; rfl, B⟩
    · obtain ⟨k, rfl⟩ : ∃ k, j = k + 1 := ⟨j - 1, by omega⟩
      rw [show ((k + 1 : Nat) : Int) - 1 = (k : Int) by omega]
      have hl := less_here n m k HE.out
      have hs := less_same n m k HE.out
      have HL := Lib.hid hl; have HS := Lib.hid hs
      clear hl hs
      have cx := Lib.hid fun w1 hb => cx.out k w1 hb
      have cy := Lib.hid fun w1 hb => cy.out k w1 hb
      generalize n.testBit k = X at *
      generalize m.testBit k = Y at *
      go_wp2_with fail
      refine (cx.out _ B).mono ?_
      rintro e w2 ⟨rfl, hb2⟩
      have B2 := below_next B hb2
      clear hb2 cx B
      go_wp2_with fail
      refine (cy.out _ B2).mono ?_
      rintro e w3 ⟨rfl, hb3⟩
      have B3 := below_next B2 hb3
      clear hb3 B2
      cases X <;> cases Y
      · have h := HS.out rfl
        clear HL HS
        go_wp2_with fail
        go_roundw
        case rel => exact ⟨k, by omega, by go_num, h, B3⟩
        case measure => simp [intOf]
      · have HH := Lib.hid (HL.out (by simp))
        clear HL HS
        go_wp2_with fail
        refine (cy.out _ B3).mono ?_
        rintro e w4 ⟨rfl, hb4⟩
        have B4 := below_next B3 hb4
        clear hb4 B3
        go_wp2_with fail
        go_ret
        exact ⟨by rw [← HH.out]; rfl, B4⟩
      · have HH := Lib.hid (HL.out (by simp))
        clear HL HS
        go_wp2_with fail
        refine (cy.out _ B3).mono ?_
        rintro e w4 ⟨rfl, hb4⟩
        have B4 := below_next B3 hb4
        clear hb4 B3
        go_wp2_with fail
        go_ret
        exact ⟨by rw [← HH.out]; rfl, B4⟩
      · have h := HS.out rfl
        clear HL HS
        go_wp2_with fail
        go_roundw
        case rel => exact ⟨k, by omega, by go_num, h, B3⟩
        case measure => simp [intOf]
end Go.Proofs.Ytdffblfofdniaaa
