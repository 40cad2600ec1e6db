/- tallystickref03: Target, Work. No condition. -/
import Derived.Test.YtdffblfofdniaaaRtA
namespace Go.Proofs.Ytdffblfofdniaaa
open Go.RowKit

/-- the document's number of short bits, and in how many places -/
def rt (W s : Nat) : Nat := if s ≤ 3 then W / 2 ^ (8 * (3 - s)) else W * 2 ^ (8 * (s - 3))
def rtl (s : Nat) : Nat := if s ≤ 3 then 256 - 8 * (3 - s) else 256 + 8 * (s - 3)
theorem bitLen_shl {W : Nat} (h : W ≠ 0) (k : Nat) : bitLen (W * 2 ^ k) = bitLen W + k := by
  have h1 := two_le_of h
  have h2 := lt_two_bitLen W
  have h3 := bitLen_pos h
  have h4 := bitLen_of (n := W * 2 ^ k) (k := bitLen W - 1 + k) (by rw [Nat.pow_add]; exact Nat.mul_le_mul_right _ h1)
    (by rw [show bitLen W - 1 + k + 1 = bitLen W + k by omega, Nat.pow_add]; exact Nat.mul_lt_mul_of_pos_right h2 (Nat.two_pow_pos k))
  omega
theorem bitLen_zero {n : Nat} : bitLen n = 0 ↔ n = 0 := ⟨fun h => by
  by_cases h0 : n = 0
  · exact h0
  · have := bitLen_pos h0; omega, fun h => by rw [h]; rfl⟩
theorem tgt_ref {b : Nat} (h0 : b % 16777216 ≠ 0) (h1 : b % 16777216 < 8388608) :
    tgt b = if bitLen (rt (b % 16777216) (b / 16777216)) = 0 ∨ 256 < bitLen (rt (b % 16777216) (b / 16777216)) then (0, false) else (rt (b % 16777216) (b / 16777216), true) := by
  have e : b % 8388608 = b % 16777216 := by omega
  have et : b / 8388608 % 2 ≠ 1 := by omega
  unfold rt
  by_cases h3 : b / 16777216 ≤ 3
  · rw [tgt_small (by rw [e]; exact h0) et h3, e, if_pos h3]
    have hl : ¬ 256 < bitLen (b % 16777216 / 2 ^ (8 * (3 - b / 16777216))) := by
      have := bitLen_num (b % 16777216 / 2 ^ (8 * (3 - b / 16777216))) (Nat.lt_of_le_of_lt (Nat.div_le_self _ _) (by omega))
      omega
    by_cases hz : b % 16777216 / 2 ^ (8 * (3 - b / 16777216)) = 0
    · rw [if_pos (.inl (bitLen_zero.2 hz)), hz]; rfl
    · rw [if_neg (by intro h; rcases h with h | h; exact hz (bitLen_zero.1 h); exact hl h), decide_eq_false hz]; rfl
  · rw [if_neg h3, bitLen_shl h0]
    have hp := bitLen_pos h0
    by_cases hl : 256 < bitLen (b % 8388608) + 8 * (b / 16777216 - 3)
    · rw [tgt_far (by rw [e]; exact h0) et h3 hl, if_pos (.inr (by rw [← e]; exact hl))]
    · rw [tgt_fits (by rw [e]; exact h0) et h3 hl, if_neg (by rw [← e]; omega), e]
theorem rt_lt {W s : Nat} (hW : W < 8388608) : rt W s < 2 ^ rtl s := by
  unfold rt rtl
  have hW2 : W < 2 ^ 256 := by omega
  split
  · rename_i h
    rw [Nat.div_lt_iff_lt_mul (Nat.two_pow_pos _), ← Nat.pow_add, show 256 - 8 * (3 - s) + 8 * (3 - s) = 256 by omega]
    exact hW2
  · rw [Nat.pow_add]; exact Nat.mul_lt_mul_of_pos_right hW2 (Nat.two_pow_pos _)
theorem shift_rt {w : World} {b1 : Nat} {v : Value} {W s : Nat} (hW : W < 8388608) (hs : s < 256) (h : BitsIs w b1 v W 256) :
    Calls Try.prog 33 #[v, .int .i64 (8 * ((s : Int) - 3))] w fun e w' => ∃ x, e = .returned x ∧ BitsIs w' w.heap.size x (rt W s) (rtl s) ∧ Below w.heap.size w w' := by
  unfold rt rtl
  by_cases h3 : s ≤ 3
  · rw [if_pos h3, if_pos h3, show (8 * ((s : Int) - 3)) = -((8 * (3 - s) : Nat) : Int) by omega]
    exact shiftr_any b1 v W 256 (by omega) (8 * (3 - s)) (by omega) (by omega) w h
  · rw [if_neg h3, if_neg h3, show (8 * ((s : Int) - 3)) = ((8 * (s - 3) : Nat) : Int) by omega]
    exact shiftl_any b1 v W 256 (by omega) (8 * (s - 3)) (by omega) (by omega) w h

/-- what Target answers -/
def RtPost (T : Nat × Bool) (w w' : World) (e : Ending) : Prop := ∃ v L, e = .returned (.tuple #[v, .bool T.2]) ∧ (T.2 = true → BitsIs w' w.heap.size v T.1 L ∧ T.1 < 2 ^ L ∧ L ≤ 3000) ∧ Below w.heap.size w w'
theorem RtPost.none {w w' : World} (h : Below w.heap.size w w') : RtPost (0, false) w w' (.returned (.tuple #[.slice none 0 0, .bool false])) := ⟨_, 0, rfl, fun h => (by cases h), h⟩
theorem RtPost.some {w w' : World} {t L : Nat} {x : Value} (h1 : BitsIs w' w.heap.size x t L) (h2 : t < 2 ^ L) (h3 : L ≤ 3000) (h : Below w.heap.size w w') : RtPost (t, true) w w' (.returned (.tuple #[x, .bool true])) :=
  ⟨_, L, rfl, fun _ => ⟨h1, h2, h3⟩, h⟩

attribute [local irreducible] rt rtl RtPost
set_option maxRecDepth 100000 in
set_option maxHeartbeats 2000000 in
theorem reftarget_any (b : Nat) (hb : b < 4294967296) (w : World) :
    Calls Try.prog 45 #[.int .u32 b] w fun e w' => RtPost (tgt b) w w' e := by
  obtain ⟨s, hs⟩ : ∃ s, s = b / 16777216 := ⟨_, rfl⟩
  obtain ⟨W, hW⟩ : ∃ W, W = b % 16777216 := ⟨_, rfl⟩
  have es : (b : Int) / 16777216 = (s : Int) := by omega
  have em : (b : Int) % 16777216 = (W : Int) := by omega
  have hs2 : s < 256 := by omega
  have hW2 : W < 16777216 := by omega
  have HZ := Lib.hid (show W = 0 → tgt b = (0, false) from fun h => tgt_zero (by omega))
  have HT := Lib.hid (show 8388608 ≤ W → tgt b = (0, false) from fun h => tgt_top (by omega))
  have HR := Lib.hid (show W ≠ 0 → W < 8388608 → tgt b = if bitLen (rt W s) = 0 ∨ 256 < bitLen (rt W s) then (0, false) else (rt W s, true) from fun h0 h1 => by rw [hW, hs]; exact tgt_ref (by omega) (by omega))
  have hrl : rtl s ≤ 3000 := by unfold rtl; split <;> omega
  clear hs hW hb
  generalize tgt b = T at *
  have B : Below w.heap.size w w := Below.refl _ _
  go_enter Try.func45, Try.ntmps45
  by_cases h0 : W = 0
  · have e := Lib.hid (HZ.out h0)
    subst h0
    go_wp2_with fail
    exact bodyPost_ret (v := .tuple #[.slice none 0 0, .bool false]) (by simp [results, Try.results45, go_sem]) rfl (by rw [e.out]; exact RtPost.none B)
  · by_cases h1 : 8388608 ≤ W
    · have e := Lib.hid (HT.out h1)
      have h1' : (8388608 : Int) ≤ (W : Int) := by omega
      clear h0 h1
      go_wp2_with fail
      exact bodyPost_ret (v := .tuple #[.slice none 0 0, .bool false]) (by simp [results, Try.results45, go_sem]) rfl (by rw [e.out]; exact RtPost.none B)
    · have HE := Lib.hid (HR.out h0 (by omega))
      have HW := Lib.hid (show W < 8388608 by omega)
      have h1' : ¬ (8388608 : Int) ≤ (W : Int) := by omega
      have h0' : ¬ (W : Int) = 0 := by omega
      clear h0 h1
      go_wp2_with fail
      refine (small_any W (by omega) _).mono ?_
      rintro e w1 ⟨v, rfl, hv, hb1⟩
      have HV := Lib.hid hv
      have B1 := below_next B hb1
      clear hv hb1 B
      go_wp2_with fail
      refine (shift_rt HW.out hs2 HV.out).mono ?_
      rintro e w2 ⟨x, rfl, hx, hb2⟩
      have HX := Lib.hid hx
      have B2 := below_next B1 hb2
      have hz2 := Lib.hid (show w.heap.size ≤ w1.heap.size from B1.size)
      clear hx hb2 B1
      have HRL := Lib.hid (rt_lt (s := s) HW.out)
      have cl : Hid (∀ w3, Below w2.heap.size w2 w3 → Calls Try.prog 63 #[x] w3 fun e w' => e = .returned (.int .i64 (bitLen (rt W s))) ∧ Below w3.heap.size w3 w') := Lib.hid fun w3 hb3 => length_any _ _ _ _ HRL.out (by omega) _ (HX.out.keep hb3)
      generalize hl : bitLen (rt W s) = l at *
      clear hl
      go_wp2_with fail
      refine (cl.out _ (Below.refl _ _)).mono ?_
      rintro e w3 ⟨rfl, hb3⟩
      have B3 := below_next B2 hb3
      by_cases hl0 : l = 0
      · subst hl0
        have e := Lib.hid HE.out
        rw [if_pos (.inl rfl)] at e
        go_wp2_with fail
        exact bodyPost_ret (v := .tuple #[.slice none 0 0, .bool false]) (by simp [results, Try.results45, go_sem]) rfl (by rw [e.out]; exact RtPost.none B3)
      · have HL0 := Lib.hid hl0
        have hl0' : ((l : Int) == 0) = false := by rw [beq_eq_false_iff_ne]; omega
        have HRLL := Lib.hid hrl
        clear es em h0' h1' hrl hs2 hW2
        have HB3 := Lib.hid hb3
        clear hl0 hb3
        go_wp2_with fail
        refine (cl.out _ HB3.out).mono ?_
        rintro e w4 ⟨rfl, hb4⟩
        have B4 := below_next B3 hb4
        by_cases hl2 : 256 < l
        · have e := Lib.hid HE.out
          rw [if_pos (.inr hl2)] at e
          have hl2' : (256 : Int) < (l : Int) := by omega
          clear hl2
          go_wp2_with fail
          exact bodyPost_ret (v := .tuple #[.slice none 0 0, .bool false]) (by simp [results, Try.results45, go_sem]) rfl (by rw [e.out]; exact RtPost.none B4)
        · have e := Lib.hid HE.out
          rw [if_neg (by have := HL0.out; omega)] at e
          have hl2' : ¬ (256 : Int) < (l : Int) := by omega
          clear hl2
          go_wp2_with fail
          exact bodyPost_ret (v := .tuple #[x, .bool true]) (by simp [results, Try.results45, go_sem]) rfl (by rw [e.out]; exact RtPost.some (((HX.out.keep HB3.out).keep hb4).mono hz2.out) HRL.out HRLL.out B4)

set_option maxRecDepth 100000 in
set_option maxHeartbeats 2000000 in
theorem refwork_any (b1 : Nat) (v : Value) (t L : Nat) (ht : t < 2 ^ 256) (htL : t < 2 ^ L) (hL : L ≤ 3000) (w : World) (h1 : BitsIs w b1 v t L) :
    Calls Try.prog 48 #[v] w fun e w' => ∃ x, e = .returned x ∧ BitsIs w' w.heap.size x (2 ^ 256 / (t + 1)) 512 ∧ Below w.heap.size w w' := by
  have HT := Lib.hid ht; have HTL := Lib.hid htL
  have HA := Lib.hid h1
  have cs := Lib.hid fun w => small_any 1 (by omega) w
  clear h1 ht htL
  have B : Below w.heap.size w w := Below.refl _ _
  go_enter Try.func48, Try.ntmps48
  go_wp2_with fail
  refine (cs.out _).mono ?_
  rintro e w1 ⟨v1, rfl, hv, hb1⟩
  have HV := Lib.hid hv
  have B1 := below_next B hb1
  clear hv hb1 B
  go_wp2_with fail
  refine (shiftl_any _ _ 1 256 (by decide) 256 (by omega) (by omega) _ HV.out).mono ?_
  rintro e w2 ⟨v2, rfl, hv, hb2⟩
  have HV2 := Lib.hid hv
  have B2 := below_next B1 hb2
  clear hv hb2 B1 HV
  go_wp2_with fail
  refine (cs.out _).mono ?_
  rintro e w3 ⟨v3, rfl, hv, hb3⟩
  have HV3 := Lib.hid hv
  have HV2' := Lib.hid (HV2.out.keep hb3)
  have B3 := below_next B2 hb3
  clear hv hb3 B2 HV2
  go_wp2_with fail
  refine (refadd_any _ _ t L HTL.out _ _ 1 256 (by decide) (by omega) (by omega) _ (HA.out.keep B3) HV3.out).mono ?_
  rintro e w4 ⟨v4, rfl, hv, hb4⟩
  have HV4 := Lib.hid hv
  have HV2 := Lib.hid (HV2'.out.keep hb4)
  have B4 := below_next B3 hb4
  clear hv hb4 B3 HV2' HV3
  go_wp2_with fail
  refine (refdiv_any _ _ (1 * 2 ^ 256) (256 + 256) (shl_lt (by decide)) _ _ (t + 1) (max L 256 + 1) (sum_lt (Nat.lt_of_lt_of_le HTL.out (Nat.pow_le_pow_right (by omega) (by omega))) (Nat.lt_of_lt_of_le (show 1 < 2 ^ 256 by decide) (Nat.pow_le_pow_right (by omega) (by omega)))) (by omega) (by have := HT.out; omega) (by omega) (by omega) _ HV2.out HV4.out).mono ?_
  rintro e w5 ⟨x, y, T, rfl, hx, -, -, -, hb5⟩
  have B5 := below_next B4 hb5
  have HX := Lib.hid (hx.mono B4.size)
  clear hx hb5 HV2 HV4 B4
  go_wp2_with fail
  go_ret
  refine ⟨_, rfl, ?_, B5⟩
  have := HX.out
  rwa [Nat.one_mul] at this
end Go.Proofs.Ytdffblfofdniaaa
