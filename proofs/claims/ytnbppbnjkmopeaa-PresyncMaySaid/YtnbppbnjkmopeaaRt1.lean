/- tallystickref03: small, length, Target; law03.is. No condition. tallystickref03: Target, Work. No condition. tallystickref03.Short. No condition. tallystickref03.Next. No condition. -/
import Derived.Test.YtnbppbnjkmopeaaBt3
import Derived.Test.YtnbppbnjkmopeaaRefAll
namespace Go.Proofs.Ytnbppbnjkmopeaa
open Go.RowKit

set_option maxRecDepth 100000 in
set_option maxHeartbeats 1000000 in
theorem small_any (x : Nat) (hx : x < 18446744073709551616) (w : World) :
    Calls Try.prog 117 #[.int .u64 x] w fun e w' => ∃ v, e = .returned v ∧ BitsIs w' w.heap.size v x 256 ∧ Below w.heap.size w w' := by
  have co : Hid (∀ w : World, Calls Try.prog 94 #[.agg #[.int .u64 (x : Int), .int .u64 0, .int .u64 0, .int .u64 0]] w fun e w' => ∃ v, e = .returned v ∧ BitsIs w' w.heap.size v x 256 ∧ Below w.heap.size w w') := Lib.hid fun w => by
    have := refof_any x w
    have e := of_small (n := (x : Int)) (by omega) (by omega)
    rw [Int.toNat_natCast] at e
    rwa [e] at this
  have B : Below w.heap.size w w := Below.refl _ _
  go_enter Try.func117, Try.ntmps117
  go_wp2_with fail
  refine (co.out _).mono ?_
  rintro e w1 ⟨v, rfl, hv, hb⟩
  have B1 := below_next B hb
  have HV := Lib.hid hv
  clear hv hb co
  go_wp2_with fail
  go_ret
  exact ⟨_, rfl, HV.out, B1⟩

theorem len_here {n k : Nat} (h : n < 2 ^ (k + 1)) (hb : n.testBit k = true) : bitLen n = k + 1 := by
  refine bitLen_of ?_ h
  rcases bit01 n k with ⟨b, f⟩ | ⟨b, f⟩
  · have h1 : 1 ≤ n / 2 ^ k := by
      revert f; generalize n / 2 ^ k = y; intro f; omega
    rwa [Nat.le_div_iff_mul_le (Nat.two_pow_pos _), Nat.one_mul] at h1
  · rw [b] at hb; cases hb
theorem len_less {n k : Nat} (h : n < 2 ^ (k + 1)) (hb : n.testBit k = false) : n < 2 ^ k := by
  rcases bit01 n k with ⟨b, f⟩ | ⟨b, f⟩
  · rw [b] at hb; cases hb
  · have h1 : n / 2 ^ k < 2 := by rw [Nat.div_lt_iff_lt_mul (Nat.two_pow_pos _), Nat.mul_comm, ← Nat.pow_succ]; exact h
    have h2 : n / 2 ^ k = 0 := by
      revert f h1; generalize n / 2 ^ k = y; intro f h1; omega
    rwa [Nat.div_eq_zero_iff_lt (Nat.two_pow_pos _)] at h2

set_option maxRecDepth 100000 in
set_option maxHeartbeats 1000000 in
theorem length_any (b1 : Nat) (v : Value) (n L : Nat) (hn : n < 2 ^ L) (hL : L ≤ 100000) (w : World) (h1 : BitsIs w b1 v n L) :
    Calls Try.prog 118 #[v] w fun e w' => e = .returned (.int .i64 (bitLen n)) ∧ Below w.heap.size w w' := by
  have HA := Lib.hid h1
  obtain ⟨xv, capv, rfl⟩ := h1.shape
  have HN := Lib.hid hn
  clear h1 hn
  have B : Below w.heap.size w w := Below.refl _ _
  go_enter Try.func118, Try.ntmps118
  go_wp2_with fail
  go_loopw [3] (fun ix wr => ∃ k : Nat, k ≤ L ∧ n < 2 ^ k ∧ ix = .int .i64 k ∧ wr = w) (fun ix _ => (intOf ix).toNat)
  case atStart => exact ⟨L, Nat.le_refl _, HN.out, rfl, rfl⟩
  case round =>
    obtain ⟨k1, hk, hnk, rfl, rfl⟩ := hrel
    have HNK := Lib.hid hnk
    clear hnk HN
    by_cases h0 : k1 = 0
    · subst h0
      have hn0 : n = 0 := by have := HNK.out; simpa using this
      have hb0 : bitLen n = 0 := by rw [hn0]; rfl
      have HB0 := Lib.hid hb0
      clear hn0 hb0
      go_wp2_with fail
      go_ret
      exact ⟨by rw [HB0.out]; rfl, B⟩
    · obtain ⟨k, rfl⟩ : ∃ k, k1 = k + 1 := ⟨k1 - 1, by omega⟩
      obtain ⟨g, cap, hgv, -, hg, hc, hf⟩ := HA.out.at k (by omega)
      simp only [Value.slice.injEq, true_and] at hgv
      obtain ⟨rfl, rfl⟩ := hgv
      have hkL : k < L := by omega
      have hk0 : (0 : Int) < (k : Int) + 1 := by omega
      rcases Bool.eq_false_or_eq_true (n.testBit k) with hb | hb
      · have HE := Lib.hid (len_here HNK.out hb)
        rw [hb] at hc
        clear hb h0
        go_wp2_with fail
        go_ret
        exact ⟨by rw [HE.out]; first | rfl | simp, B⟩
      · have HE := Lib.hid (len_less HNK.out hb)
        rw [hb] at hc
        clear hb h0
        go_wp2_with fail
        go_roundw
        case rel => exact ⟨k, by omega, HE.out, by go_num, by first | rfl | trivial⟩
        case measure => simp [intOf]

end Go.Proofs.Ytnbppbnjkmopeaa
namespace Go.Proofs.Ytnbppbnjkmopeaa
open Go.RowKit

/-- the document's number of short bits, and in how many places -/
def rtg (W s : Nat) : Nat := if s ≤ 3 then W / 2 ^ (8 * (3 - s)) else W * 2 ^ (8 * (s - 3))
def rtl (s : Nat) : Nat := if s ≤ 3 then 256 - 8 * (3 - s) else 256 + 8 * (s - 3)
theorem bitLen_shl {W : Nat} (h : W ≠ 0) (k : Nat) : bitLen (W * 2 ^ k) = bitLen W + k := by
  have h1 := two_le_of h
  have h2 := lt_two_bitLen W
  have h3 := bitLen_pos h
  have h4 := bitLen_of (n := W * 2 ^ k) (k := bitLen W - 1 + k) (by rw [Nat.pow_add]; exact Nat.mul_le_mul_right _ h1)
    (by rw [show bitLen W - 1 + k + 1 = bitLen W + k by omega, Nat.pow_add]; exact Nat.mul_lt_mul_of_pos_right h2 (Nat.two_pow_pos k))
  omega
theorem bitLen_zero {n : Nat} : bitLen n = 0 ↔ n = 0 := ⟨fun h => by
  by_cases h0 : n = 0
  · exact h0
  · have := bitLen_pos h0; omega, fun h => by rw [h]; rfl⟩
theorem tgt_ref {b : Nat} (h0 : b % 16777216 ≠ 0) (h1 : b % 16777216 < 8388608) :
    tgt b = if bitLen (rtg (b % 16777216) (b / 16777216)) = 0 ∨ 256 < bitLen (rtg (b % 16777216) (b / 16777216)) then (0, false) else (rtg (b % 16777216) (b / 16777216), true) := by
  have e : b % 8388608 = b % 16777216 := by omega
  have et : b / 8388608 % 2 ≠ 1 := by omega
  unfold rtg
  by_cases h3 : b / 16777216 ≤ 3
  · rw [tgt_small (by rw [e]; exact h0) et h3, e, if_pos h3]
    have hl : ¬ 256 < bitLen (b % 16777216 / 2 ^ (8 * (3 - b / 16777216))) := by
      have := bitLen_num (b % 16777216 / 2 ^ (8 * (3 - b / 16777216))) (Nat.lt_of_le_of_lt (Nat.div_le_self _ _) (by omega))
      omega
    by_cases hz : b % 16777216 / 2 ^ (8 * (3 - b / 16777216)) = 0
    · rw [if_pos (.inl (bitLen_zero.2 hz)), hz]; rfl
    · rw [if_neg (by intro h; rcases h with h | h; exact hz (bitLen_zero.1 h); exact hl h), decide_eq_false hz]; rfl
  · rw [if_neg h3, bitLen_shl h0]
    have hp := bitLen_pos h0
    by_cases hl : 256 < bitLen (b % 8388608) + 8 * (b / 16777216 - 3)
    · rw [tgt_far (by rw [e]; exact h0) et h3 hl, if_pos (.inr (by rw [← e]; exact hl))]
    · rw [tgt_fits (by rw [e]; exact h0) et h3 hl, if_neg (by rw [← e]; omega), e]
theorem rtg_lt {W s : Nat} (hW : W < 8388608) : rtg W s < 2 ^ rtl s := by
  unfold rtg rtl
  have hW2 : W < 2 ^ 256 := by omega
  split
  · rename_i h
    rw [Nat.div_lt_iff_lt_mul (Nat.two_pow_pos _), ← Nat.pow_add, show 256 - 8 * (3 - s) + 8 * (3 - s) = 256 by omega]
    exact hW2
  · rw [Nat.pow_add]; exact Nat.mul_lt_mul_of_pos_right hW2 (Nat.two_pow_pos _)
theorem shift_rt {w : World} {b1 : Nat} {v : Value} {W s : Nat} (hW : W < 8388608) (hs : s < 256) (h : BitsIs w b1 v W 256) :
    Calls Try.prog 116 #[v, .int .i64 (8 * ((s : Int) - 3))] w fun e w' => ∃ x, e = .returned x ∧ BitsIs w' w.heap.size x (rtg W s) (rtl s) ∧ Below w.heap.size w w' := by
  unfold rtg rtl
  by_cases h3 : s ≤ 3
  · rw [if_pos h3, if_pos h3, show (8 * ((s : Int) - 3)) = -((8 * (3 - s) : Nat) : Int) by omega]
    exact shiftr_any b1 v W 256 (by omega) (8 * (3 - s)) (by omega) (by omega) w h
  · rw [if_neg h3, if_neg h3, show (8 * ((s : Int) - 3)) = ((8 * (s - 3) : Nat) : Int) by omega]
    exact shiftl_any b1 v W 256 (by omega) (8 * (s - 3)) (by omega) (by omega) w h

/-- what Target answers -/
def RtPost (T : Nat × Bool) (w w' : World) (e : Ending) : Prop := ∃ v L, e = .returned (.tuple #[v, .bool T.2]) ∧ (T.2 = true → BitsIs w' w.heap.size v T.1 L ∧ T.1 < 2 ^ L ∧ L ≤ 3000) ∧ Below w.heap.size w w'
theorem RtPost.none {w w' : World} (h : Below w.heap.size w w') : RtPost (0, false) w w' (.returned (.tuple #[.slice none 0 0, .bool false])) := ⟨_, 0, rfl, fun h => (by cases h), h⟩
theorem RtPost.some {w w' : World} {t L : Nat} {x : Value} (h1 : BitsIs w' w.heap.size x t L) (h2 : t < 2 ^ L) (h3 : L ≤ 3000) (h : Below w.heap.size w w') : RtPost (t, true) w w' (.returned (.tuple #[x, .bool true])) :=
  ⟨_, L, rfl, fun _ => ⟨h1, h2, h3⟩, h⟩

attribute [local irreducible] rtg rtl RtPost
set_option maxRecDepth 100000 in
set_option maxHeartbeats 2000000 in
theorem reftarget_any (b : Nat) (hb : b < 4294967296) (w : World) :
    Calls Try.prog 79 #[.int .u32 b] w fun e w' => RtPost (tgt b) w w' e := by
  obtain ⟨s, hs⟩ : ∃ s, s = b / 16777216 := ⟨_, rfl⟩
  obtain ⟨W, hW⟩ : ∃ W, W = b % 16777216 := ⟨_, rfl⟩
  have es : (b : Int) / 16777216 = (s : Int) := by omega
  have em : (b : Int) % 16777216 = (W : Int) := by omega
  have hs2 : s < 256 := by omega
  have hW2 : W < 16777216 := by omega
  have HZ := Lib.hid (show W = 0 → tgt b = (0, false) from fun h => tgt_zero (by omega))
  have HT := Lib.hid (show 8388608 ≤ W → tgt b = (0, false) from fun h => tgt_top (by omega))
  have HR := Lib.hid (show W ≠ 0 → W < 8388608 → tgt b = if bitLen (rtg W s) = 0 ∨ 256 < bitLen (rtg W s) then (0, false) else (rtg W s, true) from fun h0 h1 => by rw [hW, hs]; exact tgt_ref (by omega) (by omega))
  have hrl : rtl s ≤ 3000 := by unfold rtl; split <;> omega
  clear hs hW hb
  generalize tgt b = T at *
  have B : Below w.heap.size w w := Below.refl _ _
  go_enter Try.func79, Try.ntmps79
  by_cases h0 : W = 0
  · have e := Lib.hid (HZ.out h0)
    subst h0
    go_wp2_with fail
    exact bodyPost_ret (v := .tuple #[.slice none 0 0, .bool false]) (by simp [results, Try.results79, go_sem]) rfl (by rw [e.out]; exact RtPost.none B)
  · by_cases h1 : 8388608 ≤ W
    · have e := Lib.hid (HT.out h1)
      have h1' : (8388608 : Int) ≤ (W : Int) := by omega
      clear h0 h1
      go_wp2_with fail
      exact bodyPost_ret (v := .tuple #[.slice none 0 0, .bool false]) (by simp [results, Try.results79, go_sem]) rfl (by rw [e.out]; exact RtPost.none B)
    · have HE := Lib.hid (HR.out h0 (by omega))
      have HW := Lib.hid (show W < 8388608 by omega)
      have h1' : ¬ (8388608 : Int) ≤ (W : Int) := by omega
      have h0' : ¬ (W : Int) = 0 := by omega
      clear h0 h1
      go_wp2_with fail
      refine (small_any W (by omega) _).mono ?_
      rintro e w1 ⟨v, rfl, hv, hb1⟩
      have HV := Lib.hid hv
      have B1 := below_next B hb1
      clear hv hb1 B
      go_wp2_with fail
      refine (shift_rt HW.out hs2 HV.out).mono ?_
      rintro e w2 ⟨x, rfl, hx, hb2⟩
      have HX := Lib.hid hx
      have B2 := below_next B1 hb2
      have hz2 := Lib.hid (show w.heap.size ≤ w1.heap.size from B1.size)
      clear hx hb2 B1
      have HRL := Lib.hid (rtg_lt (s := s) HW.out)
      have cl : Hid (∀ w3, Below w2.heap.size w2 w3 → Calls Try.prog 118 #[x] w3 fun e w' => e = .returned (.int .i64 (bitLen (rtg W s))) ∧ Below w3.heap.size w3 w') := Lib.hid fun w3 hb3 => length_any _ _ _ _ HRL.out (by omega) _ (HX.out.keep hb3)
      generalize hl : bitLen (rtg W s) = l at *
      clear hl
      go_wp2_with fail
      refine (cl.out _ (Below.refl _ _)).mono ?_
      rintro e w3 ⟨rfl, hb3⟩
      have B3 := below_next B2 hb3
      by_cases hl0 : l = 0
      · subst hl0
        have e := Lib.hid HE.out
        rw [if_pos (.inl rfl)] at e
        go_wp2_with fail
        exact bodyPost_ret (v := .tuple #[.slice none 0 0, .bool false]) (by simp [results, Try.results79, go_sem]) rfl (by rw [e.out]; exact RtPost.none B3)
      · have HL0 := Lib.hid hl0
        have hl0' : ((l : Int) == 0) = false := by rw [beq_eq_false_iff_ne]; omega
        have HRLL := Lib.hid hrl
        clear es em h0' h1' hrl hs2 hW2
        have HB3 := Lib.hid hb3
        clear hl0 hb3
        go_wp2_with fail
        refine (cl.out _ HB3.out).mono ?_
        rintro e w4 ⟨rfl, hb4⟩
        have B4 := below_next B3 hb4
        by_cases hl2 : 256 < l
        · have e := Lib.hid HE.out
          rw [if_pos (.inr hl2)] at e
          have hl2' : (256 : Int) < (l : Int) := by omega
          clear hl2
          go_wp2_with fail
          exact bodyPost_ret (v := .tuple #[.slice none 0 0, .bool false]) (by simp [results, Try.results79, go_sem]) rfl (by rw [e.out]; exact RtPost.none B4)
        · have e := Lib.hid HE.out
          rw [if_neg (by have := HL0.out; omega)] at e
          have hl2' : ¬ (256 : Int) < (l : Int) := by omega
          clear hl2
          go_wp2_with fail
          exact bodyPost_ret (v := .tuple #[x, .bool true]) (by simp [results, Try.results79, go_sem]) rfl (by rw [e.out]; exact RtPost.some (((HX.out.keep HB3.out).keep hb4).mono hz2.out) HRL.out HRLL.out B4)

set_option maxRecDepth 100000 in
set_option maxHeartbeats 2000000 in
theorem refwork_any (b1 : Nat) (v : Value) (t L : Nat) (ht : t < 2 ^ 256) (htL : t < 2 ^ L) (hL : L ≤ 3000) (w : World) (h1 : BitsIs w b1 v t L) :
    Calls Try.prog 93 #[v] w fun e w' => ∃ x, e = .returned x ∧ BitsIs w' w.heap.size x (2 ^ 256 / (t + 1)) 512 ∧ Below w.heap.size w w' := by
  have HT := Lib.hid ht; have HTL := Lib.hid htL
  have HA := Lib.hid h1
  have cs := Lib.hid fun w => small_any 1 (by omega) w
  clear h1 ht htL
  have B : Below w.heap.size w w := Below.refl _ _
  go_enter Try.func93, Try.ntmps93
  go_wp2_with fail
  refine (cs.out _).mono ?_
  rintro e w1 ⟨v1, rfl, hv, hb1⟩
  have HV := Lib.hid hv
  have B1 := below_next B hb1
  clear hv hb1 B
  go_wp2_with fail
  refine (shiftl_any _ _ 1 256 (by decide) 256 (by omega) (by omega) _ HV.out).mono ?_
  rintro e w2 ⟨v2, rfl, hv, hb2⟩
  have HV2 := Lib.hid hv
  have B2 := below_next B1 hb2
  clear hv hb2 B1 HV
  go_wp2_with fail
  refine (cs.out _).mono ?_
  rintro e w3 ⟨v3, rfl, hv, hb3⟩
  have HV3 := Lib.hid hv
  have HV2' := Lib.hid (HV2.out.keep hb3)
  have B3 := below_next B2 hb3
  clear hv hb3 B2 HV2
  go_wp2_with fail
  refine (refadd_any _ _ t L HTL.out _ _ 1 256 (by decide) (by omega) (by omega) _ (HA.out.keep B3) HV3.out).mono ?_
  rintro e w4 ⟨v4, rfl, hv, hb4⟩
  have HV4 := Lib.hid hv
  have HV2 := Lib.hid (HV2'.out.keep hb4)
  have B4 := below_next B3 hb4
  clear hv hb4 B3 HV2' HV3
  go_wp2_with fail
  refine (refdiv_any _ _ (1 * 2 ^ 256) (256 + 256) (shl_lt (by decide)) _ _ (t + 1) (max L 256 + 1) (sum_lt (Nat.lt_of_lt_of_le HTL.out (Nat.pow_le_pow_right (by omega) (by omega))) (Nat.lt_of_lt_of_le (show 1 < 2 ^ 256 by decide) (Nat.pow_le_pow_right (by omega) (by omega)))) (by omega) (by have := HT.out; omega) (by omega) (by omega) _ HV2.out HV4.out).mono ?_
  rintro e w5 ⟨x, y, T, rfl, hx, -, -, -, hb5⟩
  have B5 := below_next B4 hb5
  have HX := Lib.hid (hx.mono B4.size)
  clear hx hb5 HV2 HV4 B4
  go_wp2_with fail
  go_ret
  refine ⟨_, rfl, ?_, B5⟩
  have := HX.out
  rwa [Nat.one_mul] at this
end Go.Proofs.Ytnbppbnjkmopeaa
namespace Go.Proofs.Ytnbppbnjkmopeaa
open Go.RowKit

theorem tgt_not {b : Nat} (h : (tgt b).2 = false) : (tgt b).1 = 0 := by
  unfold tgt at h ⊢
  split
  · rfl
  · split
    · rfl
    · split
      · rename_i h1 h2 h3
        rw [if_neg h1, if_neg h2, if_pos h3] at h
        simpa using h
      · split
        · rfl
        · rename_i h1 h2 h3 h4
          rw [if_neg h1, if_neg h2, if_neg h3, if_neg h4] at h
          cases h
theorem wrk_mod (t : Nat) (h2 : t < 2 ^ 256) : wrk t = 2 ^ 256 / (t + 1) % 2 ^ 256 := by
  have e := Nat.div_eq_sub_div (a := 2 ^ 256) (b := t + 1) (by omega) (by omega)
  unfold wrk
  split
  · have : t + 1 = 2 ^ 256 := by omega
    rw [this, Nat.div_self (by omega)]
  · rw [show 2 ^ 256 - 1 - t = 2 ^ 256 - (t + 1) by omega, ← e]
/-- how many bytes the short form says -/
def shz (n : Nat) : Nat := if n = 0 then 0 else bitLen n / 8 + 1
theorem mant_zero : mant 0 = 0 := by decide
theorem sht_all (n : Nat) : sht n = shz n * 16777216 + mant n := by
  unfold shz
  by_cases h : n = 0
  · subst h; rw [if_pos rfl, sht_zero, mant_zero]
  · rw [if_neg h, sht_eq h]
theorem shift_m {w : World} {b1 : Nat} {v : Value} {n L : Nat} (hn : n < 2 ^ 256) (hnL : n < 2 ^ L) (hL : L ≤ 9000) (c : Int) (hc : c = -8 * ((shz n : Int) - 3)) (h : BitsIs w b1 v n L) :
    Calls Try.prog 116 #[v, .int .i64 c] w fun e w' => ∃ x T, e = .returned x ∧ BitsIs w' w.heap.size x (mant n) T ∧ mant n < 2 ^ T ∧ T ≤ 9100 ∧ Below w.heap.size w w' := by
  have hl := bitLen_num n hn
  subst hc
  by_cases h0 : n = 0
  · have hz : shz n = 0 := by unfold shz; rw [if_pos h0]
    have hm : mant n = n * 2 ^ 24 := by rw [h0, mant_zero, Nat.zero_mul]
    rw [hz, hm, show -8 * (((0 : Nat) : Int) - 3) = ((24 : Nat) : Int) by omega]
    refine (shiftl_any b1 v n L hnL 24 (by omega) (by omega) w h).mono fun e w' ⟨x, he, hx, hb⟩ => ⟨x, L + 24, he, hx, shl_lt hnL, by omega, hb⟩
  · have hz : shz n = bitLen n / 8 + 1 := by unfold shz; rw [if_neg h0]
    rw [hz]
    by_cases h2 : bitLen n / 8 ≤ 2
    · have hm : mant n = n * 2 ^ (8 * (2 - bitLen n / 8)) := by unfold mant; rw [if_pos h2]
      rw [hm, show -8 * (((bitLen n / 8 + 1 : Nat) : Int) - 3) = ((8 * (2 - bitLen n / 8) : Nat) : Int) by omega]
      refine (shiftl_any b1 v n L hnL _ (by omega) (by omega) w h).mono fun e w' ⟨x, he, hx, hb⟩ => ⟨x, L + 8 * (2 - bitLen n / 8), he, hx, shl_lt hnL, by omega, hb⟩
    · have hm : mant n = n / 2 ^ (8 * (bitLen n / 8 - 2)) := by unfold mant; rw [if_neg h2]
      rw [hm, show -8 * (((bitLen n / 8 + 1 : Nat) : Int) - 3) = -((8 * (bitLen n / 8 - 2) : Nat) : Int) by omega]
      have hlt : n / 2 ^ (8 * (bitLen n / 8 - 2)) < 2 ^ (L - 8 * (bitLen n / 8 - 2)) := by
        by_cases hLk : 8 * (bitLen n / 8 - 2) ≤ L
        · rw [Nat.div_lt_iff_lt_mul (Nat.two_pow_pos _), ← Nat.pow_add, Nat.sub_add_cancel hLk]; exact hnL
        · rw [Nat.div_eq_of_lt (Nat.lt_of_lt_of_le hnL (Nat.pow_le_pow_right (by omega) (by omega)))]; exact Nat.two_pow_pos _
      refine (shiftr_any b1 v n L hnL _ (by omega) (by omega) w h).mono fun e w' ⟨x, he, hx, hb⟩ => ⟨x, L - 8 * (bitLen n / 8 - 2), he, hx, hlt, by omega, hb⟩

attribute [local irreducible] shz mant
set_option maxRecDepth 100000 in
set_option maxHeartbeats 4000000 in
theorem refshort_any (b1 : Nat) (v : Value) (n L : Nat) (hn : n < 2 ^ 256) (hnL : n < 2 ^ L) (hL : L ≤ 9000) (w : World) (h1 : BitsIs w b1 v n L) :
    Calls Try.prog 124 #[v] w fun e w' => e = .returned (.int .u32 (sht n)) ∧ Below w.heap.size w w' := by
  have HA := Lib.hid h1
  have cl := Lib.hid fun w1 (hb : Below w.heap.size w w1) => length_any b1 v n L hnL (by omega) w1 (h1.keep hb)
  have cs := Lib.hid fun (c : Int) hc w1 (hb : Below w.heap.size w w1) => shift_m hn hnL hL c hc (h1.keep hb)
  have hl := bitLen_num n hn
  have hsa := sht_all n
  have hm := mant_lt n
  have hz : (n = 0 ∧ bitLen n = 0 ∧ shz n = 0) ∨ (bitLen n ≠ 0 ∧ shz n = bitLen n / 8 + 1) := by
    by_cases h0 : n = 0
    · left; refine ⟨h0, by rw [h0]; rfl, by unfold shz; rw [if_pos h0]⟩
    · right; refine ⟨fun h => h0 (bitLen_zero.1 h), by unfold shz; rw [if_neg h0]⟩
  generalize hll : bitLen n = l at *
  generalize hzz : shz n = z at *
  generalize hss : sht n = S at *
  generalize hmm : mant n = m at *
  have HS := Lib.hid hsa; have HZ := Lib.hid hz
  obtain ⟨z1, hz1⟩ : ∃ z1, z1 = (l + 7) / 8 := ⟨_, rfl⟩
  have HZ1 := Lib.hid hz1
  have hz1b : z1 ≤ 32 := by omega
  have es : ((l : Int) + 7) / 8 = (z1 : Int) := by omega
  clear hsa hz hz1 hll hzz hss hmm h1 hn hnL hL
  have B : Below w.heap.size w w := Below.refl _ _
  go_enter Try.func124, Try.ntmps124
  go_wp2_with fail
  refine (cl.out _ B).mono ?_
  rintro e w1 ⟨rfl, hb1⟩
  have B1 := below_next B hb1
  clear hb1 B
  go_wp2_with fail
  refine (cl.out _ B1).mono ?_
  rintro e w2 ⟨rfl, hb2⟩
  have B2 := below_next B1 hb2
  clear hb2 B1
  rw [es]
  clear es
  by_cases hl0 : l = 0
  · have HR8 := Lib.hid (show l = 0 from hl0)
    have hl0' : ¬ (0 : Int) < (l : Int) := by omega
    clear hl0
    go_wp2_with fail
    refine (cs.out _ (by have := HZ.out; have := HZ1.out; have := HR8.out; omega) _ B2).mono ?_
    rintro e w4 ⟨x, T, rfl, hx, hmT, hT, hb4⟩
    have HX := Lib.hid hx; have HMT := Lib.hid hmT
    have B4 := below_next B2 hb4
    clear hx hmT hb4
    go_wp2_with fail
    refine (words_any _ x m T HMT.out (by omega) _ HX.out).mono ?_
    rintro e w5 ⟨rfl, hb5⟩
    have B5 := below_next B4 hb5
    rw [Nat.mod_eq_of_lt (show m < 2 ^ 256 by omega)]
    generalize decide (2 ^ 256 ≤ m) = oo
    clear hb5 B4 HX HMT
    have hm0 := lw_small m (by omega)
    have hzq : z = z1 := by have := HZ.out; have := HZ1.out; have := HR8.out; clear hm hm0; omega
    have HSS := Lib.hid (show S = z1 * 16777216 + m by rw [← hzq]; exact HS.out)
    clear hzq
    clear cs cl HA hT
    go_wp2_with fail
    go_ret
    refine ⟨?_, (by repeat' (first | (with_reducible exact Below.refl _ _) | (with_reducible assumption) | (with_reducible refine below_alloc ?_ _) | (with_reducible refine Below.drew ?_) | (with_reducible refine below_drewN ?_ _) | (with_reducible refine Below.setCell ?_ ?_ _) | go_size))⟩
    rw [HSS.out]
    first | rfl | (simp; done) | (simp; omega)
  · have hl0' : (0 : Int) < (l : Int) := by omega
    have HL0 := Lib.hid hl0
    have e2 : Int.tmod (l : Int) 8 = ((l % 8 : Nat) : Int) := by rw [Int.tmod_eq_emod_of_nonneg (by omega)]; omega
    clear hl0
    go_wp2_with fail
    refine (cl.out _ B2).mono ?_
    rintro e w3 ⟨rfl, hb3⟩
    have B3 := below_next B2 hb3
    clear hb3 B2
    by_cases h8 : l % 8 = 0
    · have HR8 := Lib.hid (show l ≠ 0 ∧ l % 8 = 0 from ⟨HL0.out, h8⟩)
      rw [h8] at e2
      clear h8
      go_wp2_with fail
      refine (cs.out _ (by have := HZ.out; have := HZ1.out; have := HR8.out; omega) _ B3).mono ?_
      rintro e w4 ⟨x, T, rfl, hx, hmT, hT, hb4⟩
      have HX := Lib.hid hx; have HMT := Lib.hid hmT
      have B4 := below_next B3 hb4
      clear hx hmT hb4
      go_wp2_with fail
      refine (words_any _ x m T HMT.out (by omega) _ HX.out).mono ?_
      rintro e w5 ⟨rfl, hb5⟩
      have B5 := below_next B4 hb5
      rw [Nat.mod_eq_of_lt (show m < 2 ^ 256 by omega)]
      generalize decide (2 ^ 256 ≤ m) = oo
      clear hb5 B4 HX HMT
      have hm0 := lw_small m (by omega)
      have hzq : z = (z1 + 1) := by have := HZ.out; have := HZ1.out; have := HR8.out; clear hm hm0; omega
      have HSS := Lib.hid (show S = (z1 + 1) * 16777216 + m by rw [← hzq]; exact HS.out)
      clear hzq
      clear cs cl HA hT
      go_wp2_with fail
      go_ret
      refine ⟨?_, (by repeat' (first | (with_reducible exact Below.refl _ _) | (with_reducible assumption) | (with_reducible refine below_alloc ?_ _) | (with_reducible refine Below.drew ?_) | (with_reducible refine below_drewN ?_ _) | (with_reducible refine Below.setCell ?_ ?_ _) | go_size))⟩
      rw [HSS.out]
      first | rfl | (simp; done) | (simp; omega)
    · have HR8 := Lib.hid (show l ≠ 0 ∧ l % 8 ≠ 0 from ⟨HL0.out, h8⟩)
      obtain ⟨r, hr⟩ : ∃ r, r = l % 8 := ⟨_, rfl⟩
      rw [← hr] at e2
      have hr0 : ((r : Int) == 0) = false := by rw [beq_eq_false_iff_ne]; omega
      clear h8 hr
      go_wp2_with fail
      refine (cs.out _ (by have := HZ.out; have := HZ1.out; have := HR8.out; omega) _ B3).mono ?_
      rintro e w4 ⟨x, T, rfl, hx, hmT, hT, hb4⟩
      have HX := Lib.hid hx; have HMT := Lib.hid hmT
      have B4 := below_next B3 hb4
      clear hx hmT hb4
      go_wp2_with fail
      refine (words_any _ x m T HMT.out (by omega) _ HX.out).mono ?_
      rintro e w5 ⟨rfl, hb5⟩
      have B5 := below_next B4 hb5
      rw [Nat.mod_eq_of_lt (show m < 2 ^ 256 by omega)]
      generalize decide (2 ^ 256 ≤ m) = oo
      clear hb5 B4 HX HMT
      have hm0 := lw_small m (by omega)
      have hzq : z = z1 := by have := HZ.out; have := HZ1.out; have := HR8.out; clear hm hm0; omega
      have HSS := Lib.hid (show S = z1 * 16777216 + m by rw [← hzq]; exact HS.out)
      clear hzq
      clear cs cl HA hT
      go_wp2_with fail
      go_ret
      refine ⟨?_, (by repeat' (first | (with_reducible exact Below.refl _ _) | (with_reducible assumption) | (with_reducible refine below_alloc ?_ _) | (with_reducible refine Below.drew ?_) | (with_reducible refine below_drewN ?_ _) | (with_reducible refine Below.setCell ?_ ?_ _) | go_size))⟩
      rw [HSS.out]
      first | rfl | (simp; done) | (simp; omega)
end Go.Proofs.Ytnbppbnjkmopeaa
namespace Go.Proofs.Ytnbppbnjkmopeaa
open Go.RowKit

theorem bitLen_le {n k : Nat} (h : n < 2 ^ k) : bitLen n ≤ k := by
  by_cases h0 : n = 0
  · subst h0; exact Nat.zero_le _
  · have h1 := two_le_of h0
    have : bitLen n - 1 < k := (Nat.pow_lt_pow_iff_right (by omega : 1 < 2)).1 (Nat.lt_of_le_of_lt h1 h)
    omega
theorem len_over (n : Nat) : 256 < bitLen n ↔ 2 ^ 256 ≤ n := by
  constructor
  · intro h
    by_cases h2 : n < 2 ^ 256
    · have := bitLen_le h2; omega
    · omega
  · intro h
    have h2 := lt_two_bitLen n
    exact (Nat.pow_lt_pow_iff_right (by omega : 1 < 2)).1 (Nat.lt_of_le_of_lt h h2)

/-- what Next answers -/
def NxPost (o : Bool) (x : Nat) (w w' : World) (e : Ending) : Prop := e = .returned (if o = true then .tuple #[.int .u32 (sht x), .bool true] else .tuple #[.int .u32 0, .bool false]) ∧ Below w.heap.size w w'
theorem NxPost.no {w w' : World} {x : Nat} (h : Below w.heap.size w w') : NxPost false x w w' (.returned (.tuple #[.int .u32 0, .bool false])) := ⟨rfl, h⟩
theorem NxPost.yes {w w' : World} {x y : Nat} (e : y = x) (h : Below w.heap.size w w') : NxPost true x w w' (.returned (.tuple #[.int .u32 (sht y), .bool true])) := ⟨by rw [e]; rfl, h⟩

/-- the tail: which of quotient and limit -/
theorem nxN_over {t k s l : Nat} (h : 2 ^ 256 ≤ t * k) (h2 : 2 ^ 256 ≤ t / s * k) : nxN t k s l = l := by unfold nxN; rw [if_pos h, if_pos h2]
theorem nxN_first {t k s l : Nat} (h : 2 ^ 256 ≤ t * k) (h2 : ¬ 2 ^ 256 ≤ t / s * k) : nxN t k s l = min (t / s * k) l := by unfold nxN; rw [if_pos h, if_neg h2]
theorem nxN_plain {t k s l : Nat} (h : ¬ 2 ^ 256 ≤ t * k) : nxN t k s l = min (t * k / s) l := by unfold nxN; rw [if_neg h]

attribute [local irreducible] NxPost nxN
set_option maxRecDepth 100000 in
set_option maxHeartbeats 8000000 in
theorem refnextK_any (b : Nat) (hb : b < 4294967296) (took should : Int) (bl : Nat) (u : Value) (l : Nat) (hl : l < 2 ^ 256) (lK : Nat) (hlK : l < 2 ^ lK) (hK9 : lK ≤ 9000) (w : World) (h1 : BitsIs w bl u l lK) :
    Calls Try.prog 91 #[.int .u32 b, .int .i64 took, .int .i64 should, u] w fun e w' =>
      NxPost ((tgt b).2 && decide (1 ≤ should ∧ should ≤ 1099511627776)) (nxN (tgt b).1 (spn took should) should.toNat l) w w' e := by
  have HL := Lib.hid hl; have HLK := Lib.hid hlK
  have HA := Lib.hid h1
  have HT := Lib.hid (tgt_lt b)
  have cr := Lib.hid fun w => reftarget_any b hb w
  obtain ⟨o, ho⟩ : ∃ o, o = (tgt b).2 := ⟨_, rfl⟩
  obtain ⟨t, htt⟩ : ∃ t, t = (tgt b).1 := ⟨_, rfl⟩
  have he : tgt b = (t, o) := by rw [ho, htt]
  rw [he] at cr HT
  rw [he]
  obtain ⟨ok, hok⟩ : ∃ ok, ok = (o && decide (1 ≤ should ∧ should ≤ 1099511627776)) := ⟨_, rfl⟩
  obtain ⟨X, hX⟩ : ∃ X, X = nxN t (spn took should) should.toNat l := ⟨_, rfl⟩
  rw [show (t, o).2 = o from rfl, show (t, o).1 = t from rfl, ← hok, ← hX]
  have HOK := Lib.hid hok; have HX := Lib.hid hX
  have HT : Hid (t < 2 ^ 256) := HT
  clear ho htt he hb hl hlK h1 hok hX
  have B : Below w.heap.size w w := Below.refl _ _
  go_enter Try.func91, Try.ntmps91
  go_wp2_with fail
  refine (cr.out _).mono ?_
  rintro e w1 ⟨v, L, rfl, hv, hb1⟩
  have B1 := below_next B hb1
  clear hb1 B cr
  cases o
  · have HOK := Lib.hid (show ok = false by rw [HOK.out]; rfl)
    clear hv
    go_wp2_with fail
    exact bodyPost_ret (v := .tuple #[.int .u32 0, .bool false]) (by simp [results, Try.results91, go_sem]) rfl (by rw [HOK.out]; exact NxPost.no B1)
  · obtain ⟨hv1, hv2, hv3⟩ := hv rfl
    have HV : Hid (BitsIs w1 w.heap.size v t L) := Lib.hid hv1
    have HV2 : Hid (t < 2 ^ L) := Lib.hid hv2
    clear hv hv1 hv2
    by_cases h1 : should < 1
    · have HOK := Lib.hid (show ok = false by rw [HOK.out, decide_eq_false (by omega)]; rfl)
      go_wp2_with fail
      exact bodyPost_ret (v := .tuple #[.int .u32 0, .bool false]) (by simp [results, Try.results91, go_sem]) rfl (by rw [HOK.out]; exact NxPost.no B1)
    · by_cases h2 : 1099511627776 < should
      · have HOK := Lib.hid (show ok = false by rw [HOK.out, decide_eq_false (by omega)]; rfl)
        go_wp2_with fail
        exact bodyPost_ret (v := .tuple #[.int .u32 0, .bool false]) (by simp [results, Try.results91, go_sem]) rfl (by rw [HOK.out]; exact NxPost.no B1)
      · have HOKT := Lib.hid (show ok = true by rw [HOK.out, decide_eq_true (by omega)]; rfl)
        obtain ⟨s, rfl⟩ := Int.eq_ofNat_of_zero_le (show 0 ≤ should by omega)
        rw [Int.toNat_natCast] at HX
        have hsp := spn_facts took (s : Int) (by omega) (by omega)
        generalize spn took (s : Int) = k at *
        have HSP := Lib.hid hsp
        have hs1 : 1 ≤ s := by omega
        have hs2 : s ≤ 1099511627776 := by omega
        clear hsp
        go_upto_region 8 with fail
        all_goals
          first
            | (have hk : (s : Int) / 4 = (k : Int) := by
                 have h := (show took < (s : Int) / 4 by assumption)
                 have := HSP.out.1
                 omega
               rw [hk]
               clear hk)
            | (have hk : 4 * (s : Int) = (k : Int) := by
                 have h := (show 4 * (s : Int) < took by assumption)
                 have := HSP.out.1
                 omega
               rw [hk]
               clear hk)
            | (have hk : took = (k : Int) := by
                 have := HSP.out.1
                 omega
               subst hk)
          have hk2 : k < 18446744073709551616 := HSP.out.2
          have HK := Lib.hid (show k < 2 ^ 256 by omega)
          have HSL := Lib.hid (show s < 2 ^ 256 by omega)
          have csk := Lib.hid fun w => small_any k hk2 w
          have css := Lib.hid fun w => small_any s (by omega) w
          go_wp2_with fail
          refine (csk.out _).mono ?_
          rintro e w2 ⟨y, rfl, hy, hb2⟩
          have HY := Lib.hid hy
          have B2 := below_next B1 hb2
          have C2 := hb2
          clear hy hb2
          go_wp2_with fail
          refine (refmul_any _ v t L HV2.out _ y k 256 HK.out (by omega) (by omega) _ (HV.out.keep C2) HY.out).mono ?_
          rintro e w3 ⟨x, T1, rfl, hT1, hxl, hx, hb3⟩
          have HXX := Lib.hid hx; have HXL := Lib.hid hxl
          have B3 := below_next B2 hb3
          have C3 := below_next C2 hb3
          clear hx hxl hb3 B2 C2 HY
          go_wp2_with fail
          refine (css.out _).mono ?_
          rintro e w4 ⟨z, rfl, hz, hb4⟩
          have HXX4 := Lib.hid (HXX.out.keep hb4)
          have HZ := Lib.hid hz
          have B4 := below_next B3 hb4
          have C4 := below_next C3 hb4
          clear hz hb4 B3 C3 HXX
          go_wp2_with fail
          refine (refdiv_any _ x (t * k) T1 HXL.out _ z s 256 HSL.out (by omega) (by omega) (by omega) (by omega) _ HXX4.out HZ.out).mono ?_
          rintro e w5 ⟨q, r, T2, rfl, hq, -, -, -, hb5⟩
          have HXX5 := Lib.hid (HXX4.out.keep hb5)
          have HQ := Lib.hid hq
          have B5 := below_next B4 hb5
          have C5 := below_next C4 hb5
          clear hq hb5 B4 C4 HXX4 HZ
          go_wp2_with fail
          refine (length_any _ x (t * k) T1 HXL.out (by omega) _ HXX5.out).mono ?_
          rintro e w6 ⟨rfl, hb6⟩
          have HQ6 := Lib.hid (HQ.out.keep hb6)
          have B6 := below_next B5 hb6
          have C6 := below_next C5 hb6
          clear hb6 B5 C5 HXX5 HQ
          have hlen := len_over (t * k)
          by_cases hov : 2 ^ 256 ≤ t * k
          · have hl1 : (256 : Int) < (bitLen (t * k) : Int) := by have := hlen.2 hov; omega
            have HOV := Lib.hid hov
            generalize bitLen (t * k) = ln at *
            clear hlen hov HQ6
            go_wp2_with fail
            refine (css.out _).mono ?_
            rintro e w7 ⟨z, rfl, hz, hb7⟩
            have HZ := Lib.hid hz
            have B7 := below_next B6 hb7
            have C7 := below_next C6 hb7
            clear hz hb7 B6 C6
            go_wp2_with fail
            refine (refdiv_any _ v t L HV2.out _ z s 256 HSL.out (by omega) (by omega) (by omega) (by omega) _ (HV.out.keep C7) HZ.out).mono ?_
            rintro e w8 ⟨q1, r1, T3, rfl, hq, -, -, -, hb8⟩
            have HQ := Lib.hid hq
            have B8 := below_next B7 hb8
            clear hq hb8 B7 C7 HZ
            go_wp2_with fail
            refine (csk.out _).mono ?_
            rintro e w9 ⟨y, rfl, hy, hb9⟩
            have HY := Lib.hid hy
            have HQ9 := Lib.hid (HQ.out.keep hb9)
            have B9 := below_next B8 hb9
            clear hy hb9 B8 HQ
            have HTS := Lib.hid (show t / s < 2 ^ L from Nat.lt_of_le_of_lt (Nat.div_le_self _ _) HV2.out)
            go_wp2_with fail
            refine (refmul_any _ q1 (t / s) L HTS.out _ y k 256 HK.out (by omega) (by omega) _ HQ9.out HY.out).mono ?_
            rintro e w10 ⟨q2, T4, rfl, hT4, hql, hq, hb10⟩
            have HQ := Lib.hid hq; have HQT := Lib.hid hql
            have B10 := below_next B9 hb10
            clear hq hql hb10 B9 HQ9 HY
            go_wp2_with fail
            refine (length_any _ q2 (t / s * k) T4 HQT.out (by omega) _ HQ.out).mono ?_
            rintro e w11 ⟨rfl, hb11⟩
            have HQ11 := Lib.hid (HQ.out.keep hb11)
            have B11 := below_next B10 hb11
            clear hb11 B10 HQ
            have hlen2 := len_over (t / s * k)
            by_cases hov2 : 2 ^ 256 ≤ t / s * k
            · have hl2 : (256 : Int) < (bitLen (t / s * k) : Int) := by have := hlen2.2 hov2; omega
              have HOV2 := Lib.hid hov2
              generalize bitLen (t / s * k) = ln2 at *
              clear hlen2 hov2
              go_wp2_with fail
              refine (refshort_any _ _ l lK HL.out HLK.out (by omega) _ (HA.out.keep B11)).mono ?_
              rintro e wz ⟨rfl, hbz⟩
              have Bz := below_next B11 hbz
              clear hbz
              go_wp2_with fail
              exact bodyPost_ret (v := .tuple #[.int .u32 (sht l), .bool true]) (by simp [results, Try.results91, go_sem]) rfl (by rw [HOKT.out]; exact NxPost.yes (by rw [HX.out, nxN_over HOV.out HOV2.out]) Bz)
            · have hl2 : ¬ (256 : Int) < (bitLen (t / s * k) : Int) := by have := fun h => hov2 (hlen2.1 h); omega
              have HOV2 := Lib.hid hov2
              have HQL := Lib.hid (show t / s * k < 2 ^ 256 by omega)
              generalize bitLen (t / s * k) = ln2 at *
              clear hlen2 hov2
              go_wp2_with fail
              refine (less_any _ _ l lK HLK.out _ _ (t / s * k) T4 HQT.out (by omega) (by omega) _ (HA.out.keep B11) HQ11.out).mono ?_
              rintro e wl ⟨rfl, hbl⟩
              have Bl := below_next B11 hbl
              have HQl := Lib.hid (HQ11.out.keep hbl)
              clear hbl
              by_cases hlq : l < (t / s * k)
              · rw [decide_eq_true hlq]
                have HLQ := Lib.hid hlq
                clear hlq
                go_wp2_with fail
                refine (refshort_any _ _ l lK HL.out HLK.out (by omega) _ (HA.out.keep Bl)).mono ?_
                rintro e wz ⟨rfl, hbz⟩
                have Bz := below_next Bl hbz
                clear hbz
                go_wp2_with fail
                exact bodyPost_ret (v := .tuple #[.int .u32 (sht l), .bool true]) (by simp [results, Try.results91, go_sem]) rfl (by rw [HOKT.out]; exact NxPost.yes (by rw [HX.out, nxN_first HOV.out HOV2.out]; have := HLQ.out; omega) Bz)
              · rw [decide_eq_false hlq]
                have HLQ := Lib.hid hlq
                clear hlq
                go_wp2_with fail
                refine (refshort_any _ _ (t / s * k) T4 HQL.out HQT.out (by omega) _ HQl.out).mono ?_
                rintro e wz ⟨rfl, hbz⟩
                have Bz := below_next Bl hbz
                clear hbz
                go_wp2_with fail
                exact bodyPost_ret (v := .tuple #[.int .u32 (sht ((t / s * k))), .bool true]) (by simp [results, Try.results91, go_sem]) rfl (by rw [HOKT.out]; exact NxPost.yes (by rw [HX.out, nxN_first HOV.out HOV2.out]; have := HLQ.out; omega) Bz)
          · have hl1 : ¬ (256 : Int) < (bitLen (t * k) : Int) := by have := fun h => hov (hlen.1 h); omega
            have HOV := Lib.hid hov
            have HQL := Lib.hid (show t * k / s < 2 ^ 256 by have := Nat.div_le_self (t * k) s; omega)
            have HQT := Lib.hid (show t * k / s < 2 ^ T1 from Nat.lt_of_le_of_lt (Nat.div_le_self _ _) HXL.out)
            generalize bitLen (t * k) = ln at *
            clear hlen hov
            go_wp2_with fail
            refine (length_any _ q (t * k / s) T1 HQT.out (by omega) _ HQ6.out).mono ?_
            rintro e w11 ⟨rfl, hb11⟩
            have HQ11 := Lib.hid (HQ6.out.keep hb11)
            have B11 := below_next B6 hb11
            clear hb11 B6 C6 HQ6
            have hl2 : ¬ (256 : Int) < (bitLen (t * k / s) : Int) := by have := bitLen_le HQL.out; omega
            generalize bitLen (t * k / s) = ln2 at *
            go_wp2_with fail
            refine (less_any _ _ l lK HLK.out _ _ (t * k / s) T1 HQT.out (by omega) (by omega) _ (HA.out.keep B11) HQ11.out).mono ?_
            rintro e wl ⟨rfl, hbl⟩
            have Bl := below_next B11 hbl
            have HQl := Lib.hid (HQ11.out.keep hbl)
            clear hbl
            by_cases hlq : l < (t * k / s)
            · rw [decide_eq_true hlq]
              have HLQ := Lib.hid hlq
              clear hlq
              go_wp2_with fail
              refine (refshort_any _ _ l lK HL.out HLK.out (by omega) _ (HA.out.keep Bl)).mono ?_
              rintro e wz ⟨rfl, hbz⟩
              have Bz := below_next Bl hbz
              clear hbz
              go_wp2_with fail
              exact bodyPost_ret (v := .tuple #[.int .u32 (sht l), .bool true]) (by simp [results, Try.results91, go_sem]) rfl (by rw [HOKT.out]; exact NxPost.yes (by rw [HX.out, nxN_plain HOV.out]; have := HLQ.out; omega) Bz)
            · rw [decide_eq_false hlq]
              have HLQ := Lib.hid hlq
              clear hlq
              go_wp2_with fail
              refine (refshort_any _ _ (t * k / s) T1 HQL.out HQT.out (by omega) _ HQl.out).mono ?_
              rintro e wz ⟨rfl, hbz⟩
              have Bz := below_next Bl hbz
              clear hbz
              go_wp2_with fail
              exact bodyPost_ret (v := .tuple #[.int .u32 (sht ((t * k / s))), .bool true]) (by simp [results, Try.results91, go_sem]) rfl (by rw [HOKT.out]; exact NxPost.yes (by rw [HX.out, nxN_plain HOV.out]; have := HLQ.out; omega) Bz)
theorem refnext_any (b : Nat) (hb : b < 4294967296) (took should : Int) (bl : Nat) (u : Value) (l : Nat) (hl : l < 2 ^ 256) (w : World) (h1 : BitsIs w bl u l 256) :
    Calls Try.prog 91 #[.int .u32 b, .int .i64 took, .int .i64 should, u] w fun e w' =>
      NxPost ((tgt b).2 && decide (1 ≤ should ∧ should ≤ 1099511627776)) (nxN (tgt b).1 (spn took should) should.toNat l) w w' e :=
  refnextK_any b hb took should bl u l hl 256 hl (by omega) w h1
end Go.Proofs.Ytnbppbnjkmopeaa
