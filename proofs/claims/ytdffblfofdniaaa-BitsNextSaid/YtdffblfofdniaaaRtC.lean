/- tallystickref03.Short. No condition. -/
import Derived.Test.YtdffblfofdniaaaRtB
namespace Go.Proofs.Ytdffblfofdniaaa
open Go.RowKit

theorem tgt_not {b : Nat} (h : (tgt b).2 = false) : (tgt b).1 = 0 := by
  unfold tgt at h ⊢
  split
  · rfl
  · split
    · rfl
    · split
      · rename_i h1 h2 h3
        rw [if_neg h1, if_neg h2, if_pos h3] at h
        simpa using h
      · split
        · rfl
        · rename_i h1 h2 h3 h4
          rw [if_neg h1, if_neg h2, if_neg h3, if_neg h4] at h
          cases h
theorem wrk_mod (t : Nat) (h2 : t < 2 ^ 256) : wrk t = 2 ^ 256 / (t + 1) % 2 ^ 256 := by
  have e := Nat.div_eq_sub_div (a := 2 ^ 256) (b := t + 1) (by omega) (by omega)
  unfold wrk
  split
  · have : t + 1 = 2 ^ 256 := by omega
    rw [this, Nat.div_self (by omega)]
  · rw [show 2 ^ 256 - 1 - t = 2 ^ 256 - (t + 1) by omega, ← e]
/-- how many bytes the short form says -/
def shz (n : Nat) : Nat := if n = 0 then 0 else bitLen n / 8 + 1
theorem mant_zero : mant 0 = 0 := by decide
theorem sht_all (n : Nat) : sht n = shz n * 16777216 + mant n := by
  unfold shz
  by_cases h : n = 0
  · subst h; rw [if_pos rfl, sht_zero, mant_zero]
  · rw [if_neg h, sht_eq h]
theorem shift_m {w : World} {b1 : Nat} {v : Value} {n L : Nat} (hn : n < 2 ^ 256) (hnL : n < 2 ^ L) (hL : L ≤ 9000) (c : Int) (hc : c = -8 * ((shz n : Int) - 3)) (h : BitsIs w b1 v n L) :
    Calls Try.prog 33 #[v, .int .i64 c] w fun e w' => ∃ x T, e = .returned x ∧ BitsIs w' w.heap.size x (mant n) T ∧ mant n < 2 ^ T ∧ T ≤ 9100 ∧ Below w.heap.size w w' := by
  have hl := bitLen_num n hn
  subst hc
  by_cases h0 : n = 0
  · have hz : shz n = 0 := by unfold shz; rw [if_pos h0]
    have hm : mant n = n * 2 ^ 24 := by rw [h0, mant_zero, Nat.zero_mul]
    rw [hz, hm, show -8 * (((0 : Nat) : Int) - 3) = ((24 : Nat) : Int) by omega]
    refine (shiftl_any b1 v n L hnL 24 (by omega) (by omega) w h).mono fun e w' ⟨x, he, hx, hb⟩ => ⟨x, L + 24, he, hx, shl_lt hnL, by omega, hb⟩
  · have hz : shz n = bitLen n / 8 + 1 := by unfold shz; rw [if_neg h0]
    rw [hz]
    by_cases h2 : bitLen n / 8 ≤ 2
    · have hm : mant n = n * 2 ^ (8 * (2 - bitLen n / 8)) := by unfold mant; rw [if_pos h2]
      rw [hm, show -8 * (((bitLen n / 8 + 1 : Nat) : Int) - 3) = ((8 * (2 - bitLen n / 8) : Nat) : Int) by omega]
      refine (shiftl_any b1 v n L hnL _ (by omega) (by omega) w h).mono fun e w' ⟨x, he, hx, hb⟩ => ⟨x, L + 8 * (2 - bitLen n / 8), he, hx, shl_lt hnL, by omega, hb⟩
    · have hm : mant n = n / 2 ^ (8 * (bitLen n / 8 - 2)) := by unfold mant; rw [if_neg h2]
      rw [hm, show -8 * (((bitLen n / 8 + 1 : Nat) : Int) - 3) = -((8 * (bitLen n / 8 - 2) : Nat) : Int) by omega]
      have hlt : n / 2 ^ (8 * (bitLen n / 8 - 2)) < 2 ^ (L - 8 * (bitLen n / 8 - 2)) := by
        by_cases hLk : 8 * (bitLen n / 8 - 2) ≤ L
        · rw [Nat.div_lt_iff_lt_mul (Nat.two_pow_pos _), ← Nat.pow_add, Nat.sub_add_cancel hLk]; exact hnL
        · rw [Nat.div_eq_of_lt (Nat.lt_of_lt_of_le hnL (Nat.pow_le_pow_right (by omega) (by omega)))]; exact Nat.two_pow_pos _
      refine (shiftr_any b1 v n L hnL _ (by omega) (by omega) w h).mono fun e w' ⟨x, he, hx, hb⟩ => ⟨x, L - 8 * (bitLen n / 8 - 2), he, hx, hlt, by omega, hb⟩

attribute [local irreducible] shz mant
set_option maxRecDepth 100000 in
set_option maxHeartbeats 4000000 in
theorem refshort_any (b1 : Nat) (v : Value) (n L : Nat) (hn : n < 2 ^ 256) (hnL : n < 2 ^ L) (hL : L ≤ 9000) (w : World) (h1 : BitsIs w b1 v n L) :
    Calls Try.prog 50 #[v] w fun e w' => e = .returned (.int .u32 (sht n)) ∧ Below w.heap.size w w' := by
  have HA := Lib.hid h1
  have cl := Lib.hid fun w1 (hb : Below w.heap.size w w1) => length_any b1 v n L hnL (by omega) w1 (h1.keep hb)
  have cs := Lib.hid fun (c : Int) hc w1 (hb : Below w.heap.size w w1) => shift_m hn hnL hL c hc (h1.keep hb)
  have hl := bitLen_num n hn
  have hsa := sht_all n
  have hm := mant_lt n
  have hz : (n = 0 ∧ bitLen n = 0 ∧ shz n = 0) ∨ (bitLen n ≠ 0 ∧ shz n = bitLen n / 8 + 1) := by
    by_cases h0 : n = 0
    · left; refine ⟨h0, by rw [h0]; rfl, by unfold shz; rw [if_pos h0]⟩
    · right; refine ⟨fun h => h0 (bitLen_zero.1 h), by unfold shz; rw [if_neg h0]⟩
  generalize hll : bitLen n = l at *
  generalize hzz : shz n = z at *
  generalize hss : sht n = S at *
  generalize hmm : mant n = m at *
  have HS := Lib.hid hsa; have HZ := Lib.hid hz
  obtain ⟨z1, hz1⟩ : ∃ z1, z1 = (l + 7) / 8 := ⟨_, rfl⟩
  have HZ1 := Lib.hid hz1
  have hz1b : z1 ≤ 32 := by omega
  have es : ((l : Int) + 7) / 8 = (z1 : Int) := by omega
  clear hsa hz hz1 hll hzz hss hmm h1 hn hnL hL
  have B : Below w.heap.size w w := Below.refl _ _
  go_enter Try.func50, Try.ntmps50
  go_wp2_with fail
  refine (cl.out _ B).mono ?_
  rintro e w1 ⟨rfl, hb1⟩
  have B1 := below_next B hb1
  clear hb1 B
  go_wp2_with fail
  refine (cl.out _ B1).mono ?_
  rintro e w2 ⟨rfl, hb2⟩
  have B2 := below_next B1 hb2
  clear hb2 B1
  rw [es]
  clear es
  by_cases hl0 : l = 0
  · have HR8 := Lib.hid (show l = 0 from hl0)
    have hl0' : ¬ (0 : Int) < (l : Int) := by omega
    clear hl0
    go_wp2_with fail
    refine (cs.out _ (by have := HZ.out; have := HZ1.out; have := HR8.out; omega) _ B2).mono ?_
    rintro e w4 ⟨x, T, rfl, hx, hmT, hT, hb4⟩
    have HX := Lib.hid hx; have HMT := Lib.hid hmT
    have B4 := below_next B2 hb4
    clear hx hmT hb4
    go_wp2_with fail
    refine (words_any _ x m T HMT.out (by omega) _ HX.out).mono ?_
    rintro e w5 ⟨rfl, hb5⟩
    have B5 := below_next B4 hb5
    rw [Nat.mod_eq_of_lt (show m < 2 ^ 256 by omega)]
    generalize decide (2 ^ 256 ≤ m) = oo
    clear hb5 B4 HX HMT
    have hm0 := lw_small m (by omega)
    have hzq : z = z1 := by have := HZ.out; have := HZ1.out; have := HR8.out; clear hm hm0; omega
    have HSS := Lib.hid (show S = z1 * 16777216 + m by rw [← hzq]; exact HS.out)
    clear hzq
    clear cs cl HA hT
    go_wp2_with fail
    go_ret
    refine ⟨?_, (by repeat' (first | (with_reducible exact Below.refl _ _) | (with_reducible assumption) | (with_reducible refine below_alloc ?_ _) | (with_reducible refine Below.drew ?_) | (with_reducible refine below_drewN ?_ _) | (with_reducible refine Below.setCell ?_ ?_ _) | go_size))⟩
    rw [HSS.out]
    first | rfl | (simp; done) | (simp; omega)
  · have hl0' : (0 : Int) < (l : Int) := by omega
    have HL0 := Lib.hid hl0
    have e2 : Int.tmod (l : Int) 8 = ((l % 8 : Nat) : Int) := by rw [Int.tmod_eq_emod_of_nonneg (by omega)]; omega
    clear hl0
    go_wp2_with fail
    refine (cl.out _ B2).mono ?_
    rintro e w3 ⟨rfl, hb3⟩
    have B3 := below_next B2 hb3
    clear hb3 B2
    by_cases h8 : l % 8 = 0
    · have HR8 := Lib.hid (show l ≠ 0 ∧ l % 8 = 0 from ⟨HL0.out, h8⟩)
      rw [h8] at e2
      clear h8
      go_wp2_with fail
      refine (cs.out _ (by have := HZ.out; have := HZ1.out; have := HR8.out; omega) _ B3).mono ?_
      rintro e w4 ⟨x, T, rfl, hx, hmT, hT, hb4⟩
      have HX := Lib.hid hx; have HMT := Lib.hid hmT
      have B4 := below_next B3 hb4
      clear hx hmT hb4
      go_wp2_with fail
      refine (words_any _ x m T HMT.out (by omega) _ HX.out).mono ?_
      rintro e w5 ⟨rfl, hb5⟩
      have B5 := below_next B4 hb5
      rw [Nat.mod_eq_of_lt (show m < 2 ^ 256 by omega)]
      generalize decide (2 ^ 256 ≤ m) = oo
      clear hb5 B4 HX HMT
      have hm0 := lw_small m (by omega)
      have hzq : z = (z1 + 1) := by have := HZ.out; have := HZ1.out; have := HR8.out; clear hm hm0; omega
      have HSS := Lib.hid (show S = (z1 + 1) * 16777216 + m by rw [← hzq]; exact HS.out)
      clear hzq
      clear cs cl HA hT
      go_wp2_with fail
      go_ret
      refine ⟨?_, (by repeat' (first | (with_reducible exact Below.refl _ _) | (with_reducible assumption) | (with_reducible refine below_alloc ?_ _) | (with_reducible refine Below.drew ?_) | (with_reducible refine below_drewN ?_ _) | (with_reducible refine Below.setCell ?_ ?_ _) | go_size))⟩
      rw [HSS.out]
      first | rfl | (simp; done) | (simp; omega)
    · have HR8 := Lib.hid (show l ≠ 0 ∧ l % 8 ≠ 0 from ⟨HL0.out, h8⟩)
      obtain ⟨r, hr⟩ : ∃ r, r = l % 8 := ⟨_, rfl⟩
      rw [← hr] at e2
      have hr0 : ((r : Int) == 0) = false := by rw [beq_eq_false_iff_ne]; omega
      clear h8 hr
      go_wp2_with fail
      refine (cs.out _ (by have := HZ.out; have := HZ1.out; have := HR8.out; omega) _ B3).mono ?_
      rintro e w4 ⟨x, T, rfl, hx, hmT, hT, hb4⟩
      have HX := Lib.hid hx; have HMT := Lib.hid hmT
      have B4 := below_next B3 hb4
      clear hx hmT hb4
      go_wp2_with fail
      refine (words_any _ x m T HMT.out (by omega) _ HX.out).mono ?_
      rintro e w5 ⟨rfl, hb5⟩
      have B5 := below_next B4 hb5
      rw [Nat.mod_eq_of_lt (show m < 2 ^ 256 by omega)]
      generalize decide (2 ^ 256 ≤ m) = oo
      clear hb5 B4 HX HMT
      have hm0 := lw_small m (by omega)
      have hzq : z = z1 := by have := HZ.out; have := HZ1.out; have := HR8.out; clear hm hm0; omega
      have HSS := Lib.hid (show S = z1 * 16777216 + m by rw [← hzq]; exact HS.out)
      clear hzq
      clear cs cl HA hT
      go_wp2_with fail
      go_ret
      refine ⟨?_, (by repeat' (first | (with_reducible exact Below.refl _ _) | (with_reducible assumption) | (with_reducible refine below_alloc ?_ _) | (with_reducible refine Below.drew ?_) | (with_reducible refine below_drewN ?_ _) | (with_reducible refine Below.setCell ?_ ?_ _) | go_size))⟩
      rw [HSS.out]
      first | rfl | (simp; done) | (simp; omega)
end Go.Proofs.Ytdffblfofdniaaa
