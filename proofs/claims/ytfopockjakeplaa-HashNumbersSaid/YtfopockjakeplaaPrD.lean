/- tallystickref01.cube, Rounds. No condition. -/
import Derived.Test.YtfopockjakeplaaPrC
namespace Go.Proofs.Ytfopockjakeplaa
open Go.RowKit

theorem fiveB : cdg (16777216 ^ 4) = [0, 0, 0, 0, 1] := by kernel_rfl
theorem dat_row {w : World} {g : Nat} {l : List Nat} {n c : Nat} (hn : l.length = n) (h : w.heap[g]? = some (drow l)) : DAt w (.slice (some ⟨g, 0, none⟩) n c) l :=
  ⟨some ⟨g, 0, none⟩, c, by rw [hn], fun _ => ⟨g, rfl, fun j hj => drow_cell h j hj⟩⟩
set_option maxRecDepth 100000 in
set_option maxHeartbeats 4000000 in
theorem cube_any (a n : Nat) (ha : a < 16777216 ^ 2) (hn : n < 16777216) (w : World) :
    Calls Try.prog 34 #[.int .u64 a, .int .i64 n] w fun e w' => e = .returned (.bool (decide (a ^ 3 ≤ n * 16777216 ^ 4))) ∧ Below w.heap.size w w' := by
  obtain ⟨R, hR⟩ : ∃ R, R = decide (a ^ 3 ≤ n * 16777216 ^ 4) := ⟨_, rfl⟩
  rw [← hR]
  have hal : (cdg a).length ≤ 2 := cdg_len ha (by omega)
  have hac := cdg_canon (n := a) (Nat.lt_of_lt_of_le ha (Nat.pow_le_pow_right (by omega) (by omega)))
  have hav := cdg_val (n := a) (Nat.lt_of_lt_of_le ha (Nat.pow_le_pow_right (by omega) (by omega)))
  have hb : a * a < 16777216 ^ 4 := by
    have := Nat.mul_lt_mul'' ha ha
    rwa [← Nat.pow_add] at this
  have hbl : (cdg (a * a)).length ≤ 4 := cdg_len hb (by omega)
  have hbc := cdg_canon (n := a * a) (Nat.lt_of_lt_of_le hb (Nat.pow_le_pow_right (by omega) (by omega)))
  have hbv := cdg_val (n := a * a) (Nat.lt_of_lt_of_le hb (Nat.pow_le_pow_right (by omega) (by omega)))
  have hc : a * a * a < 16777216 ^ 6 := by
    have := Nat.mul_lt_mul'' hb ha
    rwa [← Nat.pow_add] at this
  have hcl : (cdg (a * a * a)).length ≤ 6 := cdg_len hc (by omega)
  have hcc := cdg_canon (n := a * a * a) (Nat.lt_of_lt_of_le hc (Nat.pow_le_pow_right (by omega) (by omega)))
  have hcv := cdg_val (n := a * a * a) (Nat.lt_of_lt_of_le hc (Nat.pow_le_pow_right (by omega) (by omega)))
  have hnp : n < 16777216 ^ 1 := by rw [Nat.pow_one]; exact hn
  have hnl : (cdg n).length ≤ 1 := cdg_len hnp (by omega)
  have hnc := cdg_canon (n := n) (Nat.lt_of_lt_of_le hnp (Nat.pow_le_pow_right (by omega) (by omega)))
  have hnv := cdg_val (n := n) (Nat.lt_of_lt_of_le hnp (Nat.pow_le_pow_right (by omega) (by omega)))
  have hd : n * 16777216 ^ 4 < 16777216 ^ 5 := by
    have := Nat.mul_lt_mul_of_pos_right hnp (show 0 < 16777216 ^ 4 by exact Nat.pow_pos (by omega))
    rwa [← Nat.pow_add] at this
  have hdl : (cdg (n * 16777216 ^ 4)).length ≤ 5 := cdg_len hd (by omega)
  have hdc := cdg_canon (n := n * 16777216 ^ 4) (Nat.lt_of_lt_of_le hd (Nat.pow_le_pow_right (by omega) (by omega)))
  have hdv := cdg_val (n := n * 16777216 ^ 4) (Nat.lt_of_lt_of_le hd (Nat.pow_le_pow_right (by omega) (by omega)))
  have h5v : val [0, 0, 0, 0, 1] = 16777216 ^ 4 := by decide
  have cd := Lib.hid fun W => digits_any a (Nat.lt_of_lt_of_le ha (by decide)) W
  have cn := Lib.hid fun W => digits_any n (by omega) W
  have m1 := Lib.hid fun (va vb : Value) (W : World) (h1 : DAt W va (cdg a)) (h2 : DAt W vb (cdg a)) => mulr_any (cdg a) (cdg a) (canon_dig _ hac) (canon_dig _ hac) (by omega) (by omega) va vb W h1 h2
  have m2 := Lib.hid fun (va vb : Value) (W : World) (h1 : DAt W va (cdg (a * a))) (h2 : DAt W vb (cdg a)) => mulr_any (cdg (a * a)) (cdg a) (canon_dig _ hbc) (canon_dig _ hac) (by omega) (by omega) va vb W h1 h2
  have m3 := Lib.hid fun (va vb : Value) (W : World) (h1 : DAt W va (cdg n)) (h2 : DAt W vb [0, 0, 0, 0, 1]) => mulr_any (cdg n) [0, 0, 0, 0, 1] (canon_dig _ hnc) (by decide) (by omega) (by decide) va vb W h1 h2
  have cm := Lib.hid fun (va vb : Value) (W : World) (h1 : DAt W va (cdg (a * a * a))) (h2 : DAt W vb (cdg (n * 16777216 ^ 4))) => more_any (cdg (a * a * a)) (cdg (n * 16777216 ^ 4)) hcc hdc (by omega) (by omega) va vb W h1 h2
  rw [hav] at m1
  rw [hav, hbv] at m2
  rw [hnv, h5v] at m3
  rw [hcv, hdv] at cm
  obtain ⟨d, hdd⟩ : ∃ d, d = decide (n * 16777216 ^ 4 < a * a * a) := ⟨_, rfl⟩
  rw [← hdd] at cm
  have HRD : Hid ((!d) = R) := Lib.hid (by
    rw [hR, hdd, show a ^ 3 = a * a * a by rw [Nat.pow_succ, Nat.pow_succ, Nat.pow_one], Bool.eq_iff_iff]
    simp)
  obtain ⟨A, hA⟩ : ∃ A, A = cdg a := ⟨_, rfl⟩
  obtain ⟨B, hB⟩ : ∃ B, B = cdg (a * a) := ⟨_, rfl⟩
  obtain ⟨C, hC⟩ : ∃ C, C = cdg (a * a * a) := ⟨_, rfl⟩
  obtain ⟨D, hD⟩ : ∃ D, D = cdg (n * 16777216 ^ 4) := ⟨_, rfl⟩
  obtain ⟨E, hE⟩ : ∃ E, E = cdg n := ⟨_, rfl⟩
  rw [← hA] at cd m1 m2
  rw [← hB] at m1 m2
  rw [← hC] at m2 cm
  rw [← hD] at m3 cm
  rw [← hE] at m3 cn
  have hn0 : (0 : Int) ≤ (n : Int) := by omega
  have hn1 : (n : Int) < 16777216 := by omega
  clear hR hal hac hav hb hbl hbc hbv hc hcl hcc hcv hnp hnl hnc hnv hd hdl hdc hdv h5v hdd hA hB hC hD hE ha hn
  go_enter Try.func34, Try.ntmps34
  go_wp2_with fail
  refine (cd.out _).mono ?_
  rintro e w1 ⟨v1, rfl, d1, b1⟩
  have D1 := Lib.hid d1; have B1 := Lib.hid b1
  clear d1 b1
  go_wp2_with fail
  refine (cd.out _).mono ?_
  rintro e w2 ⟨v2, rfl, d2, b2⟩
  have D1b := Lib.hid (D1.out.keep b2); have D2 := Lib.hid d2; have B2 := Lib.hid (below_next B1.out b2)
  clear d2 b2 D1 B1
  go_wp2_with fail
  refine (m1.out _ _ _ D1b.out D2.out).mono ?_
  rintro e w3 ⟨v3, rfl, d3, b3⟩
  have D3 := Lib.hid d3; have B3 := Lib.hid (below_next B2.out b3)
  clear d3 b3 D1b D2 B2
  go_wp2_with fail
  refine (cd.out _).mono ?_
  rintro e w4 ⟨v4, rfl, d4, b4⟩
  have D3b := Lib.hid (D3.out.keep b4); have D4 := Lib.hid d4; have B4 := Lib.hid (below_next B3.out b4)
  clear d4 b4 D3 B3
  go_wp2_with fail
  refine (m2.out _ _ _ D3b.out D4.out).mono ?_
  rintro e w5 ⟨v5, rfl, d5, b5⟩
  have D5 := Lib.hid d5; have B5 := Lib.hid (below_next B4.out b5)
  clear d5 b5 D3b D4 B4
  go_wp2_with fail
  refine (cn.out _).mono ?_
  rintro e w6 ⟨v6, rfl, d6, b6⟩
  have D5b := Lib.hid (D5.out.keep b6); have D6 := Lib.hid d6; have B6 := Lib.hid (below_next B5.out b6)
  clear d6 b6 D5 B5
  go_wp2_with fail
  refine (m3.out _ _ _ (D6.out.keep (below_alloc (Below.refl _ _) _)) (dat_row rfl (heap_new w6 _))).mono ?_
  rintro e w7 ⟨v7, rfl, d7, b7⟩
  have D5c := Lib.hid ((D5b.out.keep (below_alloc (Below.refl _ _) _)).keep b7); have D7 := Lib.hid d7; have B7 := Lib.hid (below_next (below_alloc B6.out _) b7)
  clear d7 b7 D5b D6 B6
  go_wp2_with fail
  refine (cm.out _ _ _ D5c.out D7.out).mono ?_
  rintro e w8 ⟨rfl, b8⟩
  have B8 := Lib.hid (below_next B7.out b8)
  clear b8 D5c D7 B7
  go_wp2_with fail
  go_ret
  exact ⟨by rw [← HRD.out]; rfl, B8.out⟩

set_option maxRecDepth 100000 in
set_option maxHeartbeats 4000000 in
theorem rounds_any (w : World) : Calls Try.prog 22 #[] w fun e w' => ∃ v, e = .returned v ∧ OwnsU w' w.heap.size v ks ∧ Below w.heap.size w w' := by
  go_enter Try.func22, Try.ntmps22
  go_wp2_with fail
  have r2 : rl 2 = [] := by kernel_rfl
  go_loopg [1, 2] 310 (fun g ov pv wr => ∃ p : Nat, g = 312 - p ∧ p ≤ 312 ∧ pv = .int .i64 p ∧ OwnsU wr w.heap.size ov (rl p) ∧ Below w.heap.size w wr)
  case atStart => exact ⟨2, by omega, by omega, rfl, by rw [r2]; exact OwnsU.nil _ _, Below.refl _ _⟩
  case round =>
    clear r2
    obtain ⟨p, hg, hp, rfl, hO, hB⟩ := hrel
    have HG := Lib.hid hg; have HO := Lib.hid hO; have HB := Lib.hid hB
    obtain ⟨x, cap, rfl⟩ := hO.shape
    have HEND := Lib.hid (@rl_end p hp); have HLESS := Lib.hid (@rl_less p); have HSUC := Lib.hid (rl_succ p)
    obtain ⟨q, hq⟩ : ∃ q, q = rl p := ⟨_, rfl⟩
    rw [← hq] at HO HEND HLESS HSUC
    rw [← hq]
    obtain ⟨L, hL⟩ : ∃ L, L = q.length := ⟨_, rfl⟩
    rw [← hL] at HEND HLESS HO
    rw [← hL]
    have HLL := Lib.hid hL
    clear hg hO hB hq hL
    by_cases h64 : L < 64
    · have hp1 := HLESS.out h64
      have h64' : (L : Int) < 64 := by omega
      have cp := Lib.hid fun W => prime_any p (by omega) W
      obtain ⟨T, hT⟩ : ∃ T, T = crt 36 0 p := ⟨_, rfl⟩
      have hrt : rtP p = T % 4294967296 := by rw [hT]; rfl
      have HT := Lib.hid hT
      obtain ⟨d, hd⟩ : ∃ d, d = isP p := ⟨_, rfl⟩
      rw [← hd] at cp HSUC
      rw [hrt] at HSUC
      clear hT hrt hd HEND HLESS
      go_wp2_with fail
      refine (cp.out _).mono ?_
      rintro e w1 ⟨rfl, rfl⟩
      clear cp
      cases d
      · have hs := HSUC.out
        rw [if_neg (by simp)] at hs
        have HS := Lib.hid hs
        clear hs HSUC HT
        go_wp2_with fail
        go_roundg (312 - (p + 1))
        case measure => have := HG.out; omega
        case rel => exact ⟨p + 1, rfl, by omega, by go_num, by rw [HS.out]; exact HO.out, HB.out⟩
      · have hs := HSUC.out
        rw [if_pos rfl] at hs
        have HS := Lib.hid hs
        clear hs HSUC
        obtain ⟨wo, rfl⟩ : ∃ wo : World, wo = wr := ⟨_, rfl⟩
        go_wp2_with fail
        go_loopg [3, 4] 36 (fun g av bv wr2 => ∃ f a : Nat, g = f ∧ f ≤ 36 ∧ a + 2 ^ f ≤ 68719476736 ∧ crt f a p = T ∧ av = .int .u64 a ∧ bv = .int .u64 ((2 ^ f / 2 : Nat) : Int) ∧ Below wo.heap.size wo wr2)
        case atStart => exact ⟨36, 0, rfl, by omega, by omega, HT.out.symm, rfl, rfl, Below.refl _ _⟩
        case round =>
          clear HT
          obtain ⟨f, a, hg, hf, hab, hR, rfl, rfl, hB2⟩ := hrel
          have HG2 := Lib.hid hg; have HR := Lib.hid hR; have HB2 := Lib.hid hB2; have HAB := Lib.hid hab
          clear hg hR hB2 hab
          cases f with
          | zero =>
            have ha : a = T := HR.out
            have hal : a ≤ 68719476736 := by have := HAB.out; omega
            rw [show ((2 ^ 0 / 2 : Nat) : Int) = 0 from rfl]
            obtain ⟨y, hy⟩ : ∃ y, y = a % 4294967296 := ⟨_, rfl⟩
            have ey : (a : Int) % 4294967296 = (y : Int) := by omega
            have hyl : y < 4294967296 := by omega
            have HS2 : Hid (rl (p + 1) = q ++ [y]) := Lib.hid (by rw [HS.out, hy, ha])
            have HO2 := Lib.hid (HO.out.keep HB2.out)
            clear ha hy HR HS
            have HBX := Lib.hid (HB.out.trans (HB2.out.mono HB.out.size))
            go_wp2_with (at_builtin; refine wpList_append_u32 rfl (.tmp 25) (.tmp 29) rfl w.heap.size _ q rfl (HO2.out.keep (below_alloc (Below.refl _ _) _)) [y] wr.heap.size 1 rfl (fun j hj => by obtain rfl : j = 0 := (by simpa using hj); exact cell_new _ _ _) (by have := HLL.out; simp; omega) (by have := HBX.out.size; simp; omega) (fun v' w5 hown' hbel => ?_))
            go_roundg (312 - (p + 1))
            case measure => have := HG.out; omega
            case rel => exact ⟨p + 1, rfl, by omega, by go_num, by rw [HS2.out]; exact hown', hbel _ _ (Nat.le_refl _) (below_alloc HBX.out _)⟩
          | succ f =>
            obtain ⟨b, hb⟩ : ∃ b, b = 2 ^ f := ⟨_, rfl⟩
            have hb2 : 2 ^ (f + 1) / 2 = b := by rw [Nat.pow_succ, Nat.mul_div_cancel _ (by omega), hb]
            have hbp : 1 ≤ b := by rw [hb]; exact Nat.one_le_two_pow
            have hab : a + 2 * b ≤ 68719476736 := by have := HAB.out; rw [Nat.pow_succ, ← hb] at this; omega
            rw [hb2]
            have hr := HR.out
            rw [crt, ← hb] at hr
            obtain ⟨s, hs⟩ : ∃ s, s = a + b := ⟨_, rfl⟩
            have es : (a : Int) + (b : Int) = (s : Int) := by omega
            have hsl : s ≤ 68719476736 := by omega
            rw [← hs] at hr
            have cc := Lib.hid fun W => cube_any s p (Nat.lt_of_le_of_lt hsl (by decide)) (by omega) W
            obtain ⟨d, hd⟩ : ∃ d, d = decide (s ^ 3 ≤ p * 16777216 ^ 4) := ⟨_, rfl⟩
            rw [← hd] at cc
            have HRR : Hid (crt f (if d = true then s else a) p = T) := Lib.hid (by rw [← hr, hd]; simp)
            obtain ⟨b2, hb2'⟩ : ∃ b2, b2 = b / 2 := ⟨_, rfl⟩
            have eb2 : (b : Int) / 2 = (b2 : Int) := by omega
            have HB2V : Hid (b2 = 2 ^ f / 2) := Lib.hid (by rw [hb2', hb])
            have HBV := Lib.hid hb; have HSV := Lib.hid hs
            have hb1 : (0 : Int) < (b : Int) := by omega
            clear hb hb2 hr hs hd hb2' HR HAB
            go_wp2_with fail
            refine (cc.out _).mono ?_
            rintro e w3 ⟨rfl, hb3⟩
            have B3 := Lib.hid (below_next HB2.out hb3)
            clear hb3 cc HB2
            cases d
            · have HR3 : Hid (crt f a p = T) := Lib.hid HRR.out
              clear HRR
              go_wp2_with fail
              go_roundg f
              case measure => have := HG2.out; omega
              case rel => exact ⟨f, a, rfl, by omega, by rw [← HBV.out]; omega, HR3.out, rfl, by rw [← HB2V.out], B3.out⟩
            · have HR3 : Hid (crt f s p = T) := Lib.hid HRR.out
              clear HRR
              go_wp2_with fail
              go_roundg f
              case measure => have := HG2.out; omega
              case rel => exact ⟨f, s, rfl, by omega, by rw [← HBV.out]; have := HSV.out; omega, HR3.out, rfl, by rw [← HB2V.out], B3.out⟩
    · have h64' : ¬ (L : Int) < 64 := by omega
      have HE := Lib.hid (HEND.out (by omega))
      clear HEND HLESS HSUC
      go_wp2_with fail
      go_ret
      exact ⟨_, rfl, by rw [← HE.out]; exact HO.out, HB.out⟩
end Go.Proofs.Ytfopockjakeplaa
