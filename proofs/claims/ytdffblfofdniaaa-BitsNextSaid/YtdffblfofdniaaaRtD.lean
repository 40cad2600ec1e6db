/- tallystickref03.Next. No condition. -/
import Derived.Test.YtdffblfofdniaaaRtC
import Derived.Test.YtdffblfofdniaaaBtNext
namespace Go.Proofs.Ytdffblfofdniaaa
open Go.RowKit

theorem bitLen_le {n k : Nat} (h : n < 2 ^ k) : bitLen n ≤ k := by
  by_cases h0 : n = 0
  · subst h0; exact Nat.zero_le _
  · have h1 := two_le_of h0
    have : bitLen n - 1 < k := (Nat.pow_lt_pow_iff_right (by omega : 1 < 2)).1 (Nat.lt_of_le_of_lt h1 h)
    omega
theorem len_over (n : Nat) : 256 < bitLen n ↔ 2 ^ 256 ≤ n := by
  constructor
  · intro h
    by_cases h2 : n < 2 ^ 256
    · have := bitLen_le h2; omega
    · omega
  · intro h
    have h2 := lt_two_bitLen n
    exact (Nat.pow_lt_pow_iff_right (by omega : 1 < 2)).1 (Nat.lt_of_le_of_lt h h2)

/-- what Next answers -/
def NxPost (o : Bool) (x : Nat) (w w' : World) (e : Ending) : Prop := e = .returned (if o = true then .tuple #[.int .u32 (sht x), .bool true] else .tuple #[.int .u32 0, .bool false]) ∧ Below w.heap.size w w'
theorem NxPost.no {w w' : World} {x : Nat} (h : Below w.heap.size w w') : NxPost false x w w' (.returned (.tuple #[.int .u32 0, .bool false])) := ⟨rfl, h⟩
theorem NxPost.yes {w w' : World} {x y : Nat} (e : y = x) (h : Below w.heap.size w w') : NxPost true x w w' (.returned (.tuple #[.int .u32 (sht y), .bool true])) := ⟨by rw [e]; rfl, h⟩

/-- the tail: which of quotient and limit -/
theorem nxN_over {t k s l : Nat} (h : 2 ^ 256 ≤ t * k) (h2 : 2 ^ 256 ≤ t / s * k) : nxN t k s l = l := by unfold nxN; rw [if_pos h, if_pos h2]
theorem nxN_first {t k s l : Nat} (h : 2 ^ 256 ≤ t * k) (h2 : ¬ 2 ^ 256 ≤ t / s * k) : nxN t k s l = min (t / s * k) l := by unfold nxN; rw [if_pos h, if_neg h2]
theorem nxN_plain {t k s l : Nat} (h : ¬ 2 ^ 256 ≤ t * k) : nxN t k s l = min (t * k / s) l := by unfold nxN; rw [if_neg h]

attribute [local irreducible] NxPost nxN
set_option maxRecDepth 100000 in
set_option maxHeartbeats 8000000 in
theorem refnext_any (b : Nat) (hb : b < 4294967296) (took should : Int) (bl : Nat) (u : Value) (l : Nat) (hl : l < 2 ^ 256) (w : World) (h1 : BitsIs w bl u l 256) :
    Calls Try.prog 53 #[.int .u32 b, .int .i64 took, .int .i64 should, u] w fun e w' =>
      NxPost ((tgt b).2 && decide (1 ≤ should ∧ should ≤ 1099511627776)) (nxN (tgt b).1 (spn took should) should.toNat l) w w' e := by
  have HL := Lib.hid hl
  have HA := Lib.hid h1
  have HT := Lib.hid (tgt_lt b)
  have cr := Lib.hid fun w => reftarget_any b hb w
  obtain ⟨o, ho⟩ : ∃ o, o = (tgt b).2 := ⟨_, rfl⟩
  obtain ⟨t, htt⟩ : ∃ t, t = (tgt b).1 := ⟨_, rfl⟩
  have he : tgt b = (t, o) := by rw [ho, htt]
  rw [he] at cr HT
  rw [he]
  obtain ⟨ok, hok⟩ : ∃ ok, ok = (o && decide (1 ≤ should ∧ should ≤ 1099511627776)) := ⟨_, rfl⟩
  obtain ⟨X, hX⟩ : ∃ X, X = nxN t (spn took should) should.toNat l := ⟨_, rfl⟩
  rw [show (t, o).2 = o from rfl, show (t, o).1 = t from rfl, ← hok, ← hX]
  have HOK := Lib.hid hok; have HX := Lib.hid hX
  have HT : Hid (t < 2 ^ 256) := HT
  clear ho htt he hb hl h1 hok hX
  have B : Below w.heap.size w w := Below.refl _ _
  go_enter Try.func53, Try.ntmps53
  go_wp2_with fail
  refine (cr.out _).mono ?_
  rintro e w1 ⟨v, L, rfl, hv, hb1⟩
  have B1 := below_next B hb1
  clear hb1 B cr
  cases o
  · have HOK := Lib.hid (show ok = false by rw [HOK.out]; rfl)
    clear hv
    go_wp2_with fail
    exact bodyPost_ret (v := .tuple #[.int .u32 0, .bool false]) (by simp [results, Try.results53, go_sem]) rfl (by rw [HOK.out]; exact NxPost.no B1)
  · obtain ⟨hv1, hv2, hv3⟩ := hv rfl
    have HV : Hid (BitsIs w1 w.heap.size v t L) := Lib.hid hv1
    have HV2 : Hid (t < 2 ^ L) := Lib.hid hv2
    clear hv hv1 hv2
    by_cases h1 : should < 1
    · have HOK := Lib.hid (show ok = false by rw [HOK.out, decide_eq_false (by omega)]; rfl)
      go_wp2_with fail
      exact bodyPost_ret (v := .tuple #[.int .u32 0, .bool false]) (by simp [results, Try.results53, go_sem]) rfl (by rw [HOK.out]; exact NxPost.no B1)
    · by_cases h2 : 1099511627776 < should
      · have HOK := Lib.hid (show ok = false by rw [HOK.out, decide_eq_false (by omega)]; rfl)
        go_wp2_with fail
        exact bodyPost_ret (v := .tuple #[.int .u32 0, .bool false]) (by simp [results, Try.results53, go_sem]) rfl (by rw [HOK.out]; exact NxPost.no B1)
      · have HOKT := Lib.hid (show ok = true by rw [HOK.out, decide_eq_true (by omega)]; rfl)
        obtain ⟨s, rfl⟩ := Int.eq_ofNat_of_zero_le (show 0 ≤ should by omega)
        rw [Int.toNat_natCast] at HX
        have hsp := spn_facts took (s : Int) (by omega) (by omega)
        generalize spn took (s : Int) = k at *
        have HSP := Lib.hid hsp
        have hs1 : 1 ≤ s := by omega
        have hs2 : s ≤ 1099511627776 := by omega
        clear hsp
        go_upto_region 8 with fail
        all_goals
          first
            | (have hk : (s : Int) / 4 = (k : Int) := by
                 have h := (show took < (s : Int) / 4 by assumption)
                 have := HSP.out.1
                 omega
               rw [hk]
               clear hk)
            | (have hk : 4 * (s : Int) = (k : Int) := by
                 have h := (show 4 * (s : Int) < took by assumption)
                 have := HSP.out.1
                 omega
               rw [hk]
               clear hk)
            | (have hk : took = (k : Int) := by
                 have := HSP.out.1
                 omega
               subst hk)
          have hk2 : k < 18446744073709551616 := HSP.out.2
          have HK := Lib.hid (show k < 2 ^ 256 by omega)
          have HSL := Lib.hid (show s < 2 ^ 256 by omega)
          have csk := Lib.hid fun w => small_any k hk2 w
          have css := Lib.hid fun w => small_any s (by omega) w
          go_wp2_with fail
          refine (csk.out _).mono ?_
          rintro e w2 ⟨y, rfl, hy, hb2⟩
          have HY := Lib.hid hy
          have B2 := below_next B1 hb2
          have C2 := hb2
          clear hy hb2
          go_wp2_with fail
          refine (refmul_any _ v t L HV2.out _ y k 256 HK.out (by omega) (by omega) _ (HV.out.keep C2) HY.out).mono ?_
          rintro e w3 ⟨x, T1, rfl, hT1, hxl, hx, hb3⟩
          have HXX := Lib.hid hx; have HXL := Lib.hid hxl
          have B3 := below_next B2 hb3
          have C3 := below_next C2 hb3
          clear hx hxl hb3 B2 C2 HY
          go_wp2_with fail
          refine (css.out _).mono ?_
          rintro e w4 ⟨z, rfl, hz, hb4⟩
          have HXX4 := Lib.hid (HXX.out.keep hb4)
          have HZ := Lib.hid hz
          have B4 := below_next B3 hb4
          have C4 := below_next C3 hb4
          clear hz hb4 B3 C3 HXX
          go_wp2_with fail
          refine (refdiv_any _ x (t * k) T1 HXL.out _ z s 256 HSL.out (by omega) (by omega) (by omega) (by omega) _ HXX4.out HZ.out).mono ?_
          rintro e w5 ⟨q, r, T2, rfl, hq, -, -, -, hb5⟩
          have HXX5 := Lib.hid (HXX4.out.keep hb5)
          have HQ := Lib.hid hq
          have B5 := below_next B4 hb5
          have C5 := below_next C4 hb5
          clear hq hb5 B4 C4 HXX4 HZ
          go_wp2_with fail
          refine (length_any _ x (t * k) T1 HXL.out (by omega) _ HXX5.out).mono ?_
          rintro e w6 ⟨rfl, hb6⟩
          have HQ6 := Lib.hid (HQ.out.keep hb6)
          have B6 := below_next B5 hb6
          have C6 := below_next C5 hb6
          clear hb6 B5 C5 HXX5 HQ
          have hlen := len_over (t * k)
          by_cases hov : 2 ^ 256 ≤ t * k
          · have hl1 : (256 : Int) < (bitLen (t * k) : Int) := by have := hlen.2 hov; omega
            have HOV := Lib.hid hov
            generalize bitLen (t * k) = ln at *
            clear hlen hov HQ6
            go_wp2_with fail
            refine (css.out _).mono ?_
            rintro e w7 ⟨z, rfl, hz, hb7⟩
            have HZ := Lib.hid hz
            have B7 := below_next B6 hb7
            have C7 := below_next C6 hb7
            clear hz hb7 B6 C6
            go_wp2_with fail
            refine (refdiv_any _ v t L HV2.out _ z s 256 HSL.out (by omega) (by omega) (by omega) (by omega) _ (HV.out.keep C7) HZ.out).mono ?_
            rintro e w8 ⟨q1, r1, T3, rfl, hq, -, -, -, hb8⟩
            have HQ := Lib.hid hq
            have B8 := below_next B7 hb8
            clear hq hb8 B7 C7 HZ
            go_wp2_with fail
            refine (csk.out _).mono ?_
            rintro e w9 ⟨y, rfl, hy, hb9⟩
            have HY := Lib.hid hy
            have HQ9 := Lib.hid (HQ.out.keep hb9)
            have B9 := below_next B8 hb9
            clear hy hb9 B8 HQ
            have HTS := Lib.hid (show t / s < 2 ^ L from Nat.lt_of_le_of_lt (Nat.div_le_self _ _) HV2.out)
            go_wp2_with fail
            refine (refmul_any _ q1 (t / s) L HTS.out _ y k 256 HK.out (by omega) (by omega) _ HQ9.out HY.out).mono ?_
            rintro e w10 ⟨q2, T4, rfl, hT4, hql, hq, hb10⟩
            have HQ := Lib.hid hq; have HQT := Lib.hid hql
            have B10 := below_next B9 hb10
            clear hq hql hb10 B9 HQ9 HY
            go_wp2_with fail
            refine (length_any _ q2 (t / s * k) T4 HQT.out (by omega) _ HQ.out).mono ?_
            rintro e w11 ⟨rfl, hb11⟩
            have HQ11 := Lib.hid (HQ.out.keep hb11)
            have B11 := below_next B10 hb11
            clear hb11 B10 HQ
            have hlen2 := len_over (t / s * k)
            by_cases hov2 : 2 ^ 256 ≤ t / s * k
            · have hl2 : (256 : Int) < (bitLen (t / s * k) : Int) := by have := hlen2.2 hov2; omega
              have HOV2 := Lib.hid hov2
              generalize bitLen (t / s * k) = ln2 at *
              clear hlen2 hov2
              go_wp2_with fail
              refine (refshort_any _ _ l 256 HL.out HL.out (by omega) _ (HA.out.keep B11)).mono ?_
              rintro e wz ⟨rfl, hbz⟩
              have Bz := below_next B11 hbz
              clear hbz
              go_wp2_with fail
              exact bodyPost_ret (v := .tuple #[.int .u32 (sht l), .bool true]) (by simp [results, Try.results53, go_sem]) rfl (by rw [HOKT.out]; exact NxPost.yes (by rw [HX.out, nxN_over HOV.out HOV2.out]) Bz)
            · have hl2 : ¬ (256 : Int) < (bitLen (t / s * k) : Int) := by have := fun h => hov2 (hlen2.1 h); omega
              have HOV2 := Lib.hid hov2
              have HQL := Lib.hid (show t / s * k < 2 ^ 256 by omega)
              generalize bitLen (t / s * k) = ln2 at *
              clear hlen2 hov2
              go_wp2_with fail
              refine (less_any _ _ l 256 HL.out _ _ (t / s * k) T4 HQT.out (by omega) (by omega) _ (HA.out.keep B11) HQ11.out).mono ?_
              rintro e wl ⟨rfl, hbl⟩
              have Bl := below_next B11 hbl
              have HQl := Lib.hid (HQ11.out.keep hbl)
              clear hbl
              by_cases hlq : l < (t / s * k)
              · rw [decide_eq_true hlq]
                have HLQ := Lib.hid hlq
                clear hlq
                go_wp2_with fail
                refine (refshort_any _ _ l 256 HL.out HL.out (by omega) _ (HA.out.keep Bl)).mono ?_
                rintro e wz ⟨rfl, hbz⟩
                have Bz := below_next Bl hbz
                clear hbz
                go_wp2_with fail
                exact bodyPost_ret (v := .tuple #[.int .u32 (sht l), .bool true]) (by simp [results, Try.results53, go_sem]) rfl (by rw [HOKT.out]; exact NxPost.yes (by rw [HX.out, nxN_first HOV.out HOV2.out]; have := HLQ.out; omega) Bz)
              · rw [decide_eq_false hlq]
                have HLQ := Lib.hid hlq
                clear hlq
                go_wp2_with fail
                refine (refshort_any _ _ (t / s * k) T4 HQL.out HQT.out (by omega) _ HQl.out).mono ?_
                rintro e wz ⟨rfl, hbz⟩
                have Bz := below_next Bl hbz
                clear hbz
                go_wp2_with fail
                exact bodyPost_ret (v := .tuple #[.int .u32 (sht ((t / s * k))), .bool true]) (by simp [results, Try.results53, go_sem]) rfl (by rw [HOKT.out]; exact NxPost.yes (by rw [HX.out, nxN_first HOV.out HOV2.out]; have := HLQ.out; omega) Bz)
          · have hl1 : ¬ (256 : Int) < (bitLen (t * k) : Int) := by have := fun h => hov (hlen.1 h); omega
            have HOV := Lib.hid hov
            have HQL := Lib.hid (show t * k / s < 2 ^ 256 by have := Nat.div_le_self (t * k) s; omega)
            have HQT := Lib.hid (show t * k / s < 2 ^ T1 from Nat.lt_of_le_of_lt (Nat.div_le_self _ _) HXL.out)
            generalize bitLen (t * k) = ln at *
            clear hlen hov
            go_wp2_with fail
            refine (length_any _ q (t * k / s) T1 HQT.out (by omega) _ HQ6.out).mono ?_
            rintro e w11 ⟨rfl, hb11⟩
            have HQ11 := Lib.hid (HQ6.out.keep hb11)
            have B11 := below_next B6 hb11
            clear hb11 B6 C6 HQ6
            have hl2 : ¬ (256 : Int) < (bitLen (t * k / s) : Int) := by have := bitLen_le HQL.out; omega
            generalize bitLen (t * k / s) = ln2 at *
            go_wp2_with fail
            refine (less_any _ _ l 256 HL.out _ _ (t * k / s) T1 HQT.out (by omega) (by omega) _ (HA.out.keep B11) HQ11.out).mono ?_
            rintro e wl ⟨rfl, hbl⟩
            have Bl := below_next B11 hbl
            have HQl := Lib.hid (HQ11.out.keep hbl)
            clear hbl
            by_cases hlq : l < (t * k / s)
            · rw [decide_eq_true hlq]
              have HLQ := Lib.hid hlq
              clear hlq
              go_wp2_with fail
              refine (refshort_any _ _ l 256 HL.out HL.out (by omega) _ (HA.out.keep Bl)).mono ?_
              rintro e wz ⟨rfl, hbz⟩
              have Bz := below_next Bl hbz
              clear hbz
              go_wp2_with fail
              exact bodyPost_ret (v := .tuple #[.int .u32 (sht l), .bool true]) (by simp [results, Try.results53, go_sem]) rfl (by rw [HOKT.out]; exact NxPost.yes (by rw [HX.out, nxN_plain HOV.out]; have := HLQ.out; omega) Bz)
            · rw [decide_eq_false hlq]
              have HLQ := Lib.hid hlq
              clear hlq
              go_wp2_with fail
              refine (refshort_any _ _ (t * k / s) T1 HQL.out HQT.out (by omega) _ HQl.out).mono ?_
              rintro e wz ⟨rfl, hbz⟩
              have Bz := below_next Bl hbz
              clear hbz
              go_wp2_with fail
              exact bodyPost_ret (v := .tuple #[.int .u32 (sht ((t * k / s))), .bool true]) (by simp [results, Try.results53, go_sem]) rfl (by rw [HOKT.out]; exact NxPost.yes (by rw [HX.out, nxN_plain HOV.out]; have := HLQ.out; omega) Bz)
end Go.Proofs.Ytdffblfofdniaaa
