/- tallystickref04.Root. No condition. -/
import Derived.Test.YtfopockjakeplaaMkR
namespace Go.Proofs.Ytfopockjakeplaa
open Go.RowKit

theorem eq_r32 (a b : Nat) (ha : a < 2 ^ 256) (hb : b < 2 ^ 256) (w : World) : (Op.equalIn 10000 24 (iv a) (iv b)).run Try.prog w = .ok (decide (a = b)) w := by
  have h := run_equalIn_ints (P := Try.prog) w 9998 24 5 32 .u8 (by kernel_rfl) (by kernel_rfl) (fun _ => by kernel_rfl) ((List.range 32).map (lb a)) ((List.range 32).map (lb b)) (by simp) (by simp)
  have e : ((List.range 32).map (lb a) == (List.range 32).map (lb b)) = decide (a = b) := by
    rw [Bool.eq_iff_iff, beq_iff_eq, decide_eq_true_iff]
    constructor
    · intro h
      refine lb_inj ha hb fun i hi => ?_
      have := congrArg (fun l => l[i]?) h
      simpa [hi] using this
    · rintro rfl; rfl
  rw [e] at h
  exact h
theorem gd_lt {l : List Nat} (h : ∀ y ∈ l, y < 2 ^ 256) (i : Nat) : l.getD i 0 < 2 ^ 256 := by
  rw [List.getD_eq_getElem?_getD]
  rcases e : l[i]? with _ | y
  · simp
  · exact h y (List.mem_of_getElem? e)

set_option maxRecDepth 100000 in
set_option maxHeartbeats 8000000 in
theorem rroot_any (x : Option Addr) (cap : Nat) (l : List Nat) (hl : ∀ y ∈ l, y < 2 ^ 256) (hn : l.length ≤ 1000) (w : World) (hx : l ≠ [] → ∃ b o, x = some ⟨b, o, none⟩ ∧ IdsAt w b o l) :
    Calls Try.prog 25 #[.slice x l.length cap] w fun e w' => e = .returned (.tuple #[iv (Mroot l).1, .bool (Mroot l).2]) ∧ Below w.heap.size w w' := by
  have HL := Lib.hid hl; have HX := Lib.hid hx
  have HM : Hid (mroot l.length l false = Mroot l) := Lib.hid rfl
  obtain ⟨R, hR⟩ : ∃ R, R = Mroot l := ⟨_, rfl⟩
  rw [← hR]
  rw [← hR] at HM
  have HR0 := Lib.hid hR
  obtain ⟨n, hN⟩ : ∃ N, N = l.length := ⟨_, rfl⟩
  rw [← hN]
  have HN := Lib.hid hN
  have hn2 : n ≤ 1000 := by omega
  clear hR hN hl hx hn
  by_cases h0 : n = 0
  · subst h0
    have hl0 : l = [] := List.length_eq_zero_iff.1 HN.out.symm
    have hr0 : R = (0, false) := by rw [HR0.out, hl0]; rfl
    rw [hr0]
    have ez := rblk_lit
    have B : Below w.heap.size w (w.alloc (rblk 0)) := below_alloc (Below.refl _ _) _
    clear HL HX HM HR0 HN hl0 hr0
    go_enter Try.func25, Try.ntmps25
    go_wp2_with (first | (refine wpList_store_rid rfl (.tmp 2) (.tmp 12) rfl w.heap.size 0 0 rfl rfl (heap_new w _) (fun w3 h1 h2 h3 h4 => ?_)))
    have hll := loadVar_rid h1
    exact bodyPost_ret (v := .tuple #[iv 0, .bool false]) (by simp [results, Try.results25, asAddr, hll]) rfl ⟨rfl, h4 _ _ (Nat.le_refl _) B⟩
  · have hne : l ≠ [] := by intro e; rw [e] at HN; exact h0 HN.out
    obtain ⟨b, o, rfl, hI⟩ := HX.out hne
    have HI := Lib.hid hI
    have B : Below w.heap.size w (w.alloc (rblk 0)) := below_alloc (Below.refl _ _) _
    have K0 := Lib.hid (heap_new w (rblk 0))
    have ez := rblk_lit
    have n0 : ¬ (n : Int) = 0 := by omega
    clear hne hI HX
    go_enter Try.func25, Try.ntmps25
    go_wp2_with fail
    rw [show ((n : Int) == 0) = false by simp; omega]
    have HC := Lib.hid fun j => cntL_le n j
    have HS := Lib.hid fun j => show cntL n (j + 1) = (cntL n j + 1) / 2 from rfl
    have cc := Lib.hid fun k (hk : k ≤ 1000) W => count_any n k (by omega) (by omega) W
    have HC0 : Hid (cntL n 0 = n) := Lib.hid rfl
    go_loopg [4] n (fun g kv wr => ∃ k : Nat, g = cntL n k ∧ k + cntL n k ≤ n ∧ kv = .int .i64 k ∧ (∀ j, j < k → 1 < cntL n j) ∧ w.alloc (rblk 0) = wr)
    case atStart => exact ⟨0, HC0.out.symm, by rw [HC0.out]; omega, rfl, fun j hj => by omega, rfl⟩
    case round =>
      obtain ⟨k, hg, hk, rfl, hgt, rfl⟩ := hrel
      have HG := Lib.hid hg; have HGT := Lib.hid hgt; have HKK := Lib.hid hk
      have hk1 : k ≤ 1000 := by omega
      have c1 := Lib.hid fun W => cc.out k hk1 W
      have hs := HS.out k
      obtain ⟨m, hm⟩ : ∃ m, m = cntL n k := ⟨_, rfl⟩
      rw [← hm] at c1 hs
      have hml : m ≤ 1000 := by rw [hm]; have := HC.out k; omega
      have HMM := Lib.hid hm; have HSS := Lib.hid hs
      clear hg hgt hk hm hs
      go_wp2_with fail
      refine (c1.out _).mono ?_
      rintro e w1 ⟨rfl, rfl⟩
      by_cases h1 : 1 < m
      · have h1' : (1 : Int) < (m : Int) := by omega
        go_wp2_with fail
        go_roundg (cntL n (k + 1))
        case measure => rw [HG.out, HSS.out, ← HMM.out]; omega
        case rel => exact ⟨k + 1, rfl, by rw [HSS.out]; have := HKK.out; rw [← HMM.out] at this; omega, by go_num, fun j hj => by
          by_cases e : j = k
          · rw [e, ← HMM.out]; exact h1
          · exact HGT.out j (by omega), rfl⟩
      · have h1' : ¬ (1 : Int) < (m : Int) := by omega
        have HEND : Hid (cntL n k ≤ 1) := Lib.hid (by rw [← HMM.out]; omega)
        clear c1 HMM HSS HG
        go_wp2_with fail
        rw [show decide ((1 : Int) < (m : Int)) = false from decide_eq_false (by omega)]
        have hkn : k ≤ n := by have := HKK.out; omega
        go_loopg [5, 6] k (fun g tv vv wr => ∃ (j f : Nat) (t : Bool), g = k - j ∧ j ≤ k ∧ vv = .int .i64 j ∧ tv = .bool t ∧ cntL n j ≤ f + 1 ∧ mroot f (lvl l j) t = R ∧ wr.heap[w.heap.size]? = some (rblk 0) ∧ Below w.heap.size w wr)
        case atStart => exact ⟨0, n, false, rfl, by omega, rfl, rfl, by rw [HC0.out]; omega, by rw [HN.out]; exact HM.out, K0.out, B⟩
        case round =>
          clear HM K0 B
          obtain ⟨j, f, t, hg, hj, rfl, rfl, hf, hmr, hk0, hB⟩ := hrel
          have HG := Lib.hid hg; have HF := Lib.hid hf; have HMR := Lib.hid hmr; have K0 := Lib.hid hk0; have HB := Lib.hid hB
          clear hg hf hmr hk0 hB
          by_cases hlt : j < k
          · have h1j := HGT.out j hlt
            have c2 := Lib.hid fun W => cc.out j (by omega) W
            have hll := lvl_len l j
            rw [← HN.out] at hll
            have ca := Lib.hid fun i (hi : i < cntL n j) W (hb : Below w.heap.size w W) => rat_any l (by rw [← HN.out]; omega) b o n cap HN.out.symm j (by omega) i hi W (HI.out.keep hb)
            obtain ⟨q, hq⟩ : ∃ q, q = cntL n j := ⟨_, rfl⟩
            rw [← hq] at c2 ca hll h1j HF
            have hql : q ≤ 1000 := by rw [hq]; have := HC.out j; omega
            obtain ⟨L, hLL⟩ : ∃ L, L = lvl l j := ⟨_, rfl⟩
            rw [← hLL] at ca hll HMR
            have HLB : Hid (∀ y ∈ L, y < 2 ^ 256) := Lib.hid (by rw [hLL]; exact lvl_lt HL.out j)
            have HLV : Hid (lvl l (j + 1) = upl L) := Lib.hid (by rw [hLL]; rfl)
            have HQ : Hid (cntL n (j + 1) = (q + 1) / 2) := Lib.hid (by rw [HS.out, hq])
            have HLN := Lib.hid hll
            clear hq hLL hll
            go_wp2_with fail
            refine (c2.out _).mono ?_
            rintro e w1 ⟨rfl, rfl⟩
            obtain ⟨wo, rfl⟩ : ∃ wo : World, wo = wr := ⟨_, rfl⟩
            go_wp2_with fail
            go_loopg [5, 8] (q + 1) (fun g tv iv' wr2 => ∃ i : Nat, g = q + 1 - i ∧ i % 2 = 0 ∧ i ≤ q ∧ iv' = .int .i64 i ∧ tv = .bool (t || twn (L.take i)) ∧ wr2.heap[w.heap.size]? = some (rblk 0) ∧ Below w.heap.size w wr2)
            case atStart => exact ⟨0, by omega, rfl, by omega, rfl, by simp [twn], K0.out, HB.out⟩
            case round =>
              clear K0 HB
              obtain ⟨i, hg, hie, hiq, rfl, rfl, hk0, hB⟩ := hrel
              have HG2 := Lib.hid hg; have HIE := Lib.hid hie; have K0 := Lib.hid hk0; have HB := Lib.hid hB
              clear hg hie hk0 hB
              obtain ⟨i1, hi1⟩ : ∃ i1, i1 = i + 1 := ⟨_, rfl⟩
              have ei1 : (i : Int) + 1 = (i1 : Int) := by omega
              obtain ⟨t2, ht2⟩ : ∃ t2, t2 = (t || twn (L.take i)) := ⟨_, rfl⟩
              rw [← ht2]
              have HT2 := Lib.hid ht2
              have HI1 := Lib.hid hi1
              by_cases hlt2 : i1 < q
              · have a1 := Lib.hid (ca.out i (by omega))
                have a2 := Lib.hid (ca.out i1 (by omega))
                have htw := twn_two (l := L) (i := i) (by rw [HLN.out]; omega) HIE.out
                rw [← hi1] at htw
                have qe := eq_r32 (L.getD i 0) (L.getD i1 0) (gd_lt HLB.out i) (gd_lt HLB.out i1)
                obtain ⟨x, hx⟩ : ∃ x, x = L.getD i 0 := ⟨_, rfl⟩
                obtain ⟨y, hy⟩ : ∃ y, y = L.getD i1 0 := ⟨_, rfl⟩
                rw [← hx] at a1
                rw [← hy] at a2
                rw [← hx, ← hy] at htw qe
                obtain ⟨d, hd⟩ : ∃ d, d = decide (x = y) := ⟨_, rfl⟩
                rw [← hd] at htw qe
                have HTW : Hid ((t || twn (L.take (i + 2))) = (t2 || d)) := Lib.hid (by rw [htw, ← Bool.or_assoc, ht2])
                clear hi1 ht2 htw hx hy hd
                go_wp2_with fail
                refine (a1.out _ HB.out).mono ?_
                rintro e w3 ⟨rfl, hb3⟩
                have K3 := Lib.hid (below_keep hb3 K0.out); have B3 := Lib.hid (below_next HB.out hb3)
                clear hb3 K0 HB
                go_wp2_with fail
                refine (a2.out _ B3.out).mono ?_
                rintro e w4 ⟨rfl, hb4⟩
                have K4 := Lib.hid (below_keep hb4 K3.out); have B4 := Lib.hid (below_next B3.out hb4)
                clear hb4 K3 B3
                cases d
                · go_wp2_with fail
                  go_roundg (q + 1 - (i + 2))
                  case measure => have := HG2.out; omega
                  case rel => exact ⟨i + 2, rfl, by have := HIE.out; omega, by have := HI1.out; omega, by go_num, by rw [HTW.out, Bool.or_false], K4.out, B4.out⟩
                · go_wp2_with fail
                  go_roundg (q + 1 - (i + 2))
                  case measure => have := HG2.out; omega
                  case rel => exact ⟨i + 2, rfl, by have := HIE.out; omega, by have := HI1.out; omega, by go_num, by rw [HTW.out, Bool.or_true], K4.out, B4.out⟩
              · have htw : twn L = twn (L.take i) := by
                  by_cases e : i1 = q
                  · exact twn_one (by rw [HLN.out]; omega) HIE.out
                  · rw [List.take_of_length_le (by rw [HLN.out]; omega)]
                have HT3 : Hid ((t || twn L) = t2) := Lib.hid (by rw [htw, ht2])
                obtain ⟨f', hf1, hf2⟩ := mroot_up (f := f) (l := L) (t := t) (by rw [HLN.out]; exact h1j) (by rw [HLN.out]; exact HF.out)
                have HF1 := Lib.hid hf1; have HF2 := Lib.hid hf2
                have HUL := Lib.hid (upl_len L)
                have hlt2' : ¬ (i1 : Int) < (q : Int) := by omega
                clear hi1 ht2 htw hf1 hf2
                go_wp2_with fail
                go_roundg (k - (j + 1))
                case measure => have := HG.out; omega
                case rel => exact ⟨j + 1, f', t2, rfl, by omega, by go_num, rfl, by rw [HQ.out]; have := HF1.out; rw [HUL.out, HLN.out] at this; exact this, by rw [HLV.out, ← HT3.out]; exact HF2.out.symm.trans HMR.out, K0.out, HB.out⟩
          · obtain rfl : j = k := by omega
            have hll := lvl_len l j
            rw [← HN.out] at hll
            have hR : R = ((lvl l j).getD 0 0, t) := by rw [← HMR.out]; exact mroot_end (by rw [hll]; exact HEND.out)
            have hpos : 0 < cntL n j := by
              have : ∀ q, 0 < cntL n q := fun q => by
                induction q with
                | zero => exact Nat.pos_of_ne_zero h0
                | succ q ih => rw [cntL]; omega
              exact this j
            have ca := Lib.hid (rat_any l (by rw [← HN.out]; omega) b o n cap HN.out.symm j (by omega) 0 hpos wr (HI.out.keep HB.out))
            have HRR := Lib.hid hR
            clear hll hR hpos hlt
            obtain ⟨x, hx⟩ : ∃ x, x = (lvl l j).getD 0 0 := ⟨_, rfl⟩
            rw [← hx] at ca HRR
            clear hx
            go_wp2_with fail
            refine (ca.out).mono ?_
            rintro e w3 ⟨rfl, hb3⟩
            have K3 := Lib.hid (below_keep hb3 K0.out); have B3 := Lib.hid (below_next HB.out hb3)
            clear hb3 K0 HB ca
            go_wp2_with (first | (refine wpList_store_rid rfl (.tmp 2) (.tmp 47) rfl w.heap.size 0 x rfl rfl K3.out (fun w4 h1 h2 h3 h4 => ?_)))
            have hll := loadVar_rid h1
            exact bodyPost_ret (v := .tuple #[iv x, .bool t]) (by simp [results, Try.results25, asAddr, hll]) rfl ⟨by rw [HRR.out], h4 _ _ (Nat.le_refl _) B3.out⟩
end Go.Proofs.Ytfopockjakeplaa
