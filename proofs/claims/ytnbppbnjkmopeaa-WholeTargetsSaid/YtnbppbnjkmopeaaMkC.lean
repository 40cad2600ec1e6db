/- merkle.Root. No condition. -/
import Derived.Test.YtnbppbnjkmopeaaMk1
namespace Go.Proofs.Ytnbppbnjkmopeaa
open Go.RowKit

set_option maxRecDepth 100000 in
set_option maxHeartbeats 8000000 in
theorem root_any (x : Option Addr) (cap : Nat) (l : List Nat) (hl : ∀ y ∈ l, y < 2 ^ 256) (hn : l.length ≤ 1000) (w : World) (hnone : x = none → l = [] ∧ cap = 0) (hx : l ≠ [] → ∃ b o, x = some ⟨b, o, none⟩ ∧ IdsAt w b o l) :
    Calls Try.prog 63 #[.slice x l.length cap] w fun e w' => e = .returned (.tuple #[iv (Mroot l).1, .bool (Mroot l).2]) ∧ Below w.heap.size w w' := by
  have B : Below w.heap.size w w := Below.refl _ _
  have HL := Lib.hid hl; have HX := Lib.hid hx; have HNONE := Lib.hid hnone
  have HM : Hid (mroot l.length l false = Mroot l) := Lib.hid rfl
  obtain ⟨R, hR⟩ : ∃ R, R = Mroot l := ⟨_, rfl⟩
  rw [← hR]
  rw [← hR] at HM
  have HR0 := Lib.hid hR
  obtain ⟨N, hN⟩ : ∃ N, N = l.length := ⟨_, rfl⟩
  rw [← hN]
  have HN := Lib.hid hN
  have hN2 : N ≤ 1000 := by omega
  have ez := iblk_lit
  clear hR hN hl hx hnone hn
  by_cases h0 : N = 0
  · subst h0
    have hl0 : l = [] := List.length_eq_zero_iff.1 HN.out.symm
    have hr0 : R = (0, false) := by rw [HR0.out, hl0]; rfl
    rw [hr0]
    clear HL HX HNONE HM HR0 HN hl0 hr0
    go_enter Try.func63, Try.ntmps63
    go_wp2_with (first | (refine wpList_store_id rfl (.tmp 2) (.tmp 11) rfl w.heap.size 0 0 rfl rfl (heap_new w _) (fun w3 h1 h2 h3 h4 => ?_)))
    have hll := loadVar_id h1
    exact bodyPost_ret (v := .tuple #[iv 0, .bool false]) (by simp [results, Try.results63, asAddr, hll]) rfl ⟨rfl, h4 _ _ (Nat.le_refl _) (below_alloc B _)⟩
  · have hne : l ≠ [] := by intro e; rw [e] at HN; exact h0 HN.out
    obtain ⟨b, o, rfl, hI⟩ := HX.out hne
    have HI := Lib.hid (hI.keep (below_alloc (below_alloc (Below.refl _ _) (iblk 0)) (.cells #[] 24 (0, 0))))
    have K0 := Lib.hid (heap_new w (iblk 0))
    have HLE : Hid (([] : List Nat).length + l.length ≤ 1000000) := Lib.hid (by rw [← HN.out]; simp; omega)
    have HSL : Hid (Value.slice (some ⟨b, o, none⟩) N cap = .slice (some ⟨b, o, none⟩) l.length cap) := Lib.hid (by rw [HN.out])
    have HOW : Hid (OwnsI ((w.alloc (iblk 0)).alloc (.cells #[] 24 (0, 0))) (w.heap.size + 1) (.slice (some ⟨w.heap.size + 1, 0, none⟩) 0 0) []) := Lib.hid (by have := OwnsI.new (w.alloc (iblk 0)) (w.heap.size + 1) (by simp); simpa using this)
    clear hne hI HX HNONE
    go_enter Try.func63, Try.ntmps63
    go_wp2_with (at_builtin; refine wpList_append_ids rfl (.tmp 12) (.tmp 13) rfl (w.heap.size + 1) _ [] rfl HOW.out l (some ⟨b, o, none⟩) cap HSL.out (fun e => by cases e) (fun _ => ⟨b, o, rfl, HI.out⟩) HLE.out (by simp) (fun v' w2 hown' hbel => ?_); (rw [List.nil_append] at hown'); have HO := Lib.hid hown'; have B2 : Below (w.heap.size + 1) (w.alloc (iblk 0)) w2 := hbel (w.heap.size + 1) (w.alloc (iblk 0)) (Nat.le_refl _) (by have := below_alloc (Below.refl (w.alloc (iblk 0)).heap.size (w.alloc (iblk 0))) (.cells #[] 24 (0, 0)); simpa using this); obtain ⟨x2, c2, rfl⟩ := hown'.shape; clear hown' hbel)
    have HN1 := Lib.hid (show 0 < l.length by rw [← HN.out]; omega)
    have HN2 := Lib.hid (show l.length ≤ 1000 by rw [← HN.out]; exact hN2)
    have K2 : Hid (w2.heap[w.heap.size]? = some (iblk 0)) := Lib.hid ((B2.block _ (by omega)).trans K0.out)
    have B3 : Hid (Below w.heap.size w w2) := Lib.hid ((below_alloc B (iblk 0)).trans (B2.mono (by omega)))
    have hz2 : Hid (w.heap.size + 1 ≤ w2.heap.size) := Lib.hid (by have := B2.size; simpa using this)
    clear B B2 K0 HI HLE HSL HOW HR0 h0 hN2
    go_loopg [4, 5] l.length (fun g tv sv wr => ∃ (f : Nat) (m : List Nat) (t : Bool), g = m.length ∧ m.length ≤ f + 1 ∧ 0 < m.length ∧ m.length ≤ 1000 ∧ (∀ y ∈ m, y < 2 ^ 256) ∧ mroot f m t = R ∧ tv = .bool t ∧ OwnsI wr (w.heap.size + 1) sv m ∧ wr.heap[w.heap.size]? = some (iblk 0) ∧ Below w.heap.size w wr)
    case atStart => exact ⟨l.length, l, false, rfl, by omega, HN1.out, HN2.out, HL.out, HM.out, rfl, HO.out, K2.out, B3.out⟩
    case round =>
      clear HO K2 B3 hz2 HM HL HN1 HN2
      obtain ⟨f, m, t, hg, hf, hm0, hm1, hmb, hmr, rfl, hO, hk, hB⟩ := hrel
      have HG := Lib.hid hg; have HF := Lib.hid hf; have HMB := Lib.hid hmb; have HMR := Lib.hid hmr
      obtain ⟨n, hn⟩ : ∃ n, n = m.length := ⟨_, rfl⟩
      obtain ⟨gr, cr, rfl, hgr, hgs, hI⟩ := hO.at hn.symm (by omega)
      have hn0 : 0 < n := by omega
      have hn1 : n ≤ 1000 := by omega
      have HNM := Lib.hid hn; have HI := Lib.hid hI; have HK := Lib.hid hk; have HB := Lib.hid hB
      clear hg hf hm0 hm1 hmb hmr hO hk hB hI hn
      by_cases h1 : 1 < n
      · obtain ⟨wo, rfl⟩ : ∃ wo : World, wo = wr := ⟨_, rfl⟩
        have HBZ := Lib.hid (show w.heap.size + 1 ≤ wo.heap.size by omega)
        go_wp2_with fail
        rw [show decide ((1 : Int) < (n : Int)) = true from decide_eq_true (by omega)]
        go_loopg [4, 6, 7] (n + 2) (fun g tv uv ix wr2 => ∃ i : Nat, g = n + 2 - i ∧ i % 2 = 0 ∧ i ≤ n ∧ ix = .int .i64 i ∧ tv = .bool (t || twn (m.take i)) ∧ OwnsI wr2 wo.heap.size uv (upl (m.take i)) ∧ Below wo.heap.size wo wr2)
        case atStart => exact ⟨0, rfl, rfl, by omega, rfl, by simp [twn], OwnsI.nil _ _, Below.refl _ _⟩
        case round =>
          obtain ⟨i, hgi, hie, hin, rfl, rfl, hU, hB2⟩ := hrel
          have HGI := Lib.hid hgi; have HU := Lib.hid hU; have HBB := Lib.hid hB2; have HIE := Lib.hid hie
          clear hgi hU hB2 hie
          by_cases hlt : i < n
          · obtain ⟨a, ha⟩ : ∃ a, a = m.getD i 0 := ⟨_, rfl⟩
            obtain ⟨i1, hi1⟩ : ∃ i1, i1 = i + 1 := ⟨_, rfl⟩
            have e1 : (i : Int) + 1 = (i1 : Int) := by omega
            have hRa : ∀ V, Below wr.heap.size wr V → V.rangeAt gr (i * 32) (ids a) := fun V hb => by
              have := ((HI.out.keep HBB.out).keep hb).range (i := i) (by rw [← HNM.out]; exact hlt)
              rw [Nat.zero_add, ← ha] at this
              exact this
            by_cases hlast : i1 = n
            · have hup : upl m = upl (m.take i) ++ [prs a a] := by rw [ha]; exact upl_one (by rw [← HNM.out]; omega) HIE.out
              have htw : twn m = twn (m.take i) := twn_one (by rw [← HNM.out]; omega) HIE.out
              have HUL := Lib.hid (upl_len (m.take i))
              have hlast' : (i1 : Int) = (n : Int) := by omega
              have hil : i < n := hlt
              have HTL : Hid ((m.take i).length ≤ 1000) := Lib.hid (by rw [List.length_take]; omega)
              obtain ⟨X, hX⟩ : ∃ X, X = prs a a := ⟨_, rfl⟩
              have HPA := Lib.hid fun W => pair_any a a W
              rw [← hX] at HPA hup
              have HUP0 := Lib.hid hup
              have Ra := Lib.hid hRa
              rw [← htw]
              clear hX ha hRa hup htw hi1 hlast
              go_wp2_with fail
              obtain ⟨W, hW⟩ : ∃ W, W = wr := ⟨_, rfl⟩
              rw [← hW] at HU HBB Ra
              rw [← hW]
              clear hW
              refine wp_region_tail 11 [Is (u6), Is (.slice (some ⟨gr, 0, none⟩) n cr), Is (.int .i64 i), Is (.pointer (some ⟨gr, i * 32, none⟩)), Is (iv a), Is (.slice (some ⟨gr, 0, none⟩) n cr), Is (.int .i64 i), Is (.pointer (some ⟨gr, i * 32, none⟩)), Is (iv a), Is (iv X), RowOf (idsL [X]).toArray 24 1 1] [[], [], [], [(1, some 30), (2, some 31)], [(3, some 32)], [], [], [(5, some 34), (6, some 35)], [(7, some 36)], [(4, some 33), (8, some 37)], [(9, some 38)], [(0, some 29), (10, some 39)], [(11, some 40)]] [(0, some 29), (1, some 30), (2, some 31), (3, some 32), (4, some 33), (5, some 34), (6, some 35), (7, some 36), (8, some 37), (9, some 38), (10, some 39)] [0, 0, 0, 6, 14, 0, 0, 96, 224, 510, 1022, 2047, 4095]
                (by kernel_rfl) (by kernel_rfl) (by kernel_rfl) (by kernel_rfl) (by kernel_rfl) ⟨Is.kept _, Is.kept _, Is.kept _, Is.kept _, Is.kept _, Is.kept _, Is.kept _, Is.kept _, Is.kept _, Is.kept _, RowOf.kept _ _ _ _, trivial⟩ ⟨?_, ?_, ?_, ?_, ?_, ?_, ?_, ?_, ?_, ?_, ?_, trivial⟩ ?_
              · as_aux_lemma =>
                refine fun w' hB => ?_
                show wpList _ _ _ _ _ _
                go_wp2_with fail
                exact ⟨u6, by first | rfl | (go_simp; done), rfl, Below.refl _ _⟩
              · as_aux_lemma =>
                refine fun w' hB => ?_
                show wpList _ _ _ _ _ _
                go_wp2_with fail
                exact ⟨.slice (some ⟨gr, 0, none⟩) n cr, by first | rfl | (go_simp; done), rfl, Below.refl _ _⟩
              · as_aux_lemma =>
                refine fun w' hB => ?_
                show wpList _ _ _ _ _ _
                go_wp2_with fail
                exact ⟨.int .i64 i, by first | rfl | (go_simp; done), rfl, Below.refl _ _⟩
              · as_aux_lemma =>
                refine fun w' hB v1 h1 v2 h2 => ?_
                obtain rfl := h1
                obtain rfl := h2
                show wpList _ _ _ _ _ _
                go_wp2_with fail
                exact ⟨.pointer (some ⟨gr, i * 32, none⟩), by first | rfl | (go_simp; done), rfl, Below.refl _ _⟩
              · as_aux_lemma =>
                refine fun w' hB v3 h3 => ?_
                obtain rfl := h3
                show wpList _ _ _ _ _ _
                go_wp2_with (first | refine wpList_load_at rfl (.tmp 32) rfl gr (i * 32) a rfl (Ra.out w' hB) ?_)
                exact ⟨iv a, rfl, rfl, Below.refl _ _⟩
              · as_aux_lemma =>
                refine fun w' hB => ?_
                show wpList _ _ _ _ _ _
                go_wp2_with fail
                exact ⟨.slice (some ⟨gr, 0, none⟩) n cr, by first | rfl | (go_simp; done), rfl, Below.refl _ _⟩
              · as_aux_lemma =>
                refine fun w' hB => ?_
                show wpList _ _ _ _ _ _
                go_wp2_with fail
                exact ⟨.int .i64 i, by first | rfl | (go_simp; done), rfl, Below.refl _ _⟩
              · as_aux_lemma =>
                refine fun w' hB v5 h5 v6 h6 => ?_
                obtain rfl := h5
                obtain rfl := h6
                show wpList _ _ _ _ _ _
                go_wp2_with fail
                exact ⟨.pointer (some ⟨gr, i * 32, none⟩), by first | rfl | (go_simp; done), rfl, Below.refl _ _⟩
              · as_aux_lemma =>
                refine fun w' hB v7 h7 => ?_
                obtain rfl := h7
                show wpList _ _ _ _ _ _
                go_wp2_with (first | refine wpList_load_at rfl (.tmp 36) rfl gr (i * 32) a rfl (Ra.out w' hB) ?_)
                exact ⟨iv a, rfl, rfl, Below.refl _ _⟩
              · as_aux_lemma =>
                refine fun w' hB v4 h4 v8 h8 => ?_
                obtain rfl := h4
                obtain rfl := h8
                show wpList _ _ _ _ _ _
                go_wp2_with fail
                refine (HPA.out w').mono ?_
                rintro e w2 ⟨rfl, hb2⟩
                go_wp2_with fail
                exact ⟨iv X, by first | rfl | (go_simp; done), rfl, hb2⟩
              · as_aux_lemma =>
                refine fun w' hB v9 h9 => ?_
                obtain rfl := h9
                show wpList _ _ _ _ _ _
                go_wp2_with (first | refine wpList_build_1 rfl (.tmp 38) X rfl rfl ?_)
                exact ⟨_, rfl, ⟨_, rfl, heap_new _ _⟩, below_alloc (Below.refl _ _) _⟩
              · refine fun w' hB v0 h0 v1 h1 v2 h2 v3 h3 v4 h4 v5 h5 v6 h6 v7 h7 v8 h8 v9 h9 v10 h10 => ?_
                obtain rfl := h0
                obtain ⟨g10, rfl, hg10⟩ := h10
                simp only [onP, List.drop_succ_cons, List.drop_zero]
                go_simp
                clear h1 h2 h3 h4 h5 h6 h7 h8 h9
                go_wp2_with (at_builtin; refine wpList_append_ids rfl (.tmp 29) (.tmp 39) rfl wo.heap.size _ (upl (m.take i)) rfl (HU.out.keep hB) [X] (some ⟨g10, 0, none⟩) 1 rfl (fun e => by cases e) (fun _ => ⟨g10, 0, rfl, IdsAt.row hg10⟩) (by have := HUL.out; have := HTL.out; simp; omega) (by have := HBB.out.size; have := hB.size; omega) (fun v' w5 hown' hbel => ?_))
                rw [← HUP0.out] at hown'
                have HW5 := Lib.hid hown'
                have B5 : Hid (Below wo.heap.size wo w5) := Lib.hid (hbel _ _ (Nat.le_refl _) (HBB.out.trans (hB.mono HBB.out.size)))
                clear hown' hbel
                obtain ⟨f', hf1, hf2⟩ := mroot_up (f := f) (l := m) (t := t) (by rw [← HNM.out]; exact h1) HF.out
                have HF1 := Lib.hid hf1; have HF2 := Lib.hid hf2
                have HULM := Lib.hid (upl_len m)
                clear hf1 hf2
                go_wp2_with fail
                go_roundg ((upl m).length)
                case measure => rw [HULM.out, HG.out, ← HNM.out]; omega
                case rel => exact ⟨f', upl m, _, rfl, HF1.out, by rw [HULM.out, ← HNM.out]; omega, by rw [HULM.out, ← HNM.out]; omega, upl_lt HMB.out, HF2.out.symm.trans HMR.out, rfl, HW5.out.mono HBZ.out, ((B5.out.block _ (by have := HBZ.out; omega)).trans HK.out), (HB.out.trans (B5.out.mono (by have := HBZ.out; omega)))⟩
            · obtain ⟨b2, hb⟩ : ∃ b2, b2 = m.getD i1 0 := ⟨_, rfl⟩
              have hi1n : i1 < n := by omega
              have hRb : ∀ V, Below wr.heap.size wr V → V.rangeAt gr (i1 * 32) (ids b2) := fun V hb' => by
                have := ((HI.out.keep HBB.out).keep hb').range (i := i1) (by rw [← HNM.out]; exact hi1n)
                rw [Nat.zero_add, ← hb] at this
                exact this
              have hup := upl_two (l := m) (i := i) (by rw [← HNM.out]; omega) HIE.out
              have htw := twn_two (l := m) (i := i) (by rw [← HNM.out]; omega) HIE.out
              rw [← hi1, ← ha, ← hb] at hup htw
              have HUL := Lib.hid (upl_len (m.take i))
              have hlast' : ¬ (i1 : Int) = (n : Int) := by omega
              have HTL : Hid ((m.take i).length ≤ 1000) := Lib.hid (by rw [List.length_take]; omega)
              have ham : a < 2 ^ 256 := by rw [ha, List.getD_eq_getElem?_getD, List.getElem?_eq_getElem (by rw [← HNM.out]; exact hlt)]; exact HMB.out _ (List.getElem_mem _)
              have hbm : b2 < 2 ^ 256 := by rw [hb, List.getD_eq_getElem?_getD, List.getElem?_eq_getElem (by rw [← HNM.out]; exact hi1n)]; exact HMB.out _ (List.getElem_mem _)
              have qab := eq_id a b2 ham hbm
              obtain ⟨X, hX⟩ : ∃ X, X = prs a b2 := ⟨_, rfl⟩
              have HPA := Lib.hid fun W => pair_any a b2 W
              rw [← hX] at HPA hup
              obtain ⟨d, hd⟩ : ∃ d, d = decide (a = b2) := ⟨_, rfl⟩
              rw [← hd] at htw qab
              have HUP0 := Lib.hid hup
              have Ra := Lib.hid hRa; have Rb := Lib.hid hRb
              obtain ⟨t2, ht2⟩ : ∃ t2, t2 = (t || twn (m.take i)) := ⟨_, rfl⟩
              have HTW : Hid ((t || twn (m.take (i + 2))) = (t2 || d)) := Lib.hid (by rw [htw, ← Bool.or_assoc, ht2])
              rw [← ht2]
              clear hX ha hb hRa hRb hup htw hi1 hlast ham hbm hd ht2
              go_wp2_with fail
              obtain ⟨W, hW⟩ : ∃ W, W = wr := ⟨_, rfl⟩
              rw [← hW] at HU HBB Ra Rb
              rw [← hW]
              clear hW
              cases t2
              · skip
                refine wp_region_by [Is (.bool false), Is (.bool false), Is (.slice (some ⟨gr, 0, none⟩) n cr), Is (.int .i64 i), Is (.pointer (some ⟨gr, i * 32, none⟩)), Is (iv a), Is (.slice (some ⟨gr, 0, none⟩) n cr), Is (.int .i64 i), Is (.int .i64 i1), Is (.pointer (some ⟨gr, i1 * 32, none⟩)), Is (iv b2), Is (.bool d), Is (.bool d), Is (.bool d)] [[], [(0, some 41)], [(1, some 42)], [(1, some 42)], [(1, some 42), (2, some 43), (3, some 44)], [(1, some 42), (4, some 45)], [(1, some 42)], [(1, some 42)], [(1, some 42), (7, some 48)], [(1, some 42), (6, some 47), (8, some 49)], [(1, some 42), (9, some 50)], [(1, some 42), (5, some 46), (10, some 51)], [(1, some 42), (11, some 52)], [(12, some 53)]] [(0, some 41), (1, some 42), (2, some 43), (3, some 44), (4, some 45), (5, some 46), (6, some 47), (7, some 48), (8, some 49), (9, some 50), (10, some 51), (11, some 52), (12, some 53), (13, some 4)] [0, 1, 3, 3, 15, 31, 3, 3, 131, 451, 963, 2047, 4095, 8191]
                  (by kernel_rfl) (by kernel_rfl) (by kernel_rfl) (by kernel_rfl) ⟨Is.kept _, Is.kept _, Is.kept _, Is.kept _, Is.kept _, Is.kept _, Is.kept _, Is.kept _, Is.kept _, Is.kept _, Is.kept _, Is.kept _, Is.kept _, Is.kept _, trivial⟩ ⟨?_, ?_, ?_, ?_, ?_, ?_, ?_, ?_, ?_, ?_, ?_, ?_, ?_, ?_, trivial⟩ ?_
                · as_aux_lemma =>
                  refine fun w' hB => ?_
                  show wpList _ _ _ _ _ _
                  go_wp2_with fail
                  exact ⟨.bool false, by first | rfl | (go_simp; done), rfl, Below.refl _ _⟩
                · as_aux_lemma =>
                  refine fun w' hB v0 h0 => ?_
                  obtain rfl := h0
                  show wpList _ _ _ _ _ _
                  go_wp2_with fail
                  exact ⟨.bool false, by first | rfl | (go_simp; done), rfl, Below.refl _ _⟩
                · as_aux_lemma =>
                  refine fun w' hB v1 h1 => ?_
                  obtain rfl := h1
                  show wpList _ _ _ _ _ _
                  go_wp2_with fail
                  exact ⟨.slice (some ⟨gr, 0, none⟩) n cr, by first | rfl | (go_simp; done), rfl, Below.refl _ _⟩
                · as_aux_lemma =>
                  refine fun w' hB v1 h1 => ?_
                  obtain rfl := h1
                  show wpList _ _ _ _ _ _
                  go_wp2_with fail
                  exact ⟨.int .i64 i, by first | rfl | (go_simp; done), rfl, Below.refl _ _⟩
                · as_aux_lemma =>
                  refine fun w' hB v1 h1 v2 h2 v3 h3 => ?_
                  obtain rfl := h1
                  obtain rfl := h2
                  obtain rfl := h3
                  show wpList _ _ _ _ _ _
                  go_wp2_with fail
                  exact ⟨.pointer (some ⟨gr, i * 32, none⟩), by first | rfl | (go_simp; done), rfl, Below.refl _ _⟩
                · as_aux_lemma =>
                  refine fun w' hB v1 h1 v4 h4 => ?_
                  obtain rfl := h1
                  obtain rfl := h4
                  show wpList _ _ _ _ _ _
                  refine wpList_unguard rfl ?_
                  go_wp2_with (first | refine wpList_load_at rfl (.tmp 45) rfl gr (i * 32) a rfl (Ra.out w' hB) ?_)
                  exact ⟨iv a, rfl, rfl, Below.refl _ _⟩
                · as_aux_lemma =>
                  refine fun w' hB v1 h1 => ?_
                  obtain rfl := h1
                  show wpList _ _ _ _ _ _
                  go_wp2_with fail
                  exact ⟨.slice (some ⟨gr, 0, none⟩) n cr, by first | rfl | (go_simp; done), rfl, Below.refl _ _⟩
                · as_aux_lemma =>
                  refine fun w' hB v1 h1 => ?_
                  obtain rfl := h1
                  show wpList _ _ _ _ _ _
                  go_wp2_with fail
                  exact ⟨.int .i64 i, by first | rfl | (go_simp; done), rfl, Below.refl _ _⟩
                · as_aux_lemma =>
                  refine fun w' hB v1 h1 v7 h7 => ?_
                  obtain rfl := h1
                  obtain rfl := h7
                  show wpList _ _ _ _ _ _
                  go_wp2_with fail
                  exact ⟨.int .i64 i1, by first | rfl | (go_simp; done), rfl, Below.refl _ _⟩
                · as_aux_lemma =>
                  refine fun w' hB v1 h1 v6 h6 v8 h8 => ?_
                  obtain rfl := h1
                  obtain rfl := h6
                  obtain rfl := h8
                  show wpList _ _ _ _ _ _
                  go_wp2_with fail
                  exact ⟨.pointer (some ⟨gr, i1 * 32, none⟩), by first | rfl | (go_simp; done), rfl, Below.refl _ _⟩
                · as_aux_lemma =>
                  refine fun w' hB v1 h1 v9 h9 => ?_
                  obtain rfl := h1
                  obtain rfl := h9
                  show wpList _ _ _ _ _ _
                  refine wpList_unguard rfl ?_
                  go_wp2_with (first | refine wpList_load_at rfl (.tmp 50) rfl gr (i1 * 32) b2 rfl (Rb.out w' hB) ?_)
                  exact ⟨iv b2, rfl, rfl, Below.refl _ _⟩
                · as_aux_lemma =>
                  refine fun w' hB v1 h1 v5 h5 v10 h10 => ?_
                  obtain rfl := h1
                  obtain rfl := h5
                  obtain rfl := h10
                  show wpList _ _ _ _ _ _
                  go_wp2_with fail
                  exact ⟨.bool d, by first | rfl | (go_simp; done), rfl, Below.refl _ _⟩
                · as_aux_lemma =>
                  refine fun w' hB v1 h1 v11 h11 => ?_
                  obtain rfl := h1
                  obtain rfl := h11
                  show wpList _ _ _ _ _ _
                  go_wp2_with fail
                  exact ⟨.bool d, by first | rfl | (go_simp; done), rfl, Below.refl _ _⟩
                · as_aux_lemma =>
                  refine fun w' hB v12 h12 => ?_
                  obtain rfl := h12
                  show wpList _ _ _ _ _ _
                  go_wp2_with fail
                  exact ⟨.bool d, by first | rfl | (go_simp; done), rfl, Below.refl _ _⟩
                · refine fun w' hB v0 h0 v1 h1 v2 h2 v3 h3 v4 h4 v5 h5 v6 h6 v7 h7 v8 h8 v9 h9 v10 h10 v11 h11 v12 h12 v13 h13 => ?_
                  obtain rfl := h13
                  simp only [onP]
                  go_simp
                  clear h0 h1 h2 h3 h4 h5 h6 h7 h8 h9 h10 h11 h12
                  have HB12 := Lib.hid hB
                  go_wp2_with fail
                  obtain ⟨W2, hW2⟩ : ∃ W2, W2 = w' := ⟨_, rfl⟩
                  rw [← hW2] at HB12
                  rw [← hW2]
                  clear hW2 hB
                  refine wp_region_tail 12 [Is (u6), Is (.slice (some ⟨gr, 0, none⟩) n cr), Is (.int .i64 i), Is (.pointer (some ⟨gr, i * 32, none⟩)), Is (iv a), Is (.slice (some ⟨gr, 0, none⟩) n cr), Is (.int .i64 i), Is (.int .i64 i1), Is (.pointer (some ⟨gr, i1 * 32, none⟩)), Is (iv b2), Is (iv X), RowOf (idsL [X]).toArray 24 1 1] [[], [], [], [(1, some 55), (2, some 56)], [(3, some 57)], [], [], [(6, some 60)], [(5, some 59), (7, some 61)], [(8, some 62)], [(4, some 58), (9, some 63)], [(10, some 64)], [(0, some 54), (11, some 65)], [(12, some 66)]] [(0, some 54), (1, some 55), (2, some 56), (3, some 57), (4, some 58), (5, some 59), (6, some 60), (7, some 61), (8, some 62), (9, some 63), (10, some 64), (11, some 65)] [0, 0, 0, 6, 14, 0, 0, 64, 224, 480, 1022, 2046, 4095, 8191]
                    (by kernel_rfl) (by kernel_rfl) (by kernel_rfl) (by kernel_rfl) (by kernel_rfl) ⟨Is.kept _, Is.kept _, Is.kept _, Is.kept _, Is.kept _, Is.kept _, Is.kept _, Is.kept _, Is.kept _, Is.kept _, Is.kept _, RowOf.kept _ _ _ _, trivial⟩ ⟨?_, ?_, ?_, ?_, ?_, ?_, ?_, ?_, ?_, ?_, ?_, ?_, trivial⟩ ?_
                  · as_aux_lemma =>
                    refine fun w' hB => ?_
                    show wpList _ _ _ _ _ _
                    go_wp2_with fail
                    exact ⟨u6, by first | rfl | (go_simp; done), rfl, Below.refl _ _⟩
                  · as_aux_lemma =>
                    refine fun w' hB => ?_
                    show wpList _ _ _ _ _ _
                    go_wp2_with fail
                    exact ⟨.slice (some ⟨gr, 0, none⟩) n cr, by first | rfl | (go_simp; done), rfl, Below.refl _ _⟩
                  · as_aux_lemma =>
                    refine fun w' hB => ?_
                    show wpList _ _ _ _ _ _
                    go_wp2_with fail
                    exact ⟨.int .i64 i, by first | rfl | (go_simp; done), rfl, Below.refl _ _⟩
                  · as_aux_lemma =>
                    refine fun w' hB v1 h1 v2 h2 => ?_
                    obtain rfl := h1
                    obtain rfl := h2
                    show wpList _ _ _ _ _ _
                    go_wp2_with fail
                    exact ⟨.pointer (some ⟨gr, i * 32, none⟩), by first | rfl | (go_simp; done), rfl, Below.refl _ _⟩
                  · as_aux_lemma =>
                    refine fun w' hB v3 h3 => ?_
                    obtain rfl := h3
                    show wpList _ _ _ _ _ _
                    go_wp2_with (first | refine wpList_load_at rfl (.tmp 57) rfl gr (i * 32) a rfl (Ra.out w' (below_next HB12.out hB)) ?_)
                    exact ⟨iv a, rfl, rfl, Below.refl _ _⟩
                  · as_aux_lemma =>
                    refine fun w' hB => ?_
                    show wpList _ _ _ _ _ _
                    go_wp2_with fail
                    exact ⟨.slice (some ⟨gr, 0, none⟩) n cr, by first | rfl | (go_simp; done), rfl, Below.refl _ _⟩
                  · as_aux_lemma =>
                    refine fun w' hB => ?_
                    show wpList _ _ _ _ _ _
                    go_wp2_with fail
                    exact ⟨.int .i64 i, by first | rfl | (go_simp; done), rfl, Below.refl _ _⟩
                  · as_aux_lemma =>
                    refine fun w' hB v6 h6 => ?_
                    obtain rfl := h6
                    show wpList _ _ _ _ _ _
                    go_wp2_with fail
                    exact ⟨.int .i64 i1, by first | rfl | (go_simp; done), rfl, Below.refl _ _⟩
                  · as_aux_lemma =>
                    refine fun w' hB v5 h5 v7 h7 => ?_
                    obtain rfl := h5
                    obtain rfl := h7
                    show wpList _ _ _ _ _ _
                    go_wp2_with fail
                    exact ⟨.pointer (some ⟨gr, i1 * 32, none⟩), by first | rfl | (go_simp; done), rfl, Below.refl _ _⟩
                  · as_aux_lemma =>
                    refine fun w' hB v8 h8 => ?_
                    obtain rfl := h8
                    show wpList _ _ _ _ _ _
                    go_wp2_with (first | refine wpList_load_at rfl (.tmp 62) rfl gr (i1 * 32) b2 rfl (Rb.out w' (below_next HB12.out hB)) ?_)
                    exact ⟨iv b2, rfl, rfl, Below.refl _ _⟩
                  · as_aux_lemma =>
                    refine fun w' hB v4 h4 v9 h9 => ?_
                    obtain rfl := h4
                    obtain rfl := h9
                    show wpList _ _ _ _ _ _
                    go_wp2_with fail
                    refine (HPA.out w').mono ?_
                    rintro e w2 ⟨rfl, hb2⟩
                    go_wp2_with fail
                    exact ⟨iv X, by first | rfl | (go_simp; done), rfl, hb2⟩
                  · as_aux_lemma =>
                    refine fun w' hB v10 h10 => ?_
                    obtain rfl := h10
                    show wpList _ _ _ _ _ _
                    go_wp2_with (first | refine wpList_build_1 rfl (.tmp 64) X rfl rfl ?_)
                    exact ⟨_, rfl, ⟨_, rfl, heap_new _ _⟩, below_alloc (Below.refl _ _) _⟩
                  · refine fun w' hB v0 h0 v1 h1 v2 h2 v3 h3 v4 h4 v5 h5 v6 h6 v7 h7 v8 h8 v9 h9 v10 h10 v11 h11 => ?_
                    obtain rfl := h0
                    obtain ⟨g11, rfl, hg11⟩ := h11
                    simp only [onP, List.drop_succ_cons, List.drop_zero]
                    go_simp
                    clear h1 h2 h3 h4 h5 h6 h7 h8 h9 h10
                    have HB13 : Hid (Below W.heap.size W w') := Lib.hid (below_next HB12.out hB)
                    clear hB
                    go_wp2_with (at_builtin; refine wpList_append_ids rfl (.tmp 54) (.tmp 65) rfl wo.heap.size _ (upl (m.take i)) rfl (HU.out.keep HB13.out) [X] (some ⟨g11, 0, none⟩) 1 rfl (fun e => by cases e) (fun _ => ⟨g11, 0, rfl, IdsAt.row hg11⟩) (by have := HUL.out; have := HTL.out; simp; omega) (by have := HBB.out.size; have := HB13.out.size; omega) (fun v' w5 hown' hbel => ?_))
                    rw [← HUP0.out] at hown'
                    have HW5 := Lib.hid hown'
                    have B5 : Hid (Below wo.heap.size wo w5) := Lib.hid (hbel _ _ (Nat.le_refl _) (HBB.out.trans (HB13.out.mono HBB.out.size)))
                    clear hown' hbel
                    go_wp2_with fail
                    go_roundg (n + 2 - (i + 2))
                    case measure => have := HGI.out; omega
                    case rel => exact ⟨i + 2, rfl, by have := HIE.out; omega, by omega, by go_num, by rw [HTW.out]; rfl, HW5.out, B5.out⟩
              · skip
                refine wp_region_by [Is (.bool true), Is (.bool true), Is (undef), Is (undef), Is (undef), Is (undef), Is (undef), Is (undef), Is (undef), Is (undef), Is (undef), Is (undef), Is (.bool true), Is (.bool true)] [[], [(0, some 41)], [(1, some 42)], [(1, some 42)], [(1, some 42), (2, some 43), (3, some 44)], [(1, some 42), (4, some 45)], [(1, some 42)], [(1, some 42)], [(1, some 42), (7, some 48)], [(1, some 42), (6, some 47), (8, some 49)], [(1, some 42), (9, some 50)], [(1, some 42), (5, some 46), (10, some 51)], [(1, some 42), (11, some 52)], [(12, some 53)]] [(0, some 41), (1, some 42), (2, some 43), (3, some 44), (4, some 45), (5, some 46), (6, some 47), (7, some 48), (8, some 49), (9, some 50), (10, some 51), (11, some 52), (12, some 53), (13, some 4)] [0, 1, 3, 3, 15, 31, 3, 3, 131, 451, 963, 2047, 4095, 8191]
                  (by kernel_rfl) (by kernel_rfl) (by kernel_rfl) (by kernel_rfl) ⟨Is.kept _, Is.kept _, Is.kept _, Is.kept _, Is.kept _, Is.kept _, Is.kept _, Is.kept _, Is.kept _, Is.kept _, Is.kept _, Is.kept _, Is.kept _, Is.kept _, trivial⟩ ⟨?_, ?_, ?_, ?_, ?_, ?_, ?_, ?_, ?_, ?_, ?_, ?_, ?_, ?_, trivial⟩ ?_
                · as_aux_lemma =>
                  refine fun w' hB => ?_
                  show wpList _ _ _ _ _ _
                  go_wp2_with fail
                  exact ⟨.bool true, by first | rfl | (go_simp; done), rfl, Below.refl _ _⟩
                · as_aux_lemma =>
                  refine fun w' hB v0 h0 => ?_
                  obtain rfl := h0
                  show wpList _ _ _ _ _ _
                  go_wp2_with fail
                  exact ⟨.bool true, by first | rfl | (go_simp; done), rfl, Below.refl _ _⟩
                · as_aux_lemma =>
                  refine fun w' hB v1 h1 => ?_
                  obtain rfl := h1
                  show wpList _ _ _ _ _ _
                  refine wpList_skip (by rfl) ?_
                  go_wp2_with fail
                  exact ⟨undef, by first | rfl | (go_simp; done), rfl, Below.refl _ _⟩
                · as_aux_lemma =>
                  refine fun w' hB v1 h1 => ?_
                  obtain rfl := h1
                  show wpList _ _ _ _ _ _
                  refine wpList_skip (by rfl) ?_
                  go_wp2_with fail
                  exact ⟨undef, by first | rfl | (go_simp; done), rfl, Below.refl _ _⟩
                · as_aux_lemma =>
                  refine fun w' hB v1 h1 v2 h2 v3 h3 => ?_
                  obtain rfl := h1
                  obtain rfl := h2
                  obtain rfl := h3
                  show wpList _ _ _ _ _ _
                  refine wpList_skip (by rfl) ?_
                  go_wp2_with fail
                  exact ⟨undef, by first | rfl | (go_simp; done), rfl, Below.refl _ _⟩
                · as_aux_lemma =>
                  refine fun w' hB v1 h1 v4 h4 => ?_
                  obtain rfl := h1
                  obtain rfl := h4
                  show wpList _ _ _ _ _ _
                  refine wpList_skip (by rfl) ?_
                  go_wp2_with fail
                  exact ⟨undef, by first | rfl | (go_simp; done), rfl, Below.refl _ _⟩
                · as_aux_lemma =>
                  refine fun w' hB v1 h1 => ?_
                  obtain rfl := h1
                  show wpList _ _ _ _ _ _
                  refine wpList_skip (by rfl) ?_
                  go_wp2_with fail
                  exact ⟨undef, by first | rfl | (go_simp; done), rfl, Below.refl _ _⟩
                · as_aux_lemma =>
                  refine fun w' hB v1 h1 => ?_
                  obtain rfl := h1
                  show wpList _ _ _ _ _ _
                  refine wpList_skip (by rfl) ?_
                  go_wp2_with fail
                  exact ⟨undef, by first | rfl | (go_simp; done), rfl, Below.refl _ _⟩
                · as_aux_lemma =>
                  refine fun w' hB v1 h1 v7 h7 => ?_
                  obtain rfl := h1
                  obtain rfl := h7
                  show wpList _ _ _ _ _ _
                  refine wpList_skip (by rfl) ?_
                  go_wp2_with fail
                  exact ⟨undef, by first | rfl | (go_simp; done), rfl, Below.refl _ _⟩
                · as_aux_lemma =>
                  refine fun w' hB v1 h1 v6 h6 v8 h8 => ?_
                  obtain rfl := h1
                  obtain rfl := h6
                  obtain rfl := h8
                  show wpList _ _ _ _ _ _
                  refine wpList_skip (by rfl) ?_
                  go_wp2_with fail
                  exact ⟨undef, by first | rfl | (go_simp; done), rfl, Below.refl _ _⟩
                · as_aux_lemma =>
                  refine fun w' hB v1 h1 v9 h9 => ?_
                  obtain rfl := h1
                  obtain rfl := h9
                  show wpList _ _ _ _ _ _
                  refine wpList_skip (by rfl) ?_
                  go_wp2_with fail
                  exact ⟨undef, by first | rfl | (go_simp; done), rfl, Below.refl _ _⟩
                · as_aux_lemma =>
                  refine fun w' hB v1 h1 v5 h5 v10 h10 => ?_
                  obtain rfl := h1
                  obtain rfl := h5
                  obtain rfl := h10
                  show wpList _ _ _ _ _ _
                  refine wpList_skip (by rfl) ?_
                  go_wp2_with fail
                  exact ⟨undef, by first | rfl | (go_simp; done), rfl, Below.refl _ _⟩
                · as_aux_lemma =>
                  refine fun w' hB v1 h1 v11 h11 => ?_
                  obtain rfl := h1
                  obtain rfl := h11
                  show wpList _ _ _ _ _ _
                  go_wp2_with fail
                  exact ⟨.bool true, by first | rfl | (go_simp; done), rfl, Below.refl _ _⟩
                · as_aux_lemma =>
                  refine fun w' hB v12 h12 => ?_
                  obtain rfl := h12
                  show wpList _ _ _ _ _ _
                  go_wp2_with fail
                  exact ⟨.bool true, by first | rfl | (go_simp; done), rfl, Below.refl _ _⟩
                · refine fun w' hB v0 h0 v1 h1 v2 h2 v3 h3 v4 h4 v5 h5 v6 h6 v7 h7 v8 h8 v9 h9 v10 h10 v11 h11 v12 h12 v13 h13 => ?_
                  obtain rfl := h13
                  simp only [onP]
                  go_simp
                  clear h0 h1 h2 h3 h4 h5 h6 h7 h8 h9 h10 h11 h12
                  have HB12 := Lib.hid hB
                  go_wp2_with fail
                  obtain ⟨W2, hW2⟩ : ∃ W2, W2 = w' := ⟨_, rfl⟩
                  rw [← hW2] at HB12
                  rw [← hW2]
                  clear hW2 hB
                  refine wp_region_tail 12 [Is (u6), Is (.slice (some ⟨gr, 0, none⟩) n cr), Is (.int .i64 i), Is (.pointer (some ⟨gr, i * 32, none⟩)), Is (iv a), Is (.slice (some ⟨gr, 0, none⟩) n cr), Is (.int .i64 i), Is (.int .i64 i1), Is (.pointer (some ⟨gr, i1 * 32, none⟩)), Is (iv b2), Is (iv X), RowOf (idsL [X]).toArray 24 1 1] [[], [], [], [(1, some 55), (2, some 56)], [(3, some 57)], [], [], [(6, some 60)], [(5, some 59), (7, some 61)], [(8, some 62)], [(4, some 58), (9, some 63)], [(10, some 64)], [(0, some 54), (11, some 65)], [(12, some 66)]] [(0, some 54), (1, some 55), (2, some 56), (3, some 57), (4, some 58), (5, some 59), (6, some 60), (7, some 61), (8, some 62), (9, some 63), (10, some 64), (11, some 65)] [0, 0, 0, 6, 14, 0, 0, 64, 224, 480, 1022, 2046, 4095, 8191]
                    (by kernel_rfl) (by kernel_rfl) (by kernel_rfl) (by kernel_rfl) (by kernel_rfl) ⟨Is.kept _, Is.kept _, Is.kept _, Is.kept _, Is.kept _, Is.kept _, Is.kept _, Is.kept _, Is.kept _, Is.kept _, Is.kept _, RowOf.kept _ _ _ _, trivial⟩ ⟨?_, ?_, ?_, ?_, ?_, ?_, ?_, ?_, ?_, ?_, ?_, ?_, trivial⟩ ?_
                  · as_aux_lemma =>
                    refine fun w' hB => ?_
                    show wpList _ _ _ _ _ _
                    go_wp2_with fail
                    exact ⟨u6, by first | rfl | (go_simp; done), rfl, Below.refl _ _⟩
                  · as_aux_lemma =>
                    refine fun w' hB => ?_
                    show wpList _ _ _ _ _ _
                    go_wp2_with fail
                    exact ⟨.slice (some ⟨gr, 0, none⟩) n cr, by first | rfl | (go_simp; done), rfl, Below.refl _ _⟩
                  · as_aux_lemma =>
                    refine fun w' hB => ?_
                    show wpList _ _ _ _ _ _
                    go_wp2_with fail
                    exact ⟨.int .i64 i, by first | rfl | (go_simp; done), rfl, Below.refl _ _⟩
                  · as_aux_lemma =>
                    refine fun w' hB v1 h1 v2 h2 => ?_
                    obtain rfl := h1
                    obtain rfl := h2
                    show wpList _ _ _ _ _ _
                    go_wp2_with fail
                    exact ⟨.pointer (some ⟨gr, i * 32, none⟩), by first | rfl | (go_simp; done), rfl, Below.refl _ _⟩
                  · as_aux_lemma =>
                    refine fun w' hB v3 h3 => ?_
                    obtain rfl := h3
                    show wpList _ _ _ _ _ _
                    go_wp2_with (first | refine wpList_load_at rfl (.tmp 57) rfl gr (i * 32) a rfl (Ra.out w' (below_next HB12.out hB)) ?_)
                    exact ⟨iv a, rfl, rfl, Below.refl _ _⟩
                  · as_aux_lemma =>
                    refine fun w' hB => ?_
                    show wpList _ _ _ _ _ _
                    go_wp2_with fail
                    exact ⟨.slice (some ⟨gr, 0, none⟩) n cr, by first | rfl | (go_simp; done), rfl, Below.refl _ _⟩
                  · as_aux_lemma =>
                    refine fun w' hB => ?_
                    show wpList _ _ _ _ _ _
                    go_wp2_with fail
                    exact ⟨.int .i64 i, by first | rfl | (go_simp; done), rfl, Below.refl _ _⟩
                  · as_aux_lemma =>
                    refine fun w' hB v6 h6 => ?_
                    obtain rfl := h6
                    show wpList _ _ _ _ _ _
                    go_wp2_with fail
                    exact ⟨.int .i64 i1, by first | rfl | (go_simp; done), rfl, Below.refl _ _⟩
                  · as_aux_lemma =>
                    refine fun w' hB v5 h5 v7 h7 => ?_
                    obtain rfl := h5
                    obtain rfl := h7
                    show wpList _ _ _ _ _ _
                    go_wp2_with fail
                    exact ⟨.pointer (some ⟨gr, i1 * 32, none⟩), by first | rfl | (go_simp; done), rfl, Below.refl _ _⟩
                  · as_aux_lemma =>
                    refine fun w' hB v8 h8 => ?_
                    obtain rfl := h8
                    show wpList _ _ _ _ _ _
                    go_wp2_with (first | refine wpList_load_at rfl (.tmp 62) rfl gr (i1 * 32) b2 rfl (Rb.out w' (below_next HB12.out hB)) ?_)
                    exact ⟨iv b2, rfl, rfl, Below.refl _ _⟩
                  · as_aux_lemma =>
                    refine fun w' hB v4 h4 v9 h9 => ?_
                    obtain rfl := h4
                    obtain rfl := h9
                    show wpList _ _ _ _ _ _
                    go_wp2_with fail
                    refine (HPA.out w').mono ?_
                    rintro e w2 ⟨rfl, hb2⟩
                    go_wp2_with fail
                    exact ⟨iv X, by first | rfl | (go_simp; done), rfl, hb2⟩
                  · as_aux_lemma =>
                    refine fun w' hB v10 h10 => ?_
                    obtain rfl := h10
                    show wpList _ _ _ _ _ _
                    go_wp2_with (first | refine wpList_build_1 rfl (.tmp 64) X rfl rfl ?_)
                    exact ⟨_, rfl, ⟨_, rfl, heap_new _ _⟩, below_alloc (Below.refl _ _) _⟩
                  · refine fun w' hB v0 h0 v1 h1 v2 h2 v3 h3 v4 h4 v5 h5 v6 h6 v7 h7 v8 h8 v9 h9 v10 h10 v11 h11 => ?_
                    obtain rfl := h0
                    obtain ⟨g11, rfl, hg11⟩ := h11
                    simp only [onP, List.drop_succ_cons, List.drop_zero]
                    go_simp
                    clear h1 h2 h3 h4 h5 h6 h7 h8 h9 h10
                    have HB13 : Hid (Below W.heap.size W w') := Lib.hid (below_next HB12.out hB)
                    clear hB
                    go_wp2_with (at_builtin; refine wpList_append_ids rfl (.tmp 54) (.tmp 65) rfl wo.heap.size _ (upl (m.take i)) rfl (HU.out.keep HB13.out) [X] (some ⟨g11, 0, none⟩) 1 rfl (fun e => by cases e) (fun _ => ⟨g11, 0, rfl, IdsAt.row hg11⟩) (by have := HUL.out; have := HTL.out; simp; omega) (by have := HBB.out.size; have := HB13.out.size; omega) (fun v' w5 hown' hbel => ?_))
                    rw [← HUP0.out] at hown'
                    have HW5 := Lib.hid hown'
                    have B5 : Hid (Below wo.heap.size wo w5) := Lib.hid (hbel _ _ (Nat.le_refl _) (HBB.out.trans (HB13.out.mono HBB.out.size)))
                    clear hown' hbel
                    go_wp2_with fail
                    go_roundg (n + 2 - (i + 2))
                    case measure => have := HGI.out; omega
                    case rel => exact ⟨i + 2, rfl, by have := HIE.out; omega, by omega, by go_num, by rw [HTW.out]; rfl, HW5.out, B5.out⟩
          · obtain rfl : i = n := by omega
            have et : m.take i = m := List.take_of_length_le (by rw [HNM.out]; exact Nat.le_refl _)
            rw [et] at HU
            rw [et]
            clear et hlt hin
            obtain ⟨f', hf1, hf2⟩ := mroot_up (f := f) (l := m) (t := t) (by rw [← HNM.out]; exact h1) HF.out
            have HF1 := Lib.hid hf1; have HF2 := Lib.hid hf2
            have HULM := Lib.hid (upl_len m)
            clear hf1 hf2
            go_wp2_with fail
            go_roundg ((upl m).length)
            case measure => rw [HULM.out, HG.out, ← HNM.out]; omega
            case rel => exact ⟨f', upl m, _, rfl, HF1.out, by rw [HULM.out, ← HNM.out]; omega, by rw [HULM.out, ← HNM.out]; omega, upl_lt HMB.out, HF2.out.symm.trans HMR.out, rfl, HU.out.mono HBZ.out, ((HBB.out.block _ (by have := HBZ.out; omega)).trans HK.out), (HB.out.trans (HBB.out.mono (by have := HBZ.out; omega)))⟩
      · obtain rfl : n = 1 := by omega
        obtain ⟨a, ha⟩ : ∃ a, a = m.getD 0 0 := ⟨_, rfl⟩
        have hR : R = (a, t) := by rw [← HMR.out, mroot_end (by rw [← HNM.out]; exact Nat.le_refl _), ← ha]
        have hRa : wr.rangeAt gr 0 (ids a) := by
          have := HI.out.range (i := 0) (by rw [← HNM.out]; exact hn0)
          rw [Nat.zero_mul, Nat.zero_add, ← ha] at this
          exact this
        have RA := Lib.hid hRa
        have HRR := Lib.hid hR
        clear hR ha HMR HG HF HMB HNM HI hRa
        go_wp2_with (first | refine wpList_load_at rfl (.tmp 69) rfl gr 0 a rfl RA.out ?_ | (refine wpList_store_id rfl (.tmp 2) (.tmp 70) rfl w.heap.size 0 a rfl rfl HK.out (fun w3 h1 h2 h3 h4 => ?_)))
        have hll := loadVar_id h1
        exact bodyPost_ret (v := .tuple #[iv a, .bool t]) (by simp [results, Try.results63, asAddr, hll]) rfl ⟨by rw [HRR.out], h4 _ _ (Nat.le_refl _) HB.out⟩
end Go.Proofs.Ytnbppbnjkmopeaa
