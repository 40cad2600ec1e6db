/- The law PresyncBits: what is remembered of headers hangs on the salt and their names alone. No condition. -/
import Derived.Test.YtnbppbnjkmopeaaSyPe
import Derived.Test.YtnbppbnjkmopeaaHead
import Derived.Test.YtnbppbnjkmopeaaOpenMore
namespace Go.Proofs.Ytnbppbnjkmopeaa
open Go.ChangeShapes Go.WideShapes Go.ChangeAt Go.RowKit

/-- headers in the first phase, all of a line's first ones remembered -/
def stB (p : Ps) (l : List Hd) : Ps := { p with last := nxs p.last l, bits := p.bits ++ mks p.salt 0 l }
theorem stB_take {P0 : Ps} {x : Nd} {I : Nat} (hx : GenX x I) (S : Nat) (hP : P0 = newP (rlR 1000 0) S x) {l : List Hd} (hc : Chn 545259519 I l) (hl : l.length ≤ 24) (k a b : List Hd) (e : l = k ++ (a ++ b)) : takeP (stB P0 k) true a = (stB P0 (k ++ a), []) := by
  have hl2 : k.length + (a.length + b.length) ≤ 24 := by rw [e, List.length_append, List.length_append] at hl; exact hl
  rw [e] at hc
  obtain ⟨c1, c2⟩ := Chn.app.1 hc
  obtain ⟨c3, _⟩ := Chn.app.1 c2
  have hid : P0.last.id = I := by rw [hP]; exact hx.id
  have hwk : P0.last.work = 2 := by rw [hP]; exact hx.work
  have hnd : P0.need = 2000 := by rw [hP]; show needN (rlR 1000 0) = 2000; rw [need_rlR (by omega) (by omega)]; rfl
  have hbt : P0.bits = [] := by rw [hP]; rfl
  have hm := mks_len P0.salt k 0
  have hp : (stB P0 k).plain 545259519 (0 + k.length) := plain_nxs (hP ▸ plain_newP hx S : P0.plain 545259519 0) c1 rfl rfl
  rw [take_cnt a (stB P0 k) (0 + k.length) hp (by show P0.phase = 1; rw [hP]; rfl) (by show Chn _ (nxs P0.last k).id a; rw [nxs_id, hid]; exact c3) (by show (nxs P0.last k).work + 2 * a.length < P0.need; rw [nxs_work, hwk, hnd]; omega) (by show P0.need < 2 ^ 256; rw [hnd]; decide) (by show (P0.bits ++ mks P0.salt 0 k).length + a.length ≤ 256; rw [hbt, List.nil_append]; omega) (by show P0.ready = []; rw [hP]; rfl)]
  unfold stB
  simp only [nxs, List.foldl_append, mks_app, List.append_assoc]
theorem stB_good {P0 : Ps} {x : Nd} {I : Nat} (hx : GenX x I) (S : Nat) (hP : P0 = newP (rlR 1000 0) S x) {l : List Hd} (hc : Chn 545259519 I l) (hl : l.length ≤ 24) (k b : List Hd) (e : l = k ++ b) : (stB P0 k).good 50 := by
  have h0 : stB P0 [] = P0 := by unfold stB mks nxs; simp
  have h1 := stB_take hx S hP hc hl [] k b e
  rw [h0, List.nil_append] at h1
  have hg : P0.good 0 := by rw [hP]; exact good_newP hx (by omega) (by omega) (by omega) (by omega) S
  have hlo := hc.ok
  have := good_take hg true k (fun y hy => hlo y (by rw [e]; exact List.mem_append_left _ hy))
  rw [h1] at this
  exact this.mono (by rw [e, List.length_append] at hl; omega)
set_option maxRecDepth 100000 in
set_option maxHeartbeats 4000000 in
theorem PresyncBits_walk (S : Nat) (hS : S < 2 ^ 256) (n : Int) (_ : (Lit.int .i64 n).wf = true) (w : World) :
    Calls Try.prog 14 #[iv S, .int .i64 n] w fun e w' => e = .returned (.bool true) ∧ Below w.heap.size w w' := by

  obtain ⟨x, I, hx⟩ := genX
  have HXX := Lib.hid hx
  have KS := Lib.hid (heap_new w (iblk S))
  have B := Lib.hid (below_alloc (Below.refl w.heap.size w) (iblk S))
  have HSL := Lib.hid hS
  clear hx hS
  go_enter Try.func14, Try.ntmps14
  go_wp2_with fail
  obtain ⟨gs, hgs⟩ : ∃ g, g = w.heap.size := ⟨_, rfl⟩
  have HGS := Lib.hid hgs
  rw [← hgs] at KS
  rw [← hgs]
  clear hgs
  refine (asks_any _).mono ?_
  rintro e w1 ⟨rfl, hb⟩
  have B1 := Lib.hid (below_next B.out hb); have KS1 := Lib.hid (block_keep hb KS.out)
  clear hb B KS
  by_cases h1 : n < 1
  · go_wp2_with fail
    go_ret
    exact ⟨rfl, B1.out⟩
  by_cases h2 : 24 < n
  · go_wp2_with fail
    go_ret
    exact ⟨rfl, B1.out⟩
  obtain ⟨N, rfl⟩ : ∃ N : Nat, n = N := ⟨n.toNat, by omega⟩
  have hN1 : 1 ≤ N := by omega
  have hN2 : N ≤ 24 := by omega
  have h1' : ¬ (N : Int) < 1 := by omega
  have h2' : ¬ 24 < (N : Int) := by omega
  clear h1 h2
  go_wp2_with fail
  refine (lrules_any 1000 0 _).mono ?_
  rintro e w2 ⟨rfl, hb⟩
  have B2 := Lib.hid (below_next B1.out hb); have KS2 := Lib.hid (block_keep hb KS1.out)
  clear hb B1 KS1
  go_wp2_with fail
  refine (ltree_any (by omega) (by omega) (by omega) (by omega) _).mono ?_
  rintro e w3 ⟨T, vn, m, rfl, hT, hb, hfr⟩
  have B3 := Lib.hid (below_next B2.out hb); have KS3 := Lib.hid (block_keep hb KS2.out); have K3 := Lib.hid hT
  clear hb B2 KS2 hT hfr
  go_wp2_with fail
  refine (lget_any HXX.out _ K3.out).mono ?_
  rintro e w4 ⟨rfl, hb⟩
  have B4 := Lib.hid (below_next B3.out hb); have KS4 := Lib.hid (block_keep hb KS3.out); have K4 := Lib.hid (K3.out.keep hb)
  clear hb B3 KS3 K3
  have ep := field_gen HXX.out w4
  go_wp2_with fail
  refine (line_any I HXX.out.lt N (by omega) 5 (by omega) _).mono ?_
  rintro e w5 ⟨vl, rfl, hO, hb⟩
  have B7 := Lib.hid (below_next B4.out hb); have KS := Lib.hid (block_keep hb KS4.out); have K7 := Lib.hid (K4.out.keep hb)
  have O7 := Lib.hid hO
  have hz45 := hb.size
  have hTz : Hid (T < w4.heap.size) := Lib.hid (block_lt K4.out.blk)
  obtain ⟨l, hl⟩ : ∃ l, l = lineP 1000 545259519 5 N 0 I := ⟨_, rfl⟩
  have HC : Hid (Chn 545259519 I l) := Lib.hid (hl ▸ chn_line (by omega) N 0 I HXX.out.lt)
  have hll : l.length ≤ 24 := by have := lineP_len 1000 545259519 5 N 0 I; rw [hl]; omega
  rw [← hl] at O7
  have HLO := Lib.hid HC.out.ok
  clear hb B4 KS4 K4 ep hO hl
  obtain ⟨P0, hP0⟩ : ∃ P, P = newP (rlR 1000 0) S x := ⟨_, rfl⟩
  have cs : Hid (∀ W, GTree W T vn m 1000 0 → Calls Try.prog 33 #[.pointer (some ⟨T, 0, none⟩), .int .i64 0, iv S] W fun e w' => ∃ g, e = .returned (.pointer (some ⟨g, 0, none⟩)) ∧ W.heap.size ≤ g ∧ PsIs w' g (.slice none 0 0) (.slice none 0 0) P0 ∧ Below W.heap.size W w') := Lib.hid fun W hW => hP0 ▸ lsync_any HXX.out (by omega) S W hW
  have HP0 := Lib.hid hP0
  have G0 : Hid (P0.good 0) := Lib.hid (by rw [hP0]; exact good_newP HXX.out (by omega) (by omega) (by omega) (by omega) S)
  have L0 : Hid (P0.plain 545259519 0) := Lib.hid (by rw [hP0]; exact plain_newP HXX.out S)
  clear hP0
  have HST : Hid (∀ k a b, l = k ++ (a ++ b) → takeP (stB P0 k) true a = (stB P0 (k ++ a), [])) := Lib.hid fun k a b e => stB_take HXX.out S HP0.out HC.out hll k a b e
  have HSG : Hid (∀ k b, l = k ++ b → (stB P0 k).good 50) := Lib.hid fun k b e => stB_good HXX.out S HP0.out HC.out hll k b e
  have HS0 : Hid (stB P0 [] = P0) := Lib.hid (by unfold stB mks nxs; simp)
  obtain ⟨x7, c7, e7⟩ := O7.out.shape
  subst e7
  go_wp2_with fail
  refine wp_region_new 6 (fun j => decide (j = 2) || decide (j = 5)) [Is (.pointer (some ⟨T, 0, none⟩)), Is (iv S), BoxOf (syblk (P0.sy (.slice none 0 0) (.slice none 0 0))), Is (.pointer (some ⟨T, 0, none⟩)), Is (iv S), BoxOf (syblk (P0.sy (.slice none 0 0) (.slice none 0 0)))] [[], [], [(0, some 34), (1, some 35)], [], [], [(3, some 37), (4, some 38)], [(2, some 36)], [(5, some 39)]] [(0, some 34), (1, some 35), (2, some 36), (3, some 37), (4, some 38), (5, some 39)] [0, 0, 3, 0, 0, 31, 63, 127]
    (by kernel_rfl) (by kernel_rfl) (by kernel_rfl) (by kernel_rfl) (by kernel_rfl) ⟨Is.kept _, Is.kept _, BoxOf.kept _, Is.kept _, Is.kept _, BoxOf.kept _, trivial⟩ ⟨?_, ?_, ?_, ?_, ?_, ?_, trivial⟩ ?_
  · as_aux_lemma =>
    refine fun w' hB => ?_
    show wpList _ _ _ _ _ _
    go_wp2_with fail
    exact ⟨.pointer (some ⟨T, 0, none⟩), by first | rfl | (go_simp; done), rfl, Below.refl _ _, fun h => absurd h (by decide)⟩
  · as_aux_lemma =>
    refine fun w' hB => ?_
    show wpList _ _ _ _ _ _
    go_wp2_with ((with_reducible show wpList _ _ _ _ _ _); refine wpList_load_id rfl (.tmp 2) rfl gs S rfl (block_keep hB KS.out) ?_)
    exact ⟨_, rfl, rfl, Below.refl _ _, fun h => absurd h (by decide)⟩
  · as_aux_lemma =>
    refine fun w' hB v0 h0 v1 h1 => ?_
    obtain rfl := h0
    obtain rfl := h1
    show wpList _ _ _ _ _ _
    go_wp2_with fail
    refine (cs.out _ (K7.out.keep hB)).mono ?_
    rintro e w2 ⟨g, rfl, hg, hp, hb2⟩
    go_wp2_with fail
    exact ⟨_, rfl, ⟨g, rfl, hp.blk⟩, hb2, fun _ => ⟨g, rfl, hg, block_lt hp.blk⟩⟩
  · as_aux_lemma =>
    refine fun w' hB => ?_
    show wpList _ _ _ _ _ _
    go_wp2_with fail
    exact ⟨.pointer (some ⟨T, 0, none⟩), by first | rfl | (go_simp; done), rfl, Below.refl _ _, fun h => absurd h (by decide)⟩
  · as_aux_lemma =>
    refine fun w' hB => ?_
    show wpList _ _ _ _ _ _
    go_wp2_with ((with_reducible show wpList _ _ _ _ _ _); refine wpList_load_id rfl (.tmp 2) rfl gs S rfl (block_keep hB KS.out) ?_)
    exact ⟨_, rfl, rfl, Below.refl _ _, fun h => absurd h (by decide)⟩
  · as_aux_lemma =>
    refine fun w' hB v3 h3 v4 h4 => ?_
    obtain rfl := h3
    obtain rfl := h4
    show wpList _ _ _ _ _ _
    go_wp2_with fail
    refine (cs.out _ (K7.out.keep hB)).mono ?_
    rintro e w2 ⟨g, rfl, hg, hp, hb2⟩
    go_wp2_with fail
    exact ⟨_, rfl, ⟨g, rfl, hp.blk⟩, hb2, fun _ => ⟨g, rfl, hg, block_lt hp.blk⟩⟩
  · refine fun w' G hB hN1 hN2 v0 h0 v1 h1 v2 h2 v3 h3 v4 h4 v5 h5 => ?_
    replace h0 := h0.1
    replace h1 := h1.1
    obtain ⟨h2, hG2⟩ := h2; replace hG2 := hG2 (by decide)
    replace h3 := h3.1
    replace h4 := h4.1
    obtain ⟨h5, hG5⟩ := h5; replace hG5 := hG5 (by decide)
    have hW2 := hN1 2 (by decide) (by decide)
    have hW5 := hN1 5 (by decide) (by decide)
    have hD2_5 := hN2 2 5 (by decide) (by decide) (by decide) (by decide) (by decide)
    clear hN1 hN2
    obtain ⟨g2, rfl, hg2⟩ := h2
    obtain ⟨g5, rfl, hg5⟩ := h5
    obtain ⟨gn2, en2, hge2, hlt2⟩ := hW2
    obtain rfl := Option.some.inj (hG2.trans en2)
    obtain ⟨gn5, en5, hge5, hlt5⟩ := hW5
    obtain rfl := Option.some.inj (hG5.trans en5)
    have hne2_5 := fun e => hD2_5 (en2.trans ((congrArg some e).trans en5.symm))
    dsimp only at hge2 hlt2 hge5 hlt5 hne2_5
    clear en2 en5
    simp only [onP, List.drop_succ_cons, List.drop_zero]
    go_simp
    clear h0 h1 h3 h4
    have B8 := Lib.hid (below_next B7.out hB); have KS8 := Lib.hid (block_keep hB KS.out); have K8 := Lib.hid (K7.out.keep hB)
    have PA : Hid (PsIs w' g2 (.slice none 0 0) (.slice none 0 0) P0) := Lib.hid ⟨hg2, (by rw [HP0.out]; exact OwnsB.nil _ _), (by rw [HP0.out]; exact OwnsH.nil _ _)⟩
    have PB : Hid (PsIs w' g5 (.slice none 0 0) (.slice none 0 0) P0) := Lib.hid ⟨hg5, (by rw [HP0.out]; exact OwnsB.nil _ _), (by rw [HP0.out]; exact OwnsH.nil _ _)⟩
    have HX7 : Hid (0 < l.length → ∃ b, x7 = some ⟨b, 0, none⟩ ∧ HdsAt w' b 0 l ∧ b < w5.heap.size) := Lib.hid fun hl => by
      obtain ⟨b, e1, e2, _, e3⟩ := O7.out.arg2 hl
      exact ⟨b, e1, e2.keep hB, e3⟩
    have HTL : Hid (∀ k, trD T vn m k → k < w5.heap.size) := Lib.hid fun k hk => TrIs.lt K7.out k hk
    have hgs5 := block_lt KS.out
    have hw5 : w.heap.size ≤ w5.heap.size := B7.out.size
    obtain ⟨ga, rfl⟩ : ∃ ga, g2 = ga := ⟨_, rfl⟩
    obtain ⟨gb, rfl⟩ : ∃ gb, g5 = gb := ⟨_, rfl⟩
    clear hB B7 KS K7 O7 hg2 hg5 hG2 hG5 hD2_5 cs hlt2 hz45 hTz
    go_wp2_with fail
    refine (take_any g2 _ _ P0 true x7 c7 l 0 G0.out (by omega) HLO.out _ PA.out (fun hl => by
      obtain ⟨b, e1, e2, e3⟩ := HX7.out hl
      exact ⟨b, 0, e1, e2, fun e => by have := psD_new e; omega⟩)).mono ?_
    rintro e w9 ⟨v9, rfl, _, ⟨vba, vra, hpa, hgra, hdfa⟩, _⟩
    have hpa2 : PsIs w9 g2 vba vra (stB P0 l) := by
      have := HST.out [] l [] (by simp)
      rw [HS0.out, List.nil_append] at this
      rw [this] at hpa
      exact hpa
    have PB9 : Hid (PsIs w9 g5 (.slice none 0 0) (.slice none 0 0) (stB P0 [])) := Lib.hid (by rw [HS0.out]; exact PB.out.gr hgra (fun k hk e => by have := psD_new hk; have := psD_new e; exact hne2_5 (by omega)))
    have HOLD : Hid (∀ V, Gr (fun k => k = g5) w9 V → V.heap[gs]? = some (iblk S) ∧ GTree V T vn m 1000 0 ∧ PsIs V g2 vba vra (stB P0 l) ∧ (0 < l.length → ∃ b, x7 = some ⟨b, 0, none⟩ ∧ HdsAt V b 0 l) ∧ Below w.heap.size w V) := Lib.hid fun V hV => by
      refine ⟨hV.keep (hgra.keep KS8.out (fun e => by have := psD_new e; omega)) (by omega), TrIs.gr (TrIs.gr K8.out hgra (fun k hk e => by have := psD_new e; have := HTL.out k hk; omega)) hV (fun k hk e => by have := HTL.out k hk; omega), hpa2.gr hV (fun k hk e => ?_), fun hl => ?_, ?_⟩
      · rcases hdfa k hk with e1 | e1
        · have := psD_new e1; exact hne2_5 (by omega)
        · omega
      · obtain ⟨b, e1, e2, e3⟩ := HX7.out hl
        exact ⟨b, e1, (e2.gr hgra (fun e => by have := psD_new e; omega)).gr hV (by omega)⟩
      · have hB9 := B8.out.trans (hgra.below w.heap.size B8.out.size (fun i hi e => by have := psD_new e; omega))
        exact hB9.trans (hV.below w.heap.size hB9.size (fun i hi e => by omega))
    have hg59 : Hid (g5 < w9.heap.size) := Lib.hid (block_lt PB9.out.blk)
    clear hpa hgra hdfa hpa2 PA PB B8 KS8 K8 HX7
    go_wp2_with fail
    go_loopg [45] (l.length) (fun gm ix wr => ∃ (j : Nat) (vb' vr' : Value), gm = l.length - j ∧ j ≤ l.length ∧ ix = .int .i64 j ∧ PsIs wr g5 vb' vr' (stB P0 (l.take j)) ∧ (∀ k, psD g5 vb' vr' k → k = g5 ∨ w9.heap.size ≤ k) ∧ Gr (fun k => k = g5) w9 wr)
    case atStart => exact ⟨0, _, _, rfl, Nat.zero_le _, rfl, PB9.out, fun k hk => .inl (psD_new hk), Gr.refl _ _⟩
    case round =>
      clear PB9
      obtain ⟨j, vb1, vr1, hgm, hj, rfl, hP, hD, hG⟩ := hrel
      have HGM := Lib.hid hgm; have PB := Lib.hid hP; have HD := Lib.hid hD; have HG := Lib.hid hG
      clear hgm hP hD hG
      by_cases hlt : j < l.length
      · obtain ⟨_, _, _, hmem0, _⟩ := HOLD.out _ HG.out
        obtain ⟨b0, rfl, hmem⟩ := hmem0 (by omega)
        clear hmem0
        obtain ⟨h, hh⟩ : ∃ h, h = l.getD j hd0 := ⟨_, rfl⟩
        have hle : l[j]? = some h := by rw [hh, List.getD_eq_getElem?_getD, List.getElem?_eq_getElem hlt, Option.getD_some]
        have hok : h.ok := HLO.out h (List.mem_of_getElem? hle)
        have HM : Hid (wr.rangeAt b0 (j * 68) (hdcs h)) := Lib.hid (by have := hmem.at j hlt; rw [Nat.zero_add, ← hh] at this; exact this)
        have hspl : l = l.take j ++ ([h] ++ l.drop (j + 1)) := by
          conv => lhs; rw [← List.take_append_drop j l, List.drop_eq_getElem_cons hlt]
          rw [List.getElem?_eq_getElem hlt] at hle
          rw [Option.some.inj hle]; rfl
        have hst := HST.out _ _ _ hspl
        have htk : l.take j ++ [h] = l.take (j + 1) := by rw [List.take_add_one, hle]; rfl
        rw [htk] at hst
        have hsg := HSG.out _ _ hspl
        have HSt := Lib.hid hst; have HSg := Lib.hid hsg; have HOK := Lib.hid hok
        have HZ := Lib.hid (show Obj.cells Try.zeroCells26 26 = hdblk hd0 from by unfold hdblk; rw [hdz]; rfl)
        clear hh hle hok hmem hspl hst htk hsg
        go_wp2_with ((with_reducible show wpList _ _ _ _ _ _); first | refine ld_hd rfl (.tmp 47) rfl b0 (j * 68) h rfl HM.out ?_ | (refine wpList_store_hd rfl (.tmp 11) (.tmp 48) rfl wr.heap.size hd0 h rfl rfl ((heap_new wr _).trans (congrArg some HZ.out)) (fun w3 h1 h2 h3 h4 => ?_); have hB3 := Lib.hid (h4 _ _ (Nat.le_refl _) (below_alloc (Below.refl _ _) _)); have KH := Lib.hid h1; clear h1 h2 h3 h4) | refine wpList_load_hd rfl (.tmp 11) rfl wr.heap.size h rfl KH.out ?_ | refine wpList_bs_hd rfl (.tmp 50) h rfl rfl ?_)
        have hB4 : Hid (Below wr.heap.size wr (w3.alloc (.cells (hdsL [h]).toArray 26 (0, 0)))) := Lib.hid (below_alloc hB3.out _)
        have hw3 := hB3.out.size
        refine (take_any g5 vb1 vr1 (stB P0 (l.take j)) true (some ⟨w3.heap.size, 0, none⟩) 1 [h] 50 HSg.out (by simp) (by intro y hy; rw [List.mem_singleton] at hy; rw [hy]; exact HOK.out) _ (PB.out.keep hB4.out) (fun _ => ⟨_, 0, rfl, hds_new w3 h, fun e => by have := PB.out.lt _ e; omega⟩)).mono ?_
        rintro e w6 ⟨v6, rfl, _, ⟨vb2, vr2, hp2, hg2, hd2⟩, _⟩
        rw [HSt.out] at hp2
        have P6 := Lib.hid hp2
        have G6 : Hid (Gr (fun k => k = g5) w9 w6) := Lib.hid ((HG.out.next hB4.out).trans hg2 (fun i hi e => (HD.out i e).resolve_right (by omega)))
        have D6 : Hid (∀ k, psD g5 vb2 vr2 k → k = g5 ∨ w9.heap.size ≤ k) := Lib.hid fun k hk => (hd2 k hk).elim (HD.out k) (fun e => .inr (by have := HG.out.size; have := hB4.out.size; omega))
        clear hp2 hg2 hd2 hB3 hB4 hw3 KH HM PB HD HG HSt HSg
        go_wp2_with fail
        go_roundg (l.length - (j + 1))
        case measure => have := HGM.out; omega
        case rel => exact ⟨j + 1, vb2, vr2, rfl, by omega, by go_num, P6.out, D6.out, G6.out⟩
      · obtain rfl : j = l.length := by omega
        have PB : Hid (PsIs wr g5 vb1 vr1 (stB P0 l)) := Lib.hid (by have := PB.out; rwa [List.take_length] at this)
        obtain ⟨hks, hk, hpa, _, hbw⟩ := HOLD.out _ HG.out
        have KS := Lib.hid hks; have K := Lib.hid hk; have KA := Lib.hid hpa; have B := Lib.hid hbw; have KB := PB
        clear HOLD HG HD hks hk hpa hbw PB
        obtain ⟨WL, hWL⟩ : ∃ W, W = wr := ⟨_, rfl⟩
        subst hWL
        obtain ⟨s, hs⟩ : ∃ s, s = S % 256 := ⟨_, rfl⟩
        have hs2 : s < 256 := by omega
        have cS : WL.cell? ⟨gs, 0, none⟩ = some (.int .u8 (s : Int)) := by rw [hs, ← show lb S 0 = ((S % 256 : Nat) : Int) from by simp [lb]]; exact (cell_of_row _ _ _ _ _ _ KS.out).trans (by rw [List.getElem?_toArray]; exact ids_get S 0 (by omega))
        have HMK : Hid (∀ j, j < l.length → (mks S 0 (l.take (j + 1))).length = (mks S 0 (l.take j)).length + if (j + 1) % 4 = s % 4 then 1 else 0) := Lib.hid fun j hj => by
          obtain ⟨h, hh⟩ : ∃ h, l[j]? = some h := ⟨_, List.getElem?_eq_getElem hj⟩
          rw [List.take_add_one, hh, mks_app, List.length_append, List.length_take, Nat.min_eq_left (by omega), Nat.zero_add, hs]
          show _ + ((if (j + 1) % 4 = S % 256 % 4 then [hbit S (hdid h)] else []) ++ []).length = _
          rw [List.append_nil]
          by_cases c : (j + 1) % 4 = S % 256 % 4
          · rw [if_pos c, if_pos c]; rfl
          · rw [if_neg c, if_neg c]; rfl
        have HS := Lib.hid hs
        clear hs hlt hj HGM
        go_wp2_with fail
        go_loopg [12, 56] (l.length) (fun gm wv ix wr => ∃ j : Nat, gm = l.length - j ∧ j ≤ l.length ∧ wv = .int .i64 (((mks S 0 (l.take j)).length : Nat) : Int) ∧ ix = .int .i64 j ∧ wr = WL)
        case atStart => exact ⟨0, rfl, Nat.zero_le _, rfl, rfl, rfl⟩
        case round =>
          obtain ⟨j, hgm, hj, rfl, rfl, e⟩ := hrel
          subst e
          have HGM := Lib.hid hgm
          clear hgm
          have hcl : (mks S 0 (l.take j)).length ≤ 24 := by have := mks_len S (l.take j) 0; have := List.length_take_le j l; omega
          by_cases hlt : j < l.length
          · have hmk := HMK.out j hlt
            obtain ⟨C, hC⟩ : ∃ C, C = (mks S 0 (l.take j)).length := ⟨_, rfl⟩
            rw [← hC] at hcl hmk
            rw [← hC]
            clear hC
            by_cases hm : (j + 1) % 4 = s % 4
            · rw [if_pos hm] at hmk
              have em : ((((j : Int) + 1) % 4) == ((s : Int) % 4)) = true := by rw [beq_iff_eq]; omega
              have HM := Lib.hid hmk
              clear hm hmk
              go_wp2_with fail
              go_roundg (l.length - (j + 1))
              case measure => have := HGM.out; omega
              case rel => exact ⟨j + 1, rfl, by omega, by rw [HM.out]; go_num, by go_num, rfl⟩
            · rw [if_neg hm] at hmk
              have em : ((((j : Int) + 1) % 4) == ((s : Int) % 4)) = false := by rw [Bool.eq_false_iff, Ne, beq_iff_eq]; omega
              have HM := Lib.hid hmk
              clear hm hmk
              go_wp2_with fail
              go_roundg (l.length - (j + 1))
              case measure => have := HGM.out; omega
              case rel => exact ⟨j + 1, rfl, by omega, by rw [HM.out]; go_num, by go_num, rfl⟩
          · obtain rfl : j = l.length := by omega
            rw [List.take_length]
            rw [List.take_length] at hcl
            obtain ⟨C, hC⟩ : ∃ C, C = (mks S 0 l).length := ⟨_, rfl⟩
            rw [← hC] at hcl
            rw [← hC]
            have hsalt : P0.salt = S := by rw [HP0.out]; rfl
            have hbits : (stB P0 l).bits.length + (stB P0 l).ready.length = C := by
              show (P0.bits ++ mks P0.salt 0 l).length + P0.ready.length = C
              rw [hsalt, hC, show P0.bits = [] from by rw [HP0.out]; rfl, show P0.ready = [] from by rw [HP0.out]; rfl]
              simp
            obtain ⟨J, hJ⟩ : ∃ J, J = (stB P0 l).last.id := ⟨_, rfl⟩
            have HJ : Hid (J < 2 ^ 256) := Lib.hid (by rw [hJ]; exact (HSG.out l [] (by simp)).lid)
            have hph : (stB P0 l).phase = 1 := by show P0.phase = 1; rw [HP0.out]; rfl
            obtain ⟨q, hq⟩ : ∃ q, q = stB P0 l := ⟨_, rfl⟩
            rw [← hq] at KA KB hbits hJ hph
            have hb1 : q.bits.length ≤ 1000000 := by omega
            have hb2 : q.ready.length ≤ 1000000 := by omega
            have sa : Hid (∀ W, PsIs W g2 vba vra q → Calls Try.prog 50 #[.pointer (some ⟨g2, 0, none⟩)] W fun e w' => e = .returned (.int .i64 (C : Nat)) ∧ Below W.heap.size W w') := Lib.hid fun W hW => by rw [← hbits]; exact psize_any g2 _ _ q W hW hb1 hb2
            have sb : Hid (∀ W, PsIs W g5 vb1 vr1 q → Calls Try.prog 50 #[.pointer (some ⟨g5, 0, none⟩)] W fun e w' => e = .returned (.int .i64 (C : Nat)) ∧ Below W.heap.size W w') := Lib.hid fun W hW => by rw [← hbits]; exact psize_any g5 _ _ q W hW hb1 hb2
            have la : Hid (∀ W, PsIs W g2 vba vra q → Calls Try.prog 38 #[.pointer (some ⟨g2, 0, none⟩)] W fun e w' => e = .returned (iv J) ∧ Below W.heap.size W w') := Lib.hid fun W hW => hJ ▸ last_any g2 (q.sy _ _) W hW.blk
            have lb' : Hid (∀ W, PsIs W g5 vb1 vr1 q → Calls Try.prog 38 #[.pointer (some ⟨g5, 0, none⟩)] W fun e w' => e = .returned (iv J) ∧ Below W.heap.size W w') := Lib.hid fun W hW => hJ ▸ last_any g5 (q.sy _ _) W hW.blk
            have pa : Hid (∀ W, PsIs W g2 vba vra q → Calls Try.prog 36 #[.pointer (some ⟨g2, 0, none⟩)] W fun e w' => e = .returned (.int .i64 1) ∧ Below W.heap.size W w') := Lib.hid fun W hW => by
              have := phase_any g2 (q.sy vba vra) W hW.blk
              rw [show (q.sy vba vra).phase = 1 from by show ((q.phase : Nat) : Int) = 1; rw [hph]; rfl] at this
              exact this
            have cg := Lib.hid fun (W : World) (hW : GTree W T vn m 1000 0) => lget_any HXX.out W hW
            have cb := Lib.hid fun W => bit_any S I W
            obtain ⟨bt, hbt⟩ : ∃ b, b = hbit S I := ⟨_, rfl⟩
            rw [← hbt] at cb
            clear hbt hbits hJ hph hq hb1 hb2 hlt hsalt hC cS HMK
            go_wp2_with fail
            refine wp_region_by [Is (.pointer (some ⟨g2, 0, none⟩)), Is (.int .i64 C), Is (.int .i64 C), Is (.bool true), Is (.bool true), Is (.pointer (some ⟨g5, 0, none⟩)), Is (.int .i64 C), Is (.int .i64 C), Is (.bool true), Is (.bool true), Is (.bool true), Is (.pointer (some ⟨g2, 0, none⟩)), Is (iv J), Is (.pointer (some ⟨g5, 0, none⟩)), Is (iv J), Is (.bool true), Is (.bool true), Is (.bool true), Is (.pointer (some ⟨g2, 0, none⟩)), Is (.int .i64 1), Is (.bool true), Is (.bool true), Is (.bool true), Is (iv S), Is (.pointer (some ⟨T, 0, none⟩)), Is (ndv x), Is (iv I), Is (.bool bt), Is (iv S), Is (.pointer (some ⟨T, 0, none⟩)), Is (ndv x), Is (iv I), Is (.bool bt), Is (.bool true), Is (.bool true), Is (.bool true)] [[], [(0, some 70)], [], [(1, some 71), (2, some 72)], [(3, some 73)], [(4, some 74)], [(4, some 74), (5, some 75)], [(4, some 74)], [(4, some 74), (6, some 76), (7, some 77)], [(4, some 74), (8, some 78)], [(9, some 79)], [(10, some 80)], [(10, some 80), (11, some 81)], [(10, some 80)], [(10, some 80), (13, some 83)], [(10, some 80), (12, some 82), (14, some 84)], [(10, some 80), (15, some 85)], [(16, some 86)], [(17, some 87)], [(17, some 87), (18, some 88)], [(17, some 87), (19, some 89)], [(17, some 87), (20, some 90)], [(21, some 91)], [(22, some 92)], [(22, some 92)], [(22, some 92), (24, some 94)], [(22, some 92), (25, some 95)], [(22, some 92), (23, some 93), (26, some 96)], [(22, some 92)], [(22, some 92)], [(22, some 92), (29, some 99)], [(22, some 92), (30, some 100)], [(22, some 92), (28, some 98), (31, some 101)], [(22, some 92), (27, some 97), (32, some 102)], [(22, some 92), (33, some 103)], [(34, some 104)]] [(0, some 70), (1, some 71), (2, some 72), (3, some 73), (4, some 74), (5, some 75), (6, some 76), (7, some 77), (8, some 78), (9, some 79), (10, some 80), (11, some 81), (12, some 82), (13, some 83), (14, some 84), (15, some 85), (16, some 86), (17, some 87), (18, some 88), (19, some 89), (20, some 90), (21, some 91), (22, some 92), (23, some 93), (24, some 94), (25, some 95), (26, some 96), (27, some 97), (28, some 98), (29, some 99), (30, some 100), (31, some 101), (32, some 102), (33, some 103), (34, some 104), (35, some 4)] [0, 1, 0, 7, 15, 31, 63, 31, 255, 511, 1023, 2047, 4095, 2047, 16383, 32767, 65535, 131071, 262143, 524287, 1048575, 2097151, 4194303, 8388607, 8388607, 25165823, 58720255, 134217727, 8388607, 8388607, 805306367, 1879048191, 4294967295, 8589934591, 17179869183, 34359738367]
              (by kernel_rfl) (by kernel_rfl) (by kernel_rfl) (by kernel_rfl) ⟨Is.kept _, Is.kept _, Is.kept _, Is.kept _, Is.kept _, Is.kept _, Is.kept _, Is.kept _, Is.kept _, Is.kept _, Is.kept _, Is.kept _, Is.kept _, Is.kept _, Is.kept _, Is.kept _, Is.kept _, Is.kept _, Is.kept _, Is.kept _, Is.kept _, Is.kept _, Is.kept _, Is.kept _, Is.kept _, Is.kept _, Is.kept _, Is.kept _, Is.kept _, Is.kept _, Is.kept _, Is.kept _, Is.kept _, Is.kept _, Is.kept _, Is.kept _, trivial⟩ ⟨?_, ?_, ?_, ?_, ?_, ?_, ?_, ?_, ?_, ?_, ?_, ?_, ?_, ?_, ?_, ?_, ?_, ?_, ?_, ?_, ?_, ?_, ?_, ?_, ?_, ?_, ?_, ?_, ?_, ?_, ?_, ?_, ?_, ?_, ?_, ?_, trivial⟩ ?_
            · as_aux_lemma =>
              refine fun w' hB => ?_
              show wpList _ _ _ _ _ _
              go_wp2_with fail
              exact ⟨.pointer (some ⟨g2, 0, none⟩), by first | rfl | (go_simp; done), rfl, Below.refl _ _⟩
            · as_aux_lemma =>
              refine fun w' hB v0 h0 => ?_
              obtain rfl := h0
              show wpList _ _ _ _ _ _
              go_wp2_with fail
              refine (sa.out _ (KA.out.keep hB)).mono ?_
              rintro e w2 ⟨rfl, hb2⟩
              go_wp2_with fail
              exact ⟨_, rfl, rfl, hb2⟩
            · as_aux_lemma =>
              refine fun w' hB => ?_
              show wpList _ _ _ _ _ _
              go_wp2_with fail
              exact ⟨.int .i64 C, by first | rfl | (go_simp; done), rfl, Below.refl _ _⟩
            · as_aux_lemma =>
              refine fun w' hB v1 h1 v2 h2 => ?_
              obtain rfl := h1
              obtain rfl := h2
              show wpList _ _ _ _ _ _
              go_wp2_with fail
              exact ⟨.bool true, by first | rfl | (go_simp; done), rfl, Below.refl _ _⟩
            · as_aux_lemma =>
              refine fun w' hB v3 h3 => ?_
              obtain rfl := h3
              show wpList _ _ _ _ _ _
              go_wp2_with fail
              exact ⟨.bool true, by first | rfl | (go_simp; done), rfl, Below.refl _ _⟩
            · as_aux_lemma =>
              refine fun w' hB v4 h4 => ?_
              obtain rfl := h4
              show wpList _ _ _ _ _ _
              go_wp2_with fail
              exact ⟨.pointer (some ⟨g5, 0, none⟩), by first | rfl | (go_simp; done), rfl, Below.refl _ _⟩
            · as_aux_lemma =>
              refine fun w' hB v4 h4 v5 h5 => ?_
              obtain rfl := h4
              obtain rfl := h5
              show wpList _ _ _ _ _ _
              go_wp2_with fail
              refine (sb.out _ (KB.out.keep hB)).mono ?_
              rintro e w2 ⟨rfl, hb2⟩
              go_wp2_with fail
              exact ⟨_, rfl, rfl, hb2⟩
            · as_aux_lemma =>
              refine fun w' hB v4 h4 => ?_
              obtain rfl := h4
              show wpList _ _ _ _ _ _
              go_wp2_with fail
              exact ⟨.int .i64 C, by first | rfl | (go_simp; done), rfl, Below.refl _ _⟩
            · as_aux_lemma =>
              refine fun w' hB v4 h4 v6 h6 v7 h7 => ?_
              obtain rfl := h4
              obtain rfl := h6
              obtain rfl := h7
              show wpList _ _ _ _ _ _
              go_wp2_with fail
              exact ⟨.bool true, by first | rfl | (go_simp; done), rfl, Below.refl _ _⟩
            · as_aux_lemma =>
              refine fun w' hB v4 h4 v8 h8 => ?_
              obtain rfl := h4
              obtain rfl := h8
              show wpList _ _ _ _ _ _
              go_wp2_with fail
              exact ⟨.bool true, by first | rfl | (go_simp; done), rfl, Below.refl _ _⟩
            · as_aux_lemma =>
              refine fun w' hB v9 h9 => ?_
              obtain rfl := h9
              show wpList _ _ _ _ _ _
              go_wp2_with fail
              exact ⟨.bool true, by first | rfl | (go_simp; done), rfl, Below.refl _ _⟩
            · as_aux_lemma =>
              refine fun w' hB v10 h10 => ?_
              obtain rfl := h10
              show wpList _ _ _ _ _ _
              go_wp2_with fail
              exact ⟨.pointer (some ⟨g2, 0, none⟩), by first | rfl | (go_simp; done), rfl, Below.refl _ _⟩
            · as_aux_lemma =>
              refine fun w' hB v10 h10 v11 h11 => ?_
              obtain rfl := h10
              obtain rfl := h11
              show wpList _ _ _ _ _ _
              go_wp2_with fail
              refine (la.out _ (KA.out.keep hB)).mono ?_
              rintro e w2 ⟨rfl, hb2⟩
              go_wp2_with fail
              exact ⟨_, rfl, rfl, hb2⟩
            · as_aux_lemma =>
              refine fun w' hB v10 h10 => ?_
              obtain rfl := h10
              show wpList _ _ _ _ _ _
              go_wp2_with fail
              exact ⟨.pointer (some ⟨g5, 0, none⟩), by first | rfl | (go_simp; done), rfl, Below.refl _ _⟩
            · as_aux_lemma =>
              refine fun w' hB v10 h10 v13 h13 => ?_
              obtain rfl := h10
              obtain rfl := h13
              show wpList _ _ _ _ _ _
              go_wp2_with fail
              refine (lb'.out _ (KB.out.keep hB)).mono ?_
              rintro e w2 ⟨rfl, hb2⟩
              go_wp2_with fail
              exact ⟨_, rfl, rfl, hb2⟩
            · as_aux_lemma =>
              refine fun w' hB v10 h10 v12 h12 v14 h14 => ?_
              obtain rfl := h10
              obtain rfl := h12
              obtain rfl := h14
              show wpList _ _ _ _ _ _
              have eq := eq_self J HJ.out w'
              go_wp2_with fail
              exact ⟨_, rfl, rfl, Below.refl _ _⟩
            · as_aux_lemma =>
              refine fun w' hB v10 h10 v15 h15 => ?_
              obtain rfl := h10
              obtain rfl := h15
              show wpList _ _ _ _ _ _
              go_wp2_with fail
              exact ⟨.bool true, by first | rfl | (go_simp; done), rfl, Below.refl _ _⟩
            · as_aux_lemma =>
              refine fun w' hB v16 h16 => ?_
              obtain rfl := h16
              show wpList _ _ _ _ _ _
              go_wp2_with fail
              exact ⟨.bool true, by first | rfl | (go_simp; done), rfl, Below.refl _ _⟩
            · as_aux_lemma =>
              refine fun w' hB v17 h17 => ?_
              obtain rfl := h17
              show wpList _ _ _ _ _ _
              go_wp2_with fail
              exact ⟨.pointer (some ⟨g2, 0, none⟩), by first | rfl | (go_simp; done), rfl, Below.refl _ _⟩
            · as_aux_lemma =>
              refine fun w' hB v17 h17 v18 h18 => ?_
              obtain rfl := h17
              obtain rfl := h18
              show wpList _ _ _ _ _ _
              go_wp2_with fail
              refine (pa.out _ (KA.out.keep hB)).mono ?_
              rintro e w2 ⟨rfl, hb2⟩
              go_wp2_with fail
              exact ⟨_, rfl, rfl, hb2⟩
            · as_aux_lemma =>
              refine fun w' hB v17 h17 v19 h19 => ?_
              obtain rfl := h17
              obtain rfl := h19
              show wpList _ _ _ _ _ _
              go_wp2_with fail
              exact ⟨.bool true, by first | rfl | (go_simp; done), rfl, Below.refl _ _⟩
            · as_aux_lemma =>
              refine fun w' hB v17 h17 v20 h20 => ?_
              obtain rfl := h17
              obtain rfl := h20
              show wpList _ _ _ _ _ _
              go_wp2_with fail
              exact ⟨.bool true, by first | rfl | (go_simp; done), rfl, Below.refl _ _⟩
            · as_aux_lemma =>
              refine fun w' hB v21 h21 => ?_
              obtain rfl := h21
              show wpList _ _ _ _ _ _
              go_wp2_with fail
              exact ⟨.bool true, by first | rfl | (go_simp; done), rfl, Below.refl _ _⟩
            · as_aux_lemma =>
              refine fun w' hB v22 h22 => ?_
              obtain rfl := h22
              show wpList _ _ _ _ _ _
              go_wp2_with ((with_reducible show wpList _ _ _ _ _ _); first | refine wpList_load_id rfl (.tmp 2) rfl gs S rfl (block_keep hB KS.out) ?_ | (refine wpList_unguard rfl ?_; refine wpList_load_id rfl (.tmp 2) rfl gs S rfl (block_keep hB KS.out) ?_))
              exact ⟨_, rfl, rfl, Below.refl _ _⟩
            · as_aux_lemma =>
              refine fun w' hB v22 h22 => ?_
              obtain rfl := h22
              show wpList _ _ _ _ _ _
              go_wp2_with fail
              exact ⟨.pointer (some ⟨T, 0, none⟩), by first | rfl | (go_simp; done), rfl, Below.refl _ _⟩
            · as_aux_lemma =>
              refine fun w' hB v22 h22 v24 h24 => ?_
              obtain rfl := h22
              obtain rfl := h24
              show wpList _ _ _ _ _ _
              go_wp2_with fail
              refine (cg.out _ (K.out.keep hB)).mono ?_
              rintro e w2 ⟨rfl, hb2⟩
              go_wp2_with fail
              exact ⟨_, rfl, rfl, hb2⟩
            · as_aux_lemma =>
              refine fun w' hB v22 h22 v25 h25 => ?_
              obtain rfl := h22
              obtain rfl := h25
              show wpList _ _ _ _ _ _
              have ep := field_gen HXX.out w'
              go_wp2_with fail
              exact ⟨_, rfl, rfl, Below.refl _ _⟩
            · as_aux_lemma =>
              refine fun w' hB v22 h22 v23 h23 v26 h26 => ?_
              obtain rfl := h22
              obtain rfl := h23
              obtain rfl := h26
              show wpList _ _ _ _ _ _
              go_wp2_with fail
              refine (cb.out w').mono ?_
              rintro e w2 ⟨rfl, hb2⟩
              go_wp2_with fail
              exact ⟨.bool bt, by first | rfl | (go_simp; done), rfl, hb2⟩
            · as_aux_lemma =>
              refine fun w' hB v22 h22 => ?_
              obtain rfl := h22
              show wpList _ _ _ _ _ _
              go_wp2_with ((with_reducible show wpList _ _ _ _ _ _); first | refine wpList_load_id rfl (.tmp 2) rfl gs S rfl (block_keep hB KS.out) ?_ | (refine wpList_unguard rfl ?_; refine wpList_load_id rfl (.tmp 2) rfl gs S rfl (block_keep hB KS.out) ?_))
              exact ⟨_, rfl, rfl, Below.refl _ _⟩
            · as_aux_lemma =>
              refine fun w' hB v22 h22 => ?_
              obtain rfl := h22
              show wpList _ _ _ _ _ _
              go_wp2_with fail
              exact ⟨.pointer (some ⟨T, 0, none⟩), by first | rfl | (go_simp; done), rfl, Below.refl _ _⟩
            · as_aux_lemma =>
              refine fun w' hB v22 h22 v29 h29 => ?_
              obtain rfl := h22
              obtain rfl := h29
              show wpList _ _ _ _ _ _
              go_wp2_with fail
              refine (cg.out _ (K.out.keep hB)).mono ?_
              rintro e w2 ⟨rfl, hb2⟩
              go_wp2_with fail
              exact ⟨_, rfl, rfl, hb2⟩
            · as_aux_lemma =>
              refine fun w' hB v22 h22 v30 h30 => ?_
              obtain rfl := h22
              obtain rfl := h30
              show wpList _ _ _ _ _ _
              have ep := field_gen HXX.out w'
              go_wp2_with fail
              exact ⟨_, rfl, rfl, Below.refl _ _⟩
            · as_aux_lemma =>
              refine fun w' hB v22 h22 v28 h28 v31 h31 => ?_
              obtain rfl := h22
              obtain rfl := h28
              obtain rfl := h31
              show wpList _ _ _ _ _ _
              go_wp2_with fail
              refine (cb.out w').mono ?_
              rintro e w2 ⟨rfl, hb2⟩
              go_wp2_with fail
              exact ⟨.bool bt, by first | rfl | (go_simp; done), rfl, hb2⟩
            · as_aux_lemma =>
              refine fun w' hB v22 h22 v27 h27 v32 h32 => ?_
              obtain rfl := h22
              obtain rfl := h27
              obtain rfl := h32
              show wpList _ _ _ _ _ _
              go_wp2_with fail
              exact ⟨.bool true, by first | rfl | (go_simp; done), rfl, Below.refl _ _⟩
            · as_aux_lemma =>
              refine fun w' hB v22 h22 v33 h33 => ?_
              obtain rfl := h22
              obtain rfl := h33
              show wpList _ _ _ _ _ _
              go_wp2_with fail
              exact ⟨.bool true, by first | rfl | (go_simp; done), rfl, Below.refl _ _⟩
            · as_aux_lemma =>
              refine fun w' hB v34 h34 => ?_
              obtain rfl := h34
              show wpList _ _ _ _ _ _
              go_wp2_with fail
              exact ⟨.bool true, by first | rfl | (go_simp; done), rfl, Below.refl _ _⟩
            · refine fun w' hB v0 h0 v1 h1 v2 h2 v3 h3 v4 h4 v5 h5 v6 h6 v7 h7 v8 h8 v9 h9 v10 h10 v11 h11 v12 h12 v13 h13 v14 h14 v15 h15 v16 h16 v17 h17 v18 h18 v19 h19 v20 h20 v21 h21 v22 h22 v23 h23 v24 h24 v25 h25 v26 h26 v27 h27 v28 h28 v29 h29 v30 h30 v31 h31 v32 h32 v33 h33 v34 h34 v35 h35 => ?_
              obtain rfl := h35
              simp only [onP]
              go_simp
              clear h0 h1 h2 h3 h4 h5 h6 h7 h8 h9 h10 h11 h12 h13 h14 h15 h16 h17 h18 h19 h20 h21 h22 h23 h24 h25 h26 h27 h28 h29 h30 h31 h32 h33 h34
              have BF := Lib.hid (below_next B.out hB)
              clear hB
              go_wp2_with fail
              go_ret
              exact ⟨rfl, BF.out⟩

set_option maxRecDepth 100000 in
theorem PresyncBits_lifted (os : Os) (started : os.Started) (H : Type) (enc : TypeId × Value → H) :
    ReturnsInHanded {} Try.checked os 14 .any (Rows.presyncBitsSpec.pre6 enc Try.prog Try.f14 Rows.presyncBitsRow.domain false) (Rows.presyncBitsSpec.post enc Try.prog Try.f14 false true false false) := by
  refine returnsInHanded_of_change (C := Try.checked) own started (by kernel_rfl) Try.func14
    (ChangeSpec.witness6 (enc := enc) (C := Try.checked) false ⟨#[], #[.agg #[.int .u8 0, .int .u8 0, .int .u8 0, .int .u8 0, .int .u8 0, .int .u8 0, .int .u8 0, .int .u8 0, .int .u8 0, .int .u8 0, .int .u8 0, .int .u8 0, .int .u8 0, .int .u8 0, .int .u8 0, .int .u8 0, .int .u8 0, .int .u8 0, .int .u8 0, .int .u8 0, .int .u8 0, .int .u8 0, .int .u8 0, .int .u8 0, .int .u8 0, .int .u8 0, .int .u8 0, .int .u8 0, .int .u8 0, .int .u8 0, .int .u8 0, .int .u8 0], .int .i64 0], []⟩ 8 (by kernel_rfl) (by kernel_rfl) (by kernel_rfl) (by kernel_rfl)) ?_
  intro W base args ds gs before hval0 hW hcnd _
  have hval : ∀ (j : Nat) t v, Try.f14.params[j]? = some t → args[j]? = some v → Value.okWide Try.prog W .any base t v := hval0
  have hW' := hW
  obtain ⟨p, q, hA0, hV, rfl, hfz, hnd⟩ := hW
  have hA : DataW.TrodAll enc Try.prog W 0 (fun _ => true) true Try.f14.params.toList args.toList ds p := hA0
  rw [Try.params14] at hA hval
  obtain ⟨v0, vs0, d0, ds0, p0, q0, hargs, rfl, rfl, h0, r0⟩ := trodAll_cons hA
  obtain ⟨v1, vs1, d1, ds1, p1, q1, rfl, rfl, rfl, h1, r1⟩ := trodAll_cons r0
  obtain ⟨rfl, rfl, rfl⟩ := trodAll_nil r1
  obtain rfl : args = #[v0, v1] := by cases args; simp_all
  obtain ⟨rfl, rfl⟩ := trodVars_none hV
  have k0 := h0
  have lt0 := trod_lt_of h0
  obtain ⟨a0, b0, rfl⟩ := open_id (hval 0 24 v0 rfl rfl) h0
  have k1 := h1
  have lt1 := trod_lt_of h1
  obtain ⟨a1, rfl, rfl, rfl, b1⟩ := open_int Try.underlying3 (hval 1 3 v1 rfl rfl) h1
  clear hA0 hval0
  refine (PresyncBits_walk a0 b0 a1 b1 W).mono fun e W' ⟨he, bel⟩ => ?_
  subst he
  exact ⟨_, rfl, _, _, _, [], _, [], hW', trodAll_mk1 (shut_bool (by kernel_rfl) _), (trodAll_cons_mk (Below.trod laidOut (by kernel_rfl) (of_decide_eq_true (by kernel_rfl)) k0 bel lt0) (trodAll_cons_mk (Below.trod laidOut (by kernel_rfl) (of_decide_eq_true (by kernel_rfl)) k1 bel lt1) trodAll_mk0)), rfl, bel.frame _, fun h => by cases h⟩

theorem PresyncBits_closed : joinedFacts Try.prog 14 Try.f14 Rows.presyncBitsSpec Rows.presyncBitsRow = true := by
  simp only [joinedFacts, Bool.and_eq_true]
  repeat' apply And.intro
  all_goals first
    | (with_reducible exact head_enter)
    | (rw [head_make]; kernel_rfl)
    | (rw [head_lift]; kernel_rfl)
    | kernel_rfl

theorem PresyncBits_holds : Rows.PresyncBitsSaid :=
  OpenClaim.holds_of_wide 14 Try.f14 rfl rfl rfl rfl rfl rfl rfl ⟨rfl, rfl, rfl, rfl, rfl⟩ rfl rfl rfl rfl rfl (by kernel_rfl) Try.func14 PresyncBits_closed
    (of_decide_eq_true (by kernel_rfl)) (by unfold Func.isWrapper; rw [if_neg (of_decide_eq_false (by kernel_rfl))]; exact ⟨rfl, rfl⟩)
    (fun os started H enc _ => PresyncBits_lifted os started H enc)
end Go.Proofs.Ytnbppbnjkmopeaa
