/- The law MerkleRoots: the root of any sums, and whether two that are a pair are the same, is the document's; the sums stay as they are. No condition. -/
import Derived.Test.YtfopockjakeplaaMkJ
import Derived.Test.YtfopockjakeplaaMkT
import Derived.Test.YtfopockjakeplaaTwPlain
import Derived.Test.YtfopockjakeplaaHead
namespace Go.Proofs.Ytfopockjakeplaa
open Go.ChangeShapes Go.WideShapes Go.ChangeAt Go.RowKit

theorem OwnsI.parts {w : World} {base n c : Nat} {x : Option Addr} {l : List Nat} (h : OwnsI w base (.slice x n c) l) : (x = none → l = [] ∧ c = 0) ∧ (l ≠ [] → ∃ b o, x = some ⟨b, o, none⟩ ∧ IdsAt w b o l) := by
  constructor
  · rintro rfl
    rcases h.2 with ⟨e, hq⟩ | ⟨g, cap, cur, e, _⟩
    · injection e with e1 e2 e3
      exact ⟨List.length_eq_zero_iff.1 hq, e3⟩
    · injection e with e1
      cases e1
  · intro hne
    obtain ⟨g, c3, e, _, _, hI⟩ := h.at rfl (List.length_pos_iff.2 hne)
    injection e with e1
    exact ⟨g, 0, e1, hI⟩
theorem OwnsR.parts {w : World} {base n c : Nat} {x : Option Addr} {l : List Nat} (h : OwnsR w base (.slice x n c) l) : l ≠ [] → ∃ b o, x = some ⟨b, o, none⟩ ∧ IdsAt w b o l := by
  intro hne
  obtain ⟨g, c3, e, _, _, hI⟩ := h.at rfl (List.length_pos_iff.2 hne)
  injection e with e1
  exact ⟨g, 0, e1, hI⟩

set_option maxRecDepth 100000 in
set_option maxHeartbeats 4000000 in
theorem MerkleRoots_walk (x : Option Addr) (cap : Nat) (l : List Nat) (hl : ∀ y ∈ l, y < 2 ^ 256) (w : World) (hc : l.length ≤ cap) (hm : cap ≤ maxLen) (hz : x = none → l = [] ∧ cap = 0) (hx : l ≠ [] → ∃ b o, x = some ⟨b, o, none⟩ ∧ b < w.heap.size ∧ IdsAt w b o l) :
    Calls Try.prog 10 #[.slice x l.length cap] w fun e w' => e = .returned (.bool true) ∧ Below w.heap.size w w' := by
  have HX := Lib.hid hx; have HL := Lib.hid hl; have HZ := Lib.hid hz
  unfold maxLen at hm
  obtain ⟨n, hnn⟩ : ∃ n, n = l.length := ⟨_, rfl⟩
  rw [← hnn] at hc
  rw [← hnn]
  have HN := Lib.hid hnn
  clear hnn hx hl hz
  have B : Below w.heap.size w w := Below.refl _ _
  go_enter Try.func10, Try.ntmps10
  go_wp2_with fail
  refine (joins_any _).mono ?_
  rintro e w1 ⟨rfl, hb1⟩
  have B1 : Below w.heap.size w w1 := below_next B hb1
  clear hb1 B
  by_cases h14 : 14 < n
  · have h14' : (14 : Int) < (n : Int) := by omega
    go_wp2_with fail
    go_ret
    exact ⟨rfl, B1⟩
  have h14' : ¬ (14 : Int) < (n : Int) := by omega
  have BW := Lib.hid B1
  have HSL : Hid (Value.slice x n cap = .slice x l.length cap) := Lib.hid (by rw [HN.out])
  have HXI : Hid (l ≠ [] → ∃ b o, x = some ⟨b, o, none⟩ ∧ IdsAt w1 b o l) := Lib.hid fun h => (HX.out h).elim fun b h => h.elim fun o h => ⟨b, o, h.1, h.2.2.keep B1⟩
  have HN14 := Lib.hid (show n ≤ 14 by omega)
  clear HX B1 h14
  have HZ1 : Hid (x = none → l = [] ∧ cap = 0) := HZ
  have HOW : Hid (OwnsI (w1.alloc (.cells #[] 25 (0, 0))) w1.heap.size (.slice (some ⟨w1.heap.size, 0, none⟩) 0 0) []) := Lib.hid (OwnsI.new w1 w1.heap.size (Nat.le_refl _))
  have HXA : Hid (l ≠ [] → ∃ b o, x = some ⟨b, o, none⟩ ∧ IdsAt (w1.alloc (.cells #[] 25 (0, 0))) b o l) := Lib.hid fun h => (HXI.out h).elim fun b h => h.elim fun o h => ⟨b, o, h.1, h.2.keep (below_alloc (Below.refl _ _) _)⟩
  go_wp2_with (at_builtin; refine wpList_append_ids rfl (.tmp 14) (.tmp 15) rfl w1.heap.size _ [] rfl HOW.out l x cap HSL.out HZ1.out HXA.out (by have := HN14.out; have := HN.out; simp; omega) (by simp) (fun v' w2 hown' hbel => ?_); (rw [List.nil_append] at hown'); have HO := Lib.hid hown'; have B2 := Lib.hid (hbel w1.heap.size w1 (Nat.le_refl _) (below_alloc (Below.refl _ _) _)); (obtain ⟨x2, c2, rfl⟩ : ∃ x2 c2, v' = .slice x2 n c2 := by rw [HN.out]; exact hown'.shape); clear hown' hbel)
  have HP := Lib.hid HO.out.parts
  have c0 := root_any x2 c2 l HL.out (by have := HN14.out; have := HN.out; omega) w2 HP.out.1 HP.out.2
  rw [← HN.out] at c0
  obtain ⟨R, hR⟩ : ∃ R, R = (Mroot l).1 := ⟨_, rfl⟩
  obtain ⟨F, hF⟩ : ∃ F, F = (Mroot l).2 := ⟨_, rfl⟩
  have HRL : Hid (R < 2 ^ 256) := Lib.hid (by rw [hR]; exact mroot_lt _ l _ HL.out)
  have HRF := Lib.hid (show (Mroot l).1 = R ∧ (Mroot l).2 = F from ⟨hR.symm, hF.symm⟩)
  rw [← hR, ← hF] at c0
  clear hR hF
  have ez := iblk_lit
  refine c0.mono ?_
  rintro e w3 ⟨rfl, hb⟩
  have B3 := Lib.hid (below_alloc hb (iblk 0))
  have h23 : w2.heap.size ≤ w3.heap.size := hb.size
  clear c0 hb HOW HXA
  have c1 := Lib.hid fun W (hb : Below w2.heap.size w2 W) => plain_any x cap l (by have := HN14.out; have := HN.out; omega) W (fun h => (HXI.out h).elim fun b h => h.elim fun o h => ⟨b, o, h.1, (h.2.keep B2.out).keep hb⟩)
  rw [← HN.out] at c1
  go_wp2_with (first | (refine wpList_store_id rfl (.tmp 4) (.tmp 20) rfl w3.heap.size 0 R rfl rfl (heap_new _ _) (fun w4 h1 h2 h3 h4 => ?_); have K4 := Lib.hid h1; have B4 := Lib.hid (h4 w2.heap.size w2 h23 B3.out); clear h1 h2 h3 h4))
  refine (c1.out _ B4.out).mono ?_
  rintro e w5 ⟨v, rfl, hO5, hb⟩
  obtain ⟨x3, c3, rfl⟩ : ∃ x3 c3, v = .slice x3 n c3 := by rw [HN.out]; exact hO5.shape
  have K5 := Lib.hid (below_keep hb K4.out)
  have B5 := Lib.hid (below_next B4.out hb)
  have h35 : w3.heap.size < w5.heap.size := block_lt K5.out
  have c2 := rroot_any x3 c3 l HL.out (by have := HN14.out; have := HN.out; omega) w5 hO5.parts
  rw [← HN.out, HRF.out.1, HRF.out.2] at c2
  have C2 := Lib.hid c2
  clear hO5 hb c1 B3 B4 K4 h23 c2
  go_wp2_with fail
  refine C2.out.mono ?_
  rintro e w6 ⟨rfl, hb⟩
  have K6 := Lib.hid (keep_alloc (rblk 0) (below_keep hb K5.out))
  have B6 := Lib.hid (below_alloc (below_next B5.out hb) (rblk 0))
  have h56 : w5.heap.size ≤ w6.heap.size := hb.size
  have h25 : w2.heap.size ≤ w5.heap.size := B5.out.size
  have ez2 := rblk_lit
  clear hb C2 K5 B5
  go_wp2_with (first | (refine wpList_store_rid rfl (.tmp 6) (.tmp 26) rfl w6.heap.size 0 R rfl rfl (heap_new _ _) (fun w7 h1 h2 h3 h4 => ?_); have K7 := Lib.hid h1; have K4 := Lib.hid ((h2 w3.heap.size (by omega)).trans K6.out); have B7 := Lib.hid (h4 w2.heap.size w2 (by omega) B6.out); clear h1 h2 h3 h4))
  have BE := Lib.hid (below_next BW.out (below_next B2.out B7.out))
  clear h25 h35 h56 ez ez2 K6 B6
  have BR : Hid (Below w7.heap.size w7 w7) := Lib.hid (Below.refl _ _)
  go_loopg [30] n (fun g ix wr => ∃ k : Nat, g = n - k ∧ k ≤ n ∧ ix = .int .i64 k ∧ Below w7.heap.size w7 wr)
  case atStart => exact ⟨0, rfl, by omega, rfl, BR.out⟩
  case round =>
    clear BR
    obtain ⟨k, hg, hk, rfl, hB⟩ := hrel
    have HG := Lib.hid hg; have HB := Lib.hid hB
    clear hg hB
    by_cases hlt : k < n
    · have hkl : k < l.length := by rw [← HN.out]; exact hlt
      have hne : l ≠ [] := by intro e; rw [e] at hkl; simp at hkl
      obtain ⟨ga, oa, rfl, hIa⟩ := HXI.out hne
      obtain ⟨gb, ob, rfl, hIb⟩ := HP.out.2 hne
      obtain ⟨y, hy⟩ : ∃ y, y = l.getD k 0 := ⟨_, rfl⟩
      have RA := Lib.hid fun V (hb : Below wr.heap.size wr V) => (show V.rangeAt ga (oa + k * 32) (ids y) by rw [hy]; exact ((((hIa.keep B2.out).keep B7.out).keep HB.out).keep hb).range hkl)
      have RB := Lib.hid fun V (hb : Below wr.heap.size wr V) => (show V.rangeAt gb (ob + k * 32) (ids y) by rw [hy]; exact (((hIb.keep B7.out).keep HB.out).keep hb).range hkl)
      have qe := eq_self y (by rw [hy]; exact gd_lt HL.out k)
      clear hy hkl hne hIa hIb
      go_wp2_with fail
      refine wp_region_by [Is (.slice (some ⟨gb, ob, none⟩) n c2), Is (.int .i64 k), Is (.pointer (some ⟨gb, ob + k * 32, none⟩)), Is (iv y), Is (.slice (some ⟨ga, oa, none⟩) n cap), Is (.int .i64 k), Is (.pointer (some ⟨ga, oa + k * 32, none⟩)), Is (iv y), Is (.bool false)] [[], [], [(0, some 33), (1, some 34)], [(2, some 35)], [], [], [(4, some 37), (5, some 38)], [(6, some 39)], [(3, some 36), (7, some 40)]] [(0, some 33), (1, some 34), (2, some 35), (3, some 36), (4, some 37), (5, some 38), (6, some 39), (7, some 40), (8, some 41)] [0, 0, 3, 7, 0, 0, 48, 112, 255]
        (by kernel_rfl) (by kernel_rfl) (by kernel_rfl) (by kernel_rfl) ⟨Is.kept _, Is.kept _, Is.kept _, Is.kept _, Is.kept _, Is.kept _, Is.kept _, Is.kept _, Is.kept _, trivial⟩ ⟨?_, ?_, ?_, ?_, ?_, ?_, ?_, ?_, ?_, trivial⟩ ?_
      · as_aux_lemma =>
        refine fun w' hB => ?_
        show wpList _ _ _ _ _ _
        go_wp2_with fail
        exact ⟨.slice (some ⟨gb, ob, none⟩) n c2, by first | rfl | (go_simp; done), rfl, Below.refl _ _⟩
      · as_aux_lemma =>
        refine fun w' hB => ?_
        show wpList _ _ _ _ _ _
        go_wp2_with fail
        exact ⟨.int .i64 k, by first | rfl | (go_simp; done), rfl, Below.refl _ _⟩
      · as_aux_lemma =>
        refine fun w' hB v0 h0 v1 h1 => ?_
        obtain rfl := h0
        obtain rfl := h1
        show wpList _ _ _ _ _ _
        go_wp2_with fail
        exact ⟨.pointer (some ⟨gb, ob + k * 32, none⟩), by first | rfl | (go_simp; done), rfl, Below.refl _ _⟩
      · as_aux_lemma =>
        refine fun w' hB v2 h2 => ?_
        obtain rfl := h2
        show wpList _ _ _ _ _ _
        go_wp2_with (first | refine wpList_load_at rfl (.tmp 35) rfl gb (ob + k * 32) y rfl (RB.out w' hB) ?_)
        exact ⟨iv y, rfl, rfl, Below.refl _ _⟩
      · as_aux_lemma =>
        refine fun w' hB => ?_
        show wpList _ _ _ _ _ _
        go_wp2_with fail
        exact ⟨.slice (some ⟨ga, oa, none⟩) n cap, by first | rfl | (go_simp; done), rfl, Below.refl _ _⟩
      · as_aux_lemma =>
        refine fun w' hB => ?_
        show wpList _ _ _ _ _ _
        go_wp2_with fail
        exact ⟨.int .i64 k, by first | rfl | (go_simp; done), rfl, Below.refl _ _⟩
      · as_aux_lemma =>
        refine fun w' hB v4 h4 v5 h5 => ?_
        obtain rfl := h4
        obtain rfl := h5
        show wpList _ _ _ _ _ _
        go_wp2_with fail
        exact ⟨.pointer (some ⟨ga, oa + k * 32, none⟩), by first | rfl | (go_simp; done), rfl, Below.refl _ _⟩
      · as_aux_lemma =>
        refine fun w' hB v6 h6 => ?_
        obtain rfl := h6
        show wpList _ _ _ _ _ _
        go_wp2_with (first | refine wpList_load_at rfl (.tmp 39) rfl ga (oa + k * 32) y rfl (RA.out w' hB) ?_)
        exact ⟨iv y, rfl, rfl, Below.refl _ _⟩
      · as_aux_lemma =>
        refine fun w' hB v3 h3 v7 h7 => ?_
        obtain rfl := h3
        obtain rfl := h7
        show wpList _ _ _ _ _ _
        go_wp2_with fail
        exact ⟨.bool false, by first | rfl | (go_simp; done), rfl, Below.refl _ _⟩
      · refine fun w' hB v0 h0 v1 h1 v2 h2 v3 h3 v4 h4 v5 h5 v6 h6 v7 h7 v8 h8 => ?_
        obtain rfl := h8
        simp only [onP]
        go_simp
        clear h0 h1 h2 h3 h4 h5 h6 h7
        have B8 := Lib.hid (HB.out.trans (hB.mono HB.out.size))
        clear hB
        go_wp2_with fail
        go_roundg (n - (k + 1))
        case measure => have := HG.out; omega
        case rel => exact ⟨k + 1, rfl, by omega, by go_num, B8.out⟩
    · obtain rfl : k = n := by omega
      have K7b := Lib.hid (below_keep HB.out K7.out)
      have K4b := Lib.hid (below_keep HB.out K4.out)
      have q1 : ∀ W, (Op.equalIn 10000 25 (iv R) (iv R)).run Try.prog W = .ok true W := eq_self R HRL.out
      have BZ := Lib.hid (below_next BE.out HB.out)
      clear hlt HG HB K7 K4 B7
      cases F
      · go_wp2_with (first | refine wpList_load_id rfl (.tmp 4) rfl w3.heap.size R rfl K4b.out ?_ | refine wpList_load_rid rfl (.tmp 6) rfl w6.heap.size R rfl K7b.out ?_)
        go_ret
        exact ⟨rfl, BZ.out⟩
      · go_wp2_with (first | refine wpList_load_id rfl (.tmp 4) rfl w3.heap.size R rfl K4b.out ?_ | refine wpList_load_rid rfl (.tmp 6) rfl w6.heap.size R rfl K7b.out ?_)
        go_ret
        exact ⟨rfl, BZ.out⟩

set_option maxRecDepth 100000 in
theorem MerkleRoots_lifted (os : Os) (started : os.Started) (H : Type) (enc : TypeId × Value → H) :
    ReturnsInHanded {} Try.checked os 10 .any (Rows.merkleRootsSpec.pre6 enc Try.prog Try.f10 Rows.merkleRootsRow.domain false) (Rows.merkleRootsSpec.post enc Try.prog Try.f10 false true false false) := by
  refine returnsInHanded_of_change (C := Try.checked) own started (by kernel_rfl) Try.func10
    (ChangeSpec.witness6 (enc := enc) (C := Try.checked) false ⟨#[], #[.slice none 0 0], []⟩ 8 (by kernel_rfl) (by kernel_rfl) (by kernel_rfl) (by kernel_rfl)) ?_
  intro W base args ds gs before hval0 hW hcnd _
  have hval : ∀ (j : Nat) t v, Try.f10.params[j]? = some t → args[j]? = some v → Value.okWide Try.prog W .any base t v := hval0
  have hW' := hW
  obtain ⟨p, q, hA0, hV, rfl, hfz, hnd⟩ := hW
  have hA : DataW.TrodAll enc Try.prog W 0 (fun _ => true) true Try.f10.params.toList args.toList ds p := hA0
  rw [Try.params10] at hA hval
  obtain ⟨v0, vs0, d0, ds0, p0, q0, hargs, rfl, rfl, h0, r0⟩ := trodAll_cons hA
  obtain ⟨rfl, rfl, rfl⟩ := trodAll_nil r0
  obtain rfl : args = #[v0] := by cases args; simp_all
  obtain ⟨rfl, rfl⟩ := trodVars_none hV
  have k0 := h0
  have lt0 := trod_lt_of h0
  obtain ⟨a0, cap0, l0, b0, rfl, e0, f0, g0, c0⟩ := open_ids (hval 0 37 v0 rfl rfl) h0
  clear hA0 hval0
  refine (MerkleRoots_walk a0 cap0 l0 b0 W e0 f0 g0 c0).mono fun e W' ⟨he, bel⟩ => ?_
  subst he
  exact ⟨_, rfl, _, _, _, [], _, [], hW', trodAll_mk1 (shut_bool (by kernel_rfl) _), (trodAll_cons_mk (Below.trod laidOut (by kernel_rfl) (of_decide_eq_true (by kernel_rfl)) k0 bel lt0) trodAll_mk0), rfl, bel.frame _, fun h => by cases h⟩

theorem MerkleRoots_closed : joinedFacts Try.prog 10 Try.f10 Rows.merkleRootsSpec Rows.merkleRootsRow = true := by
  simp only [joinedFacts, Bool.and_eq_true]
  repeat' apply And.intro
  all_goals first
    | (with_reducible exact head_enter)
    | (rw [head_make]; kernel_rfl)
    | (rw [head_lift]; kernel_rfl)
    | kernel_rfl

theorem MerkleRoots_holds : Rows.MerkleRootsSaid :=
  OpenClaim.holds_of_wide 10 Try.f10 rfl rfl rfl rfl rfl rfl rfl ⟨rfl, rfl, rfl, rfl, rfl⟩ rfl rfl rfl rfl rfl (by kernel_rfl) Try.func10 MerkleRoots_closed
    (of_decide_eq_true (by kernel_rfl)) (by unfold Func.isWrapper; rw [if_neg (of_decide_eq_false (by kernel_rfl))]; exact ⟨rfl, rfl⟩)
    (fun os started H enc _ => MerkleRoots_lifted os started H enc)
end Go.Proofs.Ytfopockjakeplaa
