/- The law HashOwn: what was answered stays, whatever is done to the bytes then. No condition. -/
import Derived.Test.YtfopockjakeplaaHashK
import Derived.Test.YtfopockjakeplaaRegInv
import Derived.Test.YtfopockjakeplaaHead
namespace Go.Proofs.Ytfopockjakeplaa
open Go.ChangeShapes Go.WideShapes Go.ChangeAt Go.RowKit

set_option maxRecDepth 100000 in
set_option maxHeartbeats 4000000 in
theorem HashOwn_walk (v : Value) (l : List Nat) (hl : ∀ y ∈ l, y < 256) (w : World) (hv : BytesIn w v l) :
    Calls Try.prog 9 #[v] w fun e w' => e = .returned (.bool true) ∧ Below w.heap.size w w' := by
  have HV := Lib.hid hv.at
  have HLB := Lib.hid hl
  obtain ⟨x, c, rfl⟩ := hv.shape
  clear hv hl
  obtain ⟨n, hn⟩ : ∃ n, n = l.length := ⟨_, rfl⟩
  rw [← hn]
  have HN := Lib.hid hn
  rw [← hn] at HV
  clear hn
  have B : Below w.heap.size w w := Below.refl _ _
  go_enter Try.func9, Try.ntmps9
  go_wp2_with fail
  refine (known_any _).mono ?_
  rintro e w1 ⟨rfl, hb1⟩
  have B1 := below_next (w := w) (by repeat' (first | (with_reducible exact Below.refl _ _) | (with_reducible assumption) | (with_reducible refine below_alloc ?_ _) | (with_reducible refine Below.drew ?_) | (with_reducible refine below_drewN ?_ _) | (with_reducible refine Below.setCell ?_ ?_ _) | go_size)) hb1
  clear hb1 B
  by_cases h3 : 1000 < n
  · have h3' : (1000 : Int) < (n : Int) := by omega
    go_wp2_with fail
    go_ret
    exact ⟨rfl, B1⟩
  · have h3' : ¬ (1000 : Int) < (n : Int) := by omega
    have HLL : Hid (l.length ≤ 1000) := Lib.hid (by have := HN.out; omega)
    have HV1 := Lib.hid (HV.out.keep B1)
    have BZ := Lib.hid B1
    clear HV B1
    go_wp2_with (at_builtin; refine wpList_append_u8 rfl (.tmp 12) (.tmp 13) rfl w1.heap.size _ [] rfl (Owns.new w1 _ (Nat.le_refl _)) _ l rfl (HV1.out.keep (below_alloc (Below.refl _ _) _)) (by have := HLL.out; simp; omega) (by simp) (fun v' w2 hown' hbel => ?_); (rw [List.nil_append] at hown'); have HO := Lib.hid hown'; obtain ⟨x2, c2, rfl⟩ := hown'.shape; (rw [← HN.out] at HO); (rw [← HN.out]); have B2 := hbel w1.heap.size w1 (Nat.le_refl _) (below_alloc (Below.refl _ _) _); clear hown' hbel)
    have HB := Lib.hid HO.out.bytes
    refine (sum_one (.slice x2 n c2) l w2.heap.size _ 1 _ (heap_new_at rfl) (HB.out.keep (below_alloc (Below.refl _ _) _)) HLB.out (by have := HLL.out; omega)).mono ?_
    rintro e w3 ⟨rfl, hb3⟩
    have HO3 := Lib.hid ((HO.out.keep (below_alloc (Below.refl _ _) (.cells #[.slice x2 n c2] 22 (0, 0)))).keep hb3)
    have B3 := below_next (w := w1) (below_alloc B2 _) hb3
    clear hb3 B2 HO HB
    have HB := Lib.hid HO3.out.bytes
    go_wp2_with fail
    refine (twice_one (.slice x2 n c2) l w3.heap.size _ 1 _ (heap_new_at rfl) (HB.out.keep (below_alloc (Below.refl _ _) _)) HLB.out (by have := HLL.out; omega)).mono ?_
    rintro e w4 ⟨rfl, hb4⟩
    have HO4 := Lib.hid ((HO3.out.keep (below_alloc (Below.refl _ _) (.cells #[.slice x2 n c2] 22 (0, 0)))).keep hb4)
    have B4 := below_next (w := w1) (below_alloc B3 _) hb4
    clear hb4 B3 HO3 HB
    obtain ⟨X, hX⟩ : ∃ X, X = sha l := ⟨_, rfl⟩
    obtain ⟨Y, hY⟩ : ∃ Y, Y = tw l := ⟨_, rfl⟩
    have qx : ∀ W, (Op.equalIn 10000 25 (iv X) (iv X)).run Try.prog W = .ok true W := by rw [hX]; exact eq_self _ (sha_lt l)
    have qy : ∀ W, (Op.equalIn 10000 25 (iv Y) (iv Y)).run Try.prog W = .ok true W := by rw [hY]; exact eq_self _ (tw_lt l)
    have QX := Lib.hid qx; have QY := Lib.hid qy; have HX := Lib.hid hX; have HY := Lib.hid hY
    rw [← hX, ← hY]
    clear qx qy hX hY
    have ei := iblk_lit
    have A2 := Lib.hid (alloc2 w4 (iblk 0) (iblk 0))
    have BB : Below w1.heap.size w1 ((w4.alloc (iblk 0)).alloc (iblk 0)) := below_alloc (below_alloc B4 _) _
    go_wp2_with (first | (refine wpList_store_id rfl (.tmp 4) (.tmp 17) rfl w4.heap.size 0 X rfl rfl A2.out.1 (fun w5 h1 h2 h3 h4 => ?_); have K4 := Lib.hid h1; have K5 := Lib.hid ((h2 (w4.heap.size + 1) (by omega)).trans A2.out.2); have B5 := h4 w1.heap.size w1 B4.size BB; have H2 := Lib.hid h2; clear h1 h2 h3 h4) | (refine wpList_store_id rfl (.tmp 5) (.tmp 20) rfl (w4.heap.size + 1) 0 Y rfl rfl K5.out (fun w6 h1 h2 h3 h4 => ?_); have K6 := Lib.hid h1; have K4' := Lib.hid ((h2 w4.heap.size (by omega)).trans K4.out); have B6 := h4 w1.heap.size w1 (by have := B4.size; omega) B5; have H6 := Lib.hid h2; clear h1 h2 h3 h4))
    have HO6 := Lib.hid (HO4.out.keepB (w' := w6) fun b hb => by
      rw [H6.out b (by omega), H2.out b (by omega), Below.heap_alloc _ _ b (by simp; omega), Below.heap_alloc _ _ b hb])
    obtain ⟨ga, hga⟩ : ∃ ga, ga = w4.heap.size := ⟨_, rfl⟩
    have hgab : w1.heap.size ≤ ga := by rw [hga]; exact B4.size
    rw [← hga] at K6 K4'
    rw [← hga]
    clear hga H6 H2 HO4 B5 BB A2 ei B4 K4 K5
    go_loopg [23] n (fun g ix wr => ∃ (k : Nat) (q : List Nat), g = n - k ∧ k ≤ n ∧ ix = .int .i64 k ∧ q.length = n ∧ (∀ y ∈ q, y < 256) ∧ Owns wr w1.heap.size (.slice x2 n c2) q ∧ wr.heap[ga]? = some (iblk X) ∧ wr.heap[ga + 1]? = some (iblk Y) ∧ Below w1.heap.size w1 wr)
    case atStart => exact ⟨0, l, rfl, by omega, rfl, HN.out.symm, HLB.out, HO6.out, K4'.out, K6.out, B6⟩
    case round =>
      clear HO6 K4' K6 B6
      obtain ⟨k, q, hg, hk, rfl, hq, hqb, hO, ha, hc, B⟩ := hrel
      have HG := Lib.hid hg; have HQ := Lib.hid hq; have HQB := Lib.hid hqb; have HO := Lib.hid hO; have KA := Lib.hid ha; have KC := Lib.hid hc
      clear hg hq hqb hO ha hc
      by_cases hlt : k < n
      · obtain ⟨g, rfl, hgb, hcell, hfr, hset, hne⟩ := HO.out.set HQ.out hlt
        have HS := Lib.hid hset; have HNE := Lib.hid hne
        obtain ⟨y, hy⟩ : ∃ y, y = q.getD k 0 := ⟨_, rfl⟩
        rw [← hy] at hcell
        have hyb : y < 256 := by rw [hy, List.getD_eq_getElem?_getD, List.getElem?_eq_getElem (by rw [HQ.out]; exact hlt)]; exact HQB.out _ (List.getElem_mem _)
        obtain ⟨z, hz⟩ : ∃ z, z = (y + 1) % 256 := ⟨_, rfl⟩
        have ey : ((y : Int) + 1) % 256 = (z : Int) := by omega
        have hzb : z < 256 := by omega
        clear hz
        clear hset hne hy
        go_wp2_with fail
        go_roundg (n - (k + 1))
        case measure => have := HG.out; omega
        case rel => exact ⟨k + 1, q.set k z, rfl, by omega, by go_num, by rw [List.length_set]; exact HQ.out, fun u hu => by
          rcases List.mem_or_eq_of_mem_set hu with hu | rfl
          · exact HQB.out u hu
          · exact hzb, HS.out z, (heap_setCell_other _ _ _ _ (HNE.out _ _ KA.out)).trans KA.out, (heap_setCell_other _ _ _ _ (HNE.out _ _ KC.out)).trans KC.out, Below.setCell B hgb _⟩
      · obtain rfl : k = n := by omega
        clear hlt
        go_wp2_with fail
        refine (sum_one (.slice x2 k c2) q wr.heap.size _ 1 _ (heap_new_at rfl) (HO.out.bytes' HQ.out (below_alloc (Below.refl _ _) _)) HQB.out (by have := HQ.out; omega)).mono ?_
        rintro e w7 ⟨rfl, hb7⟩
        have KA7 := Lib.hid (below_keep hb7 (keep_alloc _ KA.out)); have KC7 := Lib.hid (below_keep hb7 (keep_alloc _ KC.out))
        have B7 := below_next (w := w1) (below_alloc B _) hb7
        clear hb7 B KA KC HO HQB HQ HG
        have KA := KA7; have KC := KC7
        clear KA7 KC7
        go_wp2_with fail
        obtain ⟨W, hW⟩ : ∃ W, W = w7 := ⟨_, rfl⟩
        rw [← hW] at KA KC B7
        rw [← hW]
        have c1 := Lib.hid fun (V : World) g (hg : V.heap[g]? = some (.cells #[.slice x k c] 22 (0, 0))) (hb : Below W.heap.size W V) => sum_one _ l g 22 1 V hg (HV1.out.keep (below_next B7 hb)) HLB.out (by have := HLL.out; omega)
        have c2 := Lib.hid fun (V : World) g (hg : V.heap[g]? = some (.cells #[.slice x k c] 22 (0, 0))) (hb : Below W.heap.size W V) => twice_one _ l g 22 1 V hg (HV1.out.keep (below_next B7 hb)) HLB.out (by have := HLL.out; omega)
        rw [← HX.out] at c1
        rw [← HY.out] at c2
        have BF := Lib.hid (below_next BZ.out B7)
        have qx := QX.out; have qy := QY.out
        clear HX HY B7 hW HLL HLB HV1 BZ HN h3 hk hgab QX QY
        refine wp_region_by [Is (iv X), Is (.slice x k c), RowOf #[.slice x k c] 22 1 1, Is (iv X), Is (.bool true), Is (.bool true), Is (iv Y), Is (.slice x k c), RowOf #[.slice x k c] 22 1 1, Is (iv Y), Is (.bool true), Is (.bool true), Is (.bool true)] [[], [], [(1, some 37)], [(2, some 38)], [(0, some 36), (3, some 39)], [(4, some 40)], [(5, some 41)], [(5, some 41)], [(5, some 41), (7, some 43)], [(5, some 41), (8, some 44)], [(5, some 41), (6, some 42), (9, some 45)], [(5, some 41), (10, some 46)], [(11, some 47)]] [(0, some 36), (1, some 37), (2, some 38), (3, some 39), (4, some 40), (5, some 41), (6, some 42), (7, some 43), (8, some 44), (9, some 45), (10, some 46), (11, some 47), (12, some 2)] [0, 0, 2, 6, 15, 31, 63, 63, 191, 447, 1023, 2047, 4095]
          (by kernel_rfl) (by kernel_rfl) (by kernel_rfl) (by kernel_rfl) ⟨Is.kept _, Is.kept _, RowOf.kept _ _ _ _, Is.kept _, Is.kept _, Is.kept _, Is.kept _, Is.kept _, RowOf.kept _ _ _ _, Is.kept _, Is.kept _, Is.kept _, Is.kept _, trivial⟩ ⟨?_, ?_, ?_, ?_, ?_, ?_, ?_, ?_, ?_, ?_, ?_, ?_, ?_, trivial⟩ ?_
        · as_aux_lemma =>
          refine fun w' hB => ?_
          show wpList _ _ _ _ _ _
          go_wp2_with (first | refine wpList_load_id rfl (.tmp 4) rfl ga X rfl (block_keep hB KA.out) ?_)
          exact ⟨iv X, rfl, rfl, Below.refl _ _⟩
        · as_aux_lemma =>
          refine fun w' hB => ?_
          show wpList _ _ _ _ _ _
          go_wp2_with fail
          exact ⟨.slice x k c, rfl, rfl, Below.refl _ _⟩
        · as_aux_lemma =>
          refine fun w' hB v1 h1 => ?_
          obtain rfl := h1
          show wpList _ _ _ _ _ _
          go_wp2_with fail
          exact ⟨_, rfl, ⟨_, rfl, heap_new _ _⟩, below_alloc (Below.refl _ _) _⟩
        · as_aux_lemma =>
          refine fun w' hB v2 h2 => ?_
          obtain ⟨g2, rfl, hg2⟩ := h2
          show wpList _ _ _ _ _ _
          go_wp2_with fail
          refine (c1.out _ _ hg2 hB).mono ?_
          rintro e w2 ⟨rfl, hb2⟩
          go_wp2_with fail
          exact ⟨iv X, rfl, rfl, hb2⟩
        · as_aux_lemma =>
          refine fun w' hB v0 h0 v3 h3 => ?_
          obtain rfl := h0
          obtain rfl := h3
          show wpList _ _ _ _ _ _
          go_wp2_with fail
          exact ⟨.bool true, rfl, rfl, Below.refl _ _⟩
        · as_aux_lemma =>
          refine fun w' hB v4 h4 => ?_
          obtain rfl := h4
          show wpList _ _ _ _ _ _
          go_wp2_with fail
          exact ⟨.bool true, rfl, rfl, Below.refl _ _⟩
        · as_aux_lemma =>
          refine fun w' hB v5 h5 => ?_
          obtain rfl := h5
          show wpList _ _ _ _ _ _
          refine wpList_unguard rfl ?_
          go_wp2_with (first | refine wpList_load_id rfl (.tmp 5) rfl (ga + 1) Y rfl (block_keep hB KC.out) ?_)
          exact ⟨iv Y, rfl, rfl, Below.refl _ _⟩
        · as_aux_lemma =>
          refine fun w' hB v5 h5 => ?_
          obtain rfl := h5
          show wpList _ _ _ _ _ _
          go_wp2_with fail
          exact ⟨.slice x k c, rfl, rfl, Below.refl _ _⟩
        · as_aux_lemma =>
          refine fun w' hB v5 h5 v7 h7 => ?_
          obtain rfl := h5
          obtain rfl := h7
          show wpList _ _ _ _ _ _
          go_wp2_with fail
          exact ⟨_, rfl, ⟨_, rfl, heap_new _ _⟩, below_alloc (Below.refl _ _) _⟩
        · as_aux_lemma =>
          refine fun w' hB v5 h5 v8 h8 => ?_
          obtain rfl := h5
          obtain ⟨g8, rfl, hg8⟩ := h8
          show wpList _ _ _ _ _ _
          go_wp2_with fail
          refine (c2.out _ _ hg8 hB).mono ?_
          rintro e w2 ⟨rfl, hb2⟩
          go_wp2_with fail
          exact ⟨iv Y, rfl, rfl, hb2⟩
        · as_aux_lemma =>
          refine fun w' hB v5 h5 v6 h6 v9 h9 => ?_
          obtain rfl := h5
          obtain rfl := h6
          obtain rfl := h9
          show wpList _ _ _ _ _ _
          go_wp2_with fail
          exact ⟨.bool true, rfl, rfl, Below.refl _ _⟩
        · as_aux_lemma =>
          refine fun w' hB v5 h5 v10 h10 => ?_
          obtain rfl := h5
          obtain rfl := h10
          show wpList _ _ _ _ _ _
          go_wp2_with fail
          exact ⟨.bool true, rfl, rfl, Below.refl _ _⟩
        · as_aux_lemma =>
          refine fun w' hB v11 h11 => ?_
          obtain rfl := h11
          show wpList _ _ _ _ _ _
          go_wp2_with fail
          exact ⟨.bool true, rfl, rfl, Below.refl _ _⟩
        · refine fun w' hB v0 h0 v1 h1 v2 h2 v3 h3 v4 h4 v5 h5 v6 h6 v7 h7 v8 h8 v9 h9 v10 h10 v11 h11 v12 h12 => ?_
          obtain rfl := h12
          simp only [onP]
          go_simp
          clear h0 h1 h2 h3 h4 h5 h6 h7 h8 h9 h10 h11
          go_wp2_with fail
          go_ret
          exact ⟨rfl, below_next BF.out hB⟩

set_option maxRecDepth 100000 in
theorem HashOwn_lifted (os : Os) (started : os.Started) (H : Type) (enc : TypeId × Value → H) :
    ReturnsInHanded {} Try.checked os 9 .any (Rows.hashOwnSpec.pre6 enc Try.prog Try.f9 Rows.hashOwnRow.domain false) (Rows.hashOwnSpec.post enc Try.prog Try.f9 false true false false) := by
  refine returnsInHanded_of_change (C := Try.checked) own started (by kernel_rfl) Try.func9
    (ChangeSpec.witness6 (enc := enc) (C := Try.checked) false ⟨#[], #[.slice none 0 0], []⟩ 8 (by kernel_rfl) (by kernel_rfl) (by kernel_rfl) (by kernel_rfl)) ?_
  intro W base args ds gs before hval0 hW hcnd _
  have hval : ∀ (j : Nat) t v, Try.f9.params[j]? = some t → args[j]? = some v → Value.okWide Try.prog W .any base t v := hval0
  have hW' := hW
  obtain ⟨p, q, hA0, hV, rfl, hfz, hnd⟩ := hW
  have hA : DataW.TrodAll enc Try.prog W 0 (fun _ => true) true Try.f9.params.toList args.toList ds p := hA0
  rw [Try.params9] at hA hval
  obtain ⟨v0, vs0, d0, ds0, p0, q0, hargs, rfl, rfl, h0, r0⟩ := trodAll_cons hA
  obtain ⟨rfl, rfl, rfl⟩ := trodAll_nil r0
  obtain rfl : args = #[v0] := by cases args; simp_all
  obtain ⟨rfl, rfl⟩ := trodVars_none hV
  have k0 := h0
  have lt0 := trod_lt_of h0
  obtain ⟨l0, b0, c0⟩ := open_bytes (hval 0 22 v0 rfl rfl) h0
  clear hA0 hval0
  refine (HashOwn_walk v0 l0 b0 W c0).mono fun e W' ⟨he, bel⟩ => ?_
  subst he
  exact ⟨_, rfl, _, _, _, [], _, [], hW', trodAll_mk1 (shut_bool (by kernel_rfl) _), (trodAll_cons_mk (Below.trod laidOut (by kernel_rfl) (of_decide_eq_true (by kernel_rfl)) k0 bel lt0) trodAll_mk0), rfl, bel.frame _, fun h => by cases h⟩

theorem HashOwn_closed : joinedFacts Try.prog 9 Try.f9 Rows.hashOwnSpec Rows.hashOwnRow = true := by
  simp only [joinedFacts, Bool.and_eq_true]
  repeat' apply And.intro
  all_goals first
    | (with_reducible exact head_enter)
    | (rw [head_make]; kernel_rfl)
    | (rw [head_lift]; kernel_rfl)
    | kernel_rfl

theorem HashOwn_holds : Rows.HashOwnSaid :=
  OpenClaim.holds_of_wide 9 Try.f9 rfl rfl rfl rfl rfl rfl rfl ⟨rfl, rfl, rfl, rfl, rfl⟩ rfl rfl rfl rfl rfl (by kernel_rfl) Try.func9 HashOwn_closed
    (of_decide_eq_true (by kernel_rfl)) (by unfold Func.isWrapper; rw [if_neg (of_decide_eq_false (by kernel_rfl))]; exact ⟨rfl, rfl⟩)
    (fun os started H enc _ => HashOwn_lifted os started H enc)
end Go.Proofs.Ytfopockjakeplaa
