/- The law HeadApart: unlike headers have unlike bytes, the same the same. No condition. -/
import Derived.Test.YtnbppbnjkmopeaaHdG
import Derived.Test.YtnbppbnjkmopeaaHdO
import Derived.Test.YtnbppbnjkmopeaaOpenBytes
import Derived.Test.YtnbppbnjkmopeaaHead
namespace Go.Proofs.Ytnbppbnjkmopeaa
open Go.ChangeShapes Go.WideShapes Go.ChangeAt Go.RowKit

set_option maxRecDepth 100000 in
set_option maxHeartbeats 4000000 in
theorem HeadApart_walk (a : Hd) (ha : a.ok) (b : Hd) (hb : b.ok) (w : World) :
    Calls Try.prog 6 #[hdv a, hdv b] w fun e w' => e = .returned (.bool true) ∧ Below w.heap.size w w' := by
  have HA := Lib.hid ha; have HB := Lib.hid hb
  have qe := eq_hd a b ha hb
  have ca := Lib.hid fun w => bytes_any a ha w
  have cb := Lib.hid fun w => bytes_any b hb w
  have KA := Lib.hid (keep_alloc (hdblk b) (heap_new w (hdblk a)))
  have KB : Hid (((w.alloc (hdblk a)).alloc (hdblk b)).heap[w.heap.size + 1]? = some (hdblk b)) := Lib.hid (heap_new_at (by simp))
  have BB : Hid (Below w.heap.size w ((w.alloc (hdblk a)).alloc (hdblk b))) := Lib.hid (below_alloc (below_alloc (Below.refl _ _) _) _)
  obtain ⟨sa, hsa⟩ : ∃ s, s = str (hby a) := ⟨_, rfl⟩
  obtain ⟨sb, hsb⟩ : ∃ s, s = str (hby b) := ⟨_, rfl⟩
  obtain ⟨d, hd⟩ : ∃ d, d = hdeq a b := ⟨_, rfl⟩
  have HS : Hid ((sa.toList == sb.toList) = d) := Lib.hid (by
    rw [hsa, hsb, str_eq (hby_byte a) (hby_byte b), hd, Bool.eq_iff_iff, decide_eq_true_iff, hdeq_iff]
    exact ⟨hby_inj ha hb, fun e => by rw [e]⟩)
  rw [← hd] at qe
  have HSA := Lib.hid hsa; have HSB := Lib.hid hsb
  clear ha hb hsa hsb hd
  go_enter Try.func6, Try.ntmps6
  go_wp2_with fail
  refine (reads_any _).mono ?_
  rintro e w1 ⟨rfl, hb1⟩
  have KA1 := Lib.hid (below_keep hb1 KA.out); have KB1 := Lib.hid (below_keep hb1 KB.out)
  have B1 := Lib.hid (below_next BB.out hb1)
  clear hb1 KA KB BB
  go_wp2_with fail
  refine wp_region_by [Is (hdv a), (fun v V => ∃ g, v = .slice (some ⟨g, 0, none⟩) 80 80 ∧ Owns V g v (hby a)), Is (.string sa), Is (hdv b), (fun v V => ∃ g, v = .slice (some ⟨g, 0, none⟩) 80 80 ∧ Owns V g v (hby b)), Is (.string sb), Is (.bool d), Is (hdv a), Is (hdv b), Is (.bool d), Is (.bool true), Is (.bool true)] [[], [(0, some 7)], [(1, some 8)], [], [(3, some 10)], [(4, some 11)], [(2, some 9), (5, some 12)], [], [], [(7, some 14), (8, some 15)], [(6, some 13), (9, some 16)], [(10, some 17)]] [(0, some 7), (1, some 8), (2, some 9), (3, some 10), (4, some 11), (5, some 12), (6, some 13), (7, some 14), (8, some 15), (9, some 16), (10, some 17), (11, some 4)] [0, 1, 3, 0, 11, 27, 63, 0, 0, 384, 1023, 2047]
    (by kernel_rfl) (by kernel_rfl) (by kernel_rfl) (by kernel_rfl) ⟨Is.kept _, (fun _ _ _ hb ⟨g, e, h⟩ => ⟨g, e, h.keep hb⟩), Is.kept _, Is.kept _, (fun _ _ _ hb ⟨g, e, h⟩ => ⟨g, e, h.keep hb⟩), Is.kept _, Is.kept _, Is.kept _, Is.kept _, Is.kept _, Is.kept _, Is.kept _, trivial⟩ ⟨?_, ?_, ?_, ?_, ?_, ?_, ?_, ?_, ?_, ?_, ?_, ?_, trivial⟩ ?_
  · as_aux_lemma =>
    refine fun w' hB => ?_
    show wpList _ _ _ _ _ _
    go_wp2_with (first | refine wpList_load_hd rfl (.tmp 2) rfl w.heap.size a rfl (block_keep hB KA1.out) ?_)
    exact ⟨_, rfl, rfl, Below.refl _ _⟩
  · as_aux_lemma =>
    refine fun w' hB v0 h0 => ?_
    obtain rfl := h0
    show wpList _ _ _ _ _ _
    go_wp2_with fail
    refine (ca.out w').mono ?_
    rintro e w2 ⟨g, rfl, hg, hO, hb⟩
    go_wp2_with fail
    exact ⟨_, rfl, ⟨g, rfl, hO⟩, hb⟩
  · as_aux_lemma =>
    refine fun w' hB v1 h1 => ?_
    show wpList _ _ _ _ _ _
    obtain ⟨g, rfl, hO⟩ := h1
    have hcv := run_str_own hO
    rw [← HSA.out] at hcv
    go_wp2_with fail
    exact ⟨_, rfl, rfl, Below.refl _ _⟩
  · as_aux_lemma =>
    refine fun w' hB => ?_
    show wpList _ _ _ _ _ _
    go_wp2_with (first | refine wpList_load_hd rfl (.tmp 3) rfl (w.heap.size + 1) b rfl (block_keep hB KB1.out) ?_)
    exact ⟨_, rfl, rfl, Below.refl _ _⟩
  · as_aux_lemma =>
    refine fun w' hB v3 h3 => ?_
    obtain rfl := h3
    show wpList _ _ _ _ _ _
    go_wp2_with fail
    refine (cb.out w').mono ?_
    rintro e w2 ⟨g, rfl, hg, hO, hb⟩
    go_wp2_with fail
    exact ⟨_, rfl, ⟨g, rfl, hO⟩, hb⟩
  · as_aux_lemma =>
    refine fun w' hB v4 h4 => ?_
    show wpList _ _ _ _ _ _
    obtain ⟨g, rfl, hO⟩ := h4
    have hcv := run_str_own hO
    rw [← HSB.out] at hcv
    go_wp2_with fail
    exact ⟨_, rfl, rfl, Below.refl _ _⟩
  · as_aux_lemma =>
    refine fun w' hB v2 h2 v5 h5 => ?_
    obtain rfl := h2
    obtain rfl := h5
    show wpList _ _ _ _ _ _
    go_wp2_with fail
    exact ⟨_, rfl, congrArg Value.bool HS.out, Below.refl _ _⟩
  · as_aux_lemma =>
    refine fun w' hB => ?_
    show wpList _ _ _ _ _ _
    go_wp2_with (first | refine wpList_load_hd rfl (.tmp 2) rfl w.heap.size a rfl (block_keep hB KA1.out) ?_)
    exact ⟨_, rfl, rfl, Below.refl _ _⟩
  · as_aux_lemma =>
    refine fun w' hB => ?_
    show wpList _ _ _ _ _ _
    go_wp2_with (first | refine wpList_load_hd rfl (.tmp 3) rfl (w.heap.size + 1) b rfl (block_keep hB KB1.out) ?_)
    exact ⟨_, rfl, rfl, Below.refl _ _⟩
  · as_aux_lemma =>
    refine fun w' hB v7 h7 v8 h8 => ?_
    obtain rfl := h7
    obtain rfl := h8
    show wpList _ _ _ _ _ _
    go_wp2_with fail
    exact ⟨.bool d, by first | rfl | (go_simp; done), rfl, Below.refl _ _⟩
  · as_aux_lemma =>
    refine fun w' hB v6 h6 v9 h9 => ?_
    obtain rfl := h6
    obtain rfl := h9
    show wpList _ _ _ _ _ _
    go_wp2_with fail
    exact ⟨.bool true, by first | rfl | (go_simp; done), rfl, Below.refl _ _⟩
  · as_aux_lemma =>
    refine fun w' hB v10 h10 => ?_
    obtain rfl := h10
    show wpList _ _ _ _ _ _
    go_wp2_with fail
    exact ⟨.bool true, by first | rfl | (go_simp; done), rfl, Below.refl _ _⟩
  · refine fun w' hB v0 h0 v1 h1 v2 h2 v3 h3 v4 h4 v5 h5 v6 h6 v7 h7 v8 h8 v9 h9 v10 h10 v11 h11 => ?_
    obtain rfl := h11
    simp only [onP]
    go_simp
    clear h0 h1 h2 h3 h4 h5 h6 h7 h8 h9 h10
    have BZ := Lib.hid (below_next B1.out hB)
    clear hB
    go_wp2_with fail
    go_ret
    exact ⟨rfl, BZ.out⟩

set_option maxRecDepth 100000 in
theorem HeadApart_lifted (os : Os) (started : os.Started) (H : Type) (enc : TypeId × Value → H) :
    ReturnsInHanded {} Try.checked os 6 .any (Rows.headApartSpec.pre6 enc Try.prog Try.f6 Rows.headApartRow.domain false) (Rows.headApartSpec.post enc Try.prog Try.f6 false true false false) := by
  refine returnsInHanded_of_change (C := Try.checked) own started (by kernel_rfl) Try.func6
    (ChangeSpec.witness6 (enc := enc) (C := Try.checked) false ⟨#[], #[.agg Try.zeroCells26, .agg Try.zeroCells26], []⟩ 8 (by kernel_rfl) (by kernel_rfl) (by kernel_rfl) (by kernel_rfl)) ?_
  intro W base args ds gs before hval0 hW hcnd _
  have hval : ∀ (j : Nat) t v, Try.f6.params[j]? = some t → args[j]? = some v → Value.okWide Try.prog W .any base t v := hval0
  have hW' := hW
  obtain ⟨p, q, hA0, hV, rfl, hfz, hnd⟩ := hW
  have hA : DataW.TrodAll enc Try.prog W 0 (fun _ => true) true Try.f6.params.toList args.toList ds p := hA0
  rw [Try.params6] at hA hval
  obtain ⟨v0, vs0, d0, ds0, p0, q0, hargs, rfl, rfl, h0, r0⟩ := trodAll_cons hA
  obtain ⟨v1, vs1, d1, ds1, p1, q1, rfl, rfl, rfl, h1, r1⟩ := trodAll_cons r0
  obtain ⟨rfl, rfl, rfl⟩ := trodAll_nil r1
  obtain rfl : args = #[v0, v1] := by cases args; simp_all
  obtain ⟨rfl, rfl⟩ := trodVars_none hV
  have k0 := h0
  have lt0 := trod_lt_of h0
  obtain ⟨a0, b0, rfl⟩ := open_hd (hval 0 26 v0 rfl rfl) h0
  have k1 := h1
  have lt1 := trod_lt_of h1
  obtain ⟨a1, b1, rfl⟩ := open_hd (hval 1 26 v1 rfl rfl) h1
  clear hA0 hval0
  refine (HeadApart_walk a0 b0 a1 b1 W).mono fun e W' ⟨he, bel⟩ => ?_
  subst he
  exact ⟨_, rfl, _, _, _, [], _, [], hW', trodAll_mk1 (shut_bool (by kernel_rfl) _), (trodAll_cons_mk (Below.trod laidOut (by kernel_rfl) (of_decide_eq_true (by kernel_rfl)) k0 bel lt0) (trodAll_cons_mk (Below.trod laidOut (by kernel_rfl) (of_decide_eq_true (by kernel_rfl)) k1 bel lt1) trodAll_mk0)), rfl, bel.frame _, fun h => by cases h⟩

theorem HeadApart_closed : joinedFacts Try.prog 6 Try.f6 Rows.headApartSpec Rows.headApartRow = true := by
  simp only [joinedFacts, Bool.and_eq_true]
  repeat' apply And.intro
  all_goals first
    | (with_reducible exact head_enter)
    | (rw [head_make]; kernel_rfl)
    | (rw [head_lift]; kernel_rfl)
    | kernel_rfl

theorem HeadApart_holds : Rows.HeadApartSaid :=
  OpenClaim.holds_of_wide 6 Try.f6 rfl rfl rfl rfl rfl rfl rfl ⟨rfl, rfl, rfl, rfl, rfl⟩ rfl rfl rfl rfl rfl (by kernel_rfl) Try.func6 HeadApart_closed
    (of_decide_eq_true (by kernel_rfl)) (by unfold Func.isWrapper; rw [if_neg (of_decide_eq_false (by kernel_rfl))]; exact ⟨rfl, rfl⟩)
    (fun os started H enc _ => HeadApart_lifted os started H enc)
end Go.Proofs.Ytnbppbnjkmopeaa
