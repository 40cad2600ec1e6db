/- The law HeadProved: whether work stands behind any header, by any limit, is the document's answer. No condition. -/
import Derived.Test.YtnbppbnjkmopeaaHr1
import Derived.Test.YtnbppbnjkmopeaaHdG
import Derived.Test.YtnbppbnjkmopeaaHd3
import Derived.Test.YtnbppbnjkmopeaaHead
namespace Go.Proofs.Ytnbppbnjkmopeaa
open Go.ChangeShapes Go.WideShapes Go.ChangeAt Go.RowKit

set_option maxRecDepth 100000 in
set_option maxHeartbeats 4000000 in
theorem HeadProved_walk (h : Hd) (hk : h.ok) (k0 : Int) (w0 : (Lit.int .u32 k0).wf = true) (w : World) :
    Calls Try.prog 4 #[hdv h, .int .u32 k0] w fun e w' => e = .returned (.bool true) ∧ Below w.heap.size w w' := by
  have hx2 : 0 ≤ k0 ∧ k0 ≤ 4294967295 := by simpa [Lit.wf, IntKind.min, IntKind.max, IntKind.signed, IntKind.bits] using w0
  obtain ⟨l, rfl⟩ := Int.eq_ofNat_of_zero_le hx2.1
  have cp := Lib.hid fun W => proved_any h hk l (by omega) W
  have cr := Lib.hid fun W => rproved_any h hk l (by omega) W
  obtain ⟨P, hP⟩ : ∃ P, P = hpr h l := ⟨_, rfl⟩
  rw [← hP] at cp cr
  have K := Lib.hid (heap_new w (hdblk h))
  have B : Hid (Below w.heap.size w (w.alloc (hdblk h))) := Lib.hid (below_alloc (Below.refl _ _) _)
  clear hx2 w0 hP hk
  go_enter Try.func4, Try.ntmps4
  go_wp2_with fail
  refine (reads_any _).mono ?_
  rintro e w1 ⟨rfl, hb⟩
  have K1 := Lib.hid (block_keep hb K.out); have B1 := Lib.hid (below_next B.out hb)
  clear hb K B
  go_wp2_with fail
  refine wp_region_by [Is (hdv h), Is (.int .u32 l), Is (.int .i64 P), Is (hdv h), Is (.int .u32 l), Is (.int .i64 P), Is (.bool true), Is (.bool true)] [[], [], [(0, some 7), (1, some 8)], [], [], [(3, some 10), (4, some 11)], [(2, some 9), (5, some 12)], [(6, some 13)]] [(0, some 7), (1, some 8), (2, some 9), (3, some 10), (4, some 11), (5, some 12), (6, some 13), (7, some 4)] [0, 0, 3, 0, 0, 31, 63, 127]
    (by kernel_rfl) (by kernel_rfl) (by kernel_rfl) (by kernel_rfl) ⟨Is.kept _, Is.kept _, Is.kept _, Is.kept _, Is.kept _, Is.kept _, Is.kept _, Is.kept _, trivial⟩ ⟨?_, ?_, ?_, ?_, ?_, ?_, ?_, ?_, trivial⟩ ?_
  · as_aux_lemma =>
    refine fun w' hB => ?_
    show wpList _ _ _ _ _ _
    go_wp2_with (first | refine wpList_load_hd rfl (.tmp 2) rfl w.heap.size h rfl (block_keep hB K1.out) ?_)
    exact ⟨_, rfl, rfl, Below.refl _ _⟩
  · as_aux_lemma =>
    refine fun w' hB => ?_
    show wpList _ _ _ _ _ _
    go_wp2_with fail
    exact ⟨.int .u32 l, by first | rfl | (go_simp; done), rfl, Below.refl _ _⟩
  · as_aux_lemma =>
    refine fun w' hB v0 h0 v1 h1 => ?_
    obtain rfl := h0
    obtain rfl := h1
    show wpList _ _ _ _ _ _
    go_wp2_with fail
    refine (cp.out w').mono ?_
    rintro e w2 ⟨rfl, hb2⟩
    go_wp2_with fail
    exact ⟨.int .i64 P, by first | rfl | (go_simp; done), rfl, hb2⟩
  · as_aux_lemma =>
    refine fun w' hB => ?_
    show wpList _ _ _ _ _ _
    go_wp2_with (first | refine wpList_load_hd rfl (.tmp 2) rfl w.heap.size h rfl (block_keep hB K1.out) ?_)
    exact ⟨_, rfl, rfl, Below.refl _ _⟩
  · as_aux_lemma =>
    refine fun w' hB => ?_
    show wpList _ _ _ _ _ _
    go_wp2_with fail
    exact ⟨.int .u32 l, by first | rfl | (go_simp; done), rfl, Below.refl _ _⟩
  · as_aux_lemma =>
    refine fun w' hB v3 h3 v4 h4 => ?_
    obtain rfl := h3
    obtain rfl := h4
    show wpList _ _ _ _ _ _
    go_wp2_with fail
    refine (cr.out w').mono ?_
    rintro e w2 ⟨rfl, hb2⟩
    go_wp2_with fail
    exact ⟨.int .i64 P, by first | rfl | (go_simp; done), rfl, hb2⟩
  · as_aux_lemma =>
    refine fun w' hB v2 h2 v5 h5 => ?_
    obtain rfl := h2
    obtain rfl := h5
    show wpList _ _ _ _ _ _
    go_wp2_with fail
    exact ⟨.bool true, by first | rfl | (go_simp; done), rfl, Below.refl _ _⟩
  · as_aux_lemma =>
    refine fun w' hB v6 h6 => ?_
    obtain rfl := h6
    show wpList _ _ _ _ _ _
    go_wp2_with fail
    exact ⟨.bool true, by first | rfl | (go_simp; done), rfl, Below.refl _ _⟩
  · refine fun w' hB v0 h0 v1 h1 v2 h2 v3 h3 v4 h4 v5 h5 v6 h6 v7 h7 => ?_
    obtain rfl := h7
    simp only [onP]
    go_simp
    clear h0 h1 h2 h3 h4 h5 h6
    have BZ := Lib.hid (below_next B1.out hB)
    clear hB
    go_wp2_with fail
    go_ret
    exact ⟨rfl, BZ.out⟩

set_option maxRecDepth 100000 in
theorem HeadProved_lifted (os : Os) (started : os.Started) (H : Type) (enc : TypeId × Value → H) :
    ReturnsInHanded {} Try.checked os 4 .any (Rows.headProvedSpec.pre6 enc Try.prog Try.f4 Rows.headProvedRow.domain false) (Rows.headProvedSpec.post enc Try.prog Try.f4 false true false false) := by
  refine returnsInHanded_of_change (C := Try.checked) own started (by kernel_rfl) Try.func4
    (ChangeSpec.witness6 (enc := enc) (C := Try.checked) false ⟨#[], #[.agg Try.zeroCells26, .int .u32 0], []⟩ 8 (by kernel_rfl) (by kernel_rfl) (by kernel_rfl) (by kernel_rfl)) ?_
  intro W base args ds gs before hval0 hW hcnd _
  have hval : ∀ (j : Nat) t v, Try.f4.params[j]? = some t → args[j]? = some v → Value.okWide Try.prog W .any base t v := hval0
  have hW' := hW
  obtain ⟨p, q, hA0, hV, rfl, hfz, hnd⟩ := hW
  have hA : DataW.TrodAll enc Try.prog W 0 (fun _ => true) true Try.f4.params.toList args.toList ds p := hA0
  rw [Try.params4] at hA hval
  obtain ⟨v0, vs0, d0, ds0, p0, q0, hargs, rfl, rfl, h0, r0⟩ := trodAll_cons hA
  obtain ⟨v1, vs1, d1, ds1, p1, q1, rfl, rfl, rfl, h1, r1⟩ := trodAll_cons r0
  obtain ⟨rfl, rfl, rfl⟩ := trodAll_nil r1
  obtain rfl : args = #[v0, v1] := by cases args; simp_all
  obtain ⟨rfl, rfl⟩ := trodVars_none hV
  have k0 := h0
  have lt0 := trod_lt_of h0
  obtain ⟨a0, b0, rfl⟩ := open_hd (hval 0 26 v0 rfl rfl) h0
  have k1 := h1
  have lt1 := trod_lt_of h1
  obtain ⟨a1, rfl, rfl, rfl, b1⟩ := open_int Try.underlying22 (hval 1 22 v1 rfl rfl) h1
  clear hA0 hval0
  refine (HeadProved_walk a0 b0 a1 b1 W).mono fun e W' ⟨he, bel⟩ => ?_
  subst he
  exact ⟨_, rfl, _, _, _, [], _, [], hW', trodAll_mk1 (shut_bool (by kernel_rfl) _), (trodAll_cons_mk (Below.trod laidOut (by kernel_rfl) (of_decide_eq_true (by kernel_rfl)) k0 bel lt0) (trodAll_cons_mk (Below.trod laidOut (by kernel_rfl) (of_decide_eq_true (by kernel_rfl)) k1 bel lt1) trodAll_mk0)), rfl, bel.frame _, fun h => by cases h⟩

theorem HeadProved_closed : joinedFacts Try.prog 4 Try.f4 Rows.headProvedSpec Rows.headProvedRow = true := by
  simp only [joinedFacts, Bool.and_eq_true]
  repeat' apply And.intro
  all_goals first
    | (with_reducible exact head_enter)
    | (rw [head_make]; kernel_rfl)
    | (rw [head_lift]; kernel_rfl)
    | kernel_rfl

theorem HeadProved_holds : Rows.HeadProvedSaid :=
  OpenClaim.holds_of_wide 4 Try.f4 rfl rfl rfl rfl rfl rfl rfl ⟨rfl, rfl, rfl, rfl, rfl⟩ rfl rfl rfl rfl rfl (by kernel_rfl) Try.func4 HeadProved_closed
    (of_decide_eq_true (by kernel_rfl)) (by unfold Func.isWrapper; rw [if_neg (of_decide_eq_false (by kernel_rfl))]; exact ⟨rfl, rfl⟩)
    (fun os started H enc _ => HeadProved_lifted os started H enc)
end Go.Proofs.Ytnbppbnjkmopeaa
