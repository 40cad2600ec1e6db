/- The law HashOf: the sum of any bytes, once and twice, is the document's. No condition. -/
import Derived.Test.YtfopockjakeplaaHashK
import Derived.Test.YtfopockjakeplaaRegInv
import Derived.Test.YtfopockjakeplaaRsH
import Derived.Test.YtfopockjakeplaaHead
namespace Go.Proofs.Ytfopockjakeplaa
open Go.ChangeShapes Go.WideShapes Go.ChangeAt Go.RowKit

set_option maxRecDepth 100000 in
set_option maxHeartbeats 4000000 in
theorem HashOf_walk (v : Value) (l : List Nat) (hl : ∀ y ∈ l, y < 256) (w : World) (hv : BytesIn w v l) :
    Calls Try.prog 3 #[v] w fun e w' => e = .returned (.bool true) ∧ Below w.heap.size w w' := by
  have HV := Lib.hid hv.at
  have HL := Lib.hid hl
  obtain ⟨x, c, rfl⟩ := hv.shape
  clear hv hl
  obtain ⟨n, hn⟩ : ∃ n, n = l.length := ⟨_, rfl⟩
  rw [← hn]
  have HN := Lib.hid hn
  rw [← hn] at HV
  clear hn
  have B : Below w.heap.size w w := Below.refl _ _
  go_enter Try.func3, Try.ntmps3
  go_wp2_with fail
  refine (known_any _).mono ?_
  rintro e w1 ⟨rfl, hb1⟩
  have B1 := below_next (w := w) (by repeat' (first | (with_reducible exact Below.refl _ _) | (with_reducible assumption) | (with_reducible refine below_alloc ?_ _) | (with_reducible refine Below.drew ?_) | (with_reducible refine below_drewN ?_ _) | (with_reducible refine Below.setCell ?_ ?_ _) | go_size)) hb1
  clear hb1 B
  by_cases h3 : 300 < n
  · have h3' : (300 : Int) < (n : Int) := by omega
    go_wp2_with fail
    go_ret
    exact ⟨rfl, B1⟩
  · have h3' : ¬ (300 : Int) < (n : Int) := by omega
    have HLL : Hid (l.length ≤ 100000) := Lib.hid (by have := HN.out; omega)
    have HV1 := Lib.hid (HV.out.keep B1)
    have BF := Lib.hid B1
    clear HV B1
    go_wp2_with fail
    obtain ⟨W, hW⟩ : ∃ W, W = w1 := ⟨_, rfl⟩
    rw [← hW] at HV1 BF
    rw [← hW]
    have cs := Lib.hid fun (V : World) g (hg : V.heap[g]? = some (.cells #[.slice x n c] 22 (0, 0))) (hb : Below W.heap.size W V) => sum_one _ l g 22 1 V hg (HV1.out.keep hb) HL.out HLL.out
    have ct := Lib.hid fun (V : World) g (hg : V.heap[g]? = some (.cells #[.slice x n c] 22 (0, 0))) (hb : Below W.heap.size W V) => twice_one _ l g 22 1 V hg (HV1.out.keep hb) HL.out HLL.out
    have cr := Lib.hid fun V => refsum_any l HL.out HLL.out V
    have cq := Lib.hid fun V => reftwice_any l HL.out HLL.out V
    have cv := Lib.hid fun (V : World) (hb : Below W.heap.size W V) => run_str_at (HV1.out.keep hb)
    obtain ⟨X, hX⟩ : ∃ X, X = sha l := ⟨_, rfl⟩
    obtain ⟨Y, hY⟩ : ∃ Y, Y = tw l := ⟨_, rfl⟩
    obtain ⟨sq, hsq⟩ : ∃ sq, sq = str l := ⟨_, rfl⟩
    have qx : ∀ W, (Op.equalIn 10000 25 (iv X) (iv X)).run Try.prog W = .ok true W := by rw [hX]; exact eq_self _ (sha_lt l)
    have qy : ∀ W, (Op.equalIn 10000 25 (iv Y) (iv Y)).run Try.prog W = .ok true W := by rw [hY]; exact eq_self _ (tw_lt l)
    rw [← hX] at cs cr
    rw [← hY] at ct cq
    rw [← hsq] at cr cq cv
    clear hX hY hsq HV1 HL HLL HN h3 h3' hW
    refine wp_region_by [Is (.slice x n c), RowOf #[.slice x n c] 22 1 1, Is (iv X), Is (.slice x n c), Is (.string sq), Is (iv X), Is (.bool true), Is (.bool true), Is (.slice x n c), RowOf #[.slice x n c] 22 1 1, Is (iv Y), Is (.slice x n c), Is (.string sq), Is (iv Y), Is (.bool true), Is (.bool true), Is (.bool true)] [[], [(0, some 8)], [(1, some 9)], [], [(3, some 11)], [(4, some 12)], [(2, some 10), (5, some 13)], [(6, some 14)], [(7, some 15)], [(7, some 15), (8, some 16)], [(7, some 15), (9, some 17)], [(7, some 15)], [(7, some 15), (11, some 19)], [(7, some 15), (12, some 20)], [(7, some 15), (10, some 18), (13, some 21)], [(7, some 15), (14, some 22)], [(15, some 23)]] [(0, some 8), (1, some 9), (2, some 10), (3, some 11), (4, some 12), (5, some 13), (6, some 14), (7, some 15), (8, some 16), (9, some 17), (10, some 18), (11, some 19), (12, some 20), (13, some 21), (14, some 22), (15, some 23), (16, some 2)] [0, 1, 3, 0, 8, 31, 63, 127, 255, 511, 1023, 255, 2303, 8191, 16383, 32767, 65535]
      (by kernel_rfl) (by kernel_rfl) (by kernel_rfl) (by kernel_rfl) ⟨Is.kept _, RowOf.kept _ _ _ _, Is.kept _, Is.kept _, Is.kept _, Is.kept _, Is.kept _, Is.kept _, Is.kept _, RowOf.kept _ _ _ _, Is.kept _, Is.kept _, Is.kept _, Is.kept _, Is.kept _, Is.kept _, Is.kept _, trivial⟩ ⟨?_, ?_, ?_, ?_, ?_, ?_, ?_, ?_, ?_, ?_, ?_, ?_, ?_, ?_, ?_, ?_, ?_, trivial⟩ ?_
    · as_aux_lemma =>
      refine fun w' hB => ?_
      show wpList _ _ _ _ _ _
      go_wp2_with fail
      exact ⟨.slice x n c, rfl, rfl, Below.refl _ _⟩
    · as_aux_lemma =>
      refine fun w' hB v0 h0 => ?_
      obtain rfl := h0
      show wpList _ _ _ _ _ _
      go_wp2_with fail
      exact ⟨_, rfl, ⟨_, rfl, heap_new _ _⟩, below_alloc (Below.refl _ _) _⟩
    · as_aux_lemma =>
      refine fun w' hB v1 h1 => ?_
      obtain ⟨g1, rfl, hg1⟩ := h1
      show wpList _ _ _ _ _ _
      go_wp2_with fail
      refine (cs.out _ _ hg1 hB).mono ?_
      rintro e w2 ⟨rfl, hb2⟩
      go_wp2_with fail
      exact ⟨iv X, rfl, rfl, hb2⟩
    · as_aux_lemma =>
      refine fun w' hB => ?_
      show wpList _ _ _ _ _ _
      go_wp2_with fail
      exact ⟨.slice x n c, rfl, rfl, Below.refl _ _⟩
    · as_aux_lemma =>
      refine fun w' hB v3 h3 => ?_
      obtain rfl := h3
      show wpList _ _ _ _ _ _
      have hcv := cv.out w' hB
      go_wp2_with fail
      exact ⟨.string sq, rfl, rfl, Below.refl _ _⟩
    · as_aux_lemma =>
      refine fun w' hB v4 h4 => ?_
      obtain rfl := h4
      show wpList _ _ _ _ _ _
      go_wp2_with fail
      refine (cr.out _).mono ?_
      rintro e w2 ⟨rfl, hb2⟩
      go_wp2_with fail
      exact ⟨iv X, rfl, rfl, hb2⟩
    · as_aux_lemma =>
      refine fun w' hB v2 h2 v5 h5 => ?_
      obtain rfl := h2
      obtain rfl := h5
      show wpList _ _ _ _ _ _
      go_wp2_with fail
      exact ⟨.bool true, rfl, rfl, Below.refl _ _⟩
    · as_aux_lemma =>
      refine fun w' hB v6 h6 => ?_
      obtain rfl := h6
      show wpList _ _ _ _ _ _
      go_wp2_with fail
      exact ⟨.bool true, rfl, rfl, Below.refl _ _⟩
    · as_aux_lemma =>
      refine fun w' hB v7 h7 => ?_
      obtain rfl := h7
      show wpList _ _ _ _ _ _
      go_wp2_with fail
      exact ⟨.slice x n c, rfl, rfl, Below.refl _ _⟩
    · as_aux_lemma =>
      refine fun w' hB v7 h7 v8 h8 => ?_
      obtain rfl := h7
      obtain rfl := h8
      show wpList _ _ _ _ _ _
      go_wp2_with fail
      exact ⟨_, rfl, ⟨_, rfl, heap_new _ _⟩, below_alloc (Below.refl _ _) _⟩
    · as_aux_lemma =>
      refine fun w' hB v7 h7 v9 h9 => ?_
      obtain rfl := h7
      obtain ⟨g9, rfl, hg9⟩ := h9
      show wpList _ _ _ _ _ _
      go_wp2_with fail
      refine (ct.out _ _ hg9 hB).mono ?_
      rintro e w2 ⟨rfl, hb2⟩
      go_wp2_with fail
      exact ⟨iv Y, rfl, rfl, hb2⟩
    · as_aux_lemma =>
      refine fun w' hB v7 h7 => ?_
      obtain rfl := h7
      show wpList _ _ _ _ _ _
      go_wp2_with fail
      exact ⟨.slice x n c, rfl, rfl, Below.refl _ _⟩
    · as_aux_lemma =>
      refine fun w' hB v7 h7 v11 h11 => ?_
      obtain rfl := h7
      obtain rfl := h11
      show wpList _ _ _ _ _ _
      have hcv := cv.out w' hB
      go_wp2_with fail
      exact ⟨.string sq, rfl, rfl, Below.refl _ _⟩
    · as_aux_lemma =>
      refine fun w' hB v7 h7 v12 h12 => ?_
      obtain rfl := h7
      obtain rfl := h12
      show wpList _ _ _ _ _ _
      go_wp2_with fail
      refine (cq.out _).mono ?_
      rintro e w2 ⟨rfl, hb2⟩
      go_wp2_with fail
      exact ⟨iv Y, rfl, rfl, hb2⟩
    · as_aux_lemma =>
      refine fun w' hB v7 h7 v10 h10 v13 h13 => ?_
      obtain rfl := h7
      obtain rfl := h10
      obtain rfl := h13
      show wpList _ _ _ _ _ _
      go_wp2_with fail
      exact ⟨.bool true, rfl, rfl, Below.refl _ _⟩
    · as_aux_lemma =>
      refine fun w' hB v7 h7 v14 h14 => ?_
      obtain rfl := h7
      obtain rfl := h14
      show wpList _ _ _ _ _ _
      go_wp2_with fail
      exact ⟨.bool true, rfl, rfl, Below.refl _ _⟩
    · as_aux_lemma =>
      refine fun w' hB v15 h15 => ?_
      obtain rfl := h15
      show wpList _ _ _ _ _ _
      go_wp2_with fail
      exact ⟨.bool true, rfl, rfl, Below.refl _ _⟩
    · refine fun w' hB v0 h0 v1 h1 v2 h2 v3 h3 v4 h4 v5 h5 v6 h6 v7 h7 v8 h8 v9 h9 v10 h10 v11 h11 v12 h12 v13 h13 v14 h14 v15 h15 v16 h16 => ?_
      obtain rfl := h16
      simp only [onP]
      go_simp
      clear h0 h1 h2 h3 h4 h5 h6 h7 h8 h9 h10 h11 h12 h13 h14 h15
      go_wp2_with fail
      go_ret
      exact ⟨rfl, below_next BF.out hB⟩

set_option maxRecDepth 100000 in
theorem HashOf_lifted (os : Os) (started : os.Started) (H : Type) (enc : TypeId × Value → H) :
    ReturnsInHanded {} Try.checked os 3 .any (Rows.hashOfSpec.pre6 enc Try.prog Try.f3 Rows.hashOfRow.domain false) (Rows.hashOfSpec.post enc Try.prog Try.f3 false true false false) := by
  refine returnsInHanded_of_change (C := Try.checked) own started (by kernel_rfl) Try.func3
    (ChangeSpec.witness6 (enc := enc) (C := Try.checked) false ⟨#[], #[.slice none 0 0], []⟩ 8 (by kernel_rfl) (by kernel_rfl) (by kernel_rfl) (by kernel_rfl)) ?_
  intro W base args ds gs before hval0 hW hcnd _
  have hval : ∀ (j : Nat) t v, Try.f3.params[j]? = some t → args[j]? = some v → Value.okWide Try.prog W .any base t v := hval0
  have hW' := hW
  obtain ⟨p, q, hA0, hV, rfl, hfz, hnd⟩ := hW
  have hA : DataW.TrodAll enc Try.prog W 0 (fun _ => true) true Try.f3.params.toList args.toList ds p := hA0
  rw [Try.params3] at hA hval
  obtain ⟨v0, vs0, d0, ds0, p0, q0, hargs, rfl, rfl, h0, r0⟩ := trodAll_cons hA
  obtain ⟨rfl, rfl, rfl⟩ := trodAll_nil r0
  obtain rfl : args = #[v0] := by cases args; simp_all
  obtain ⟨rfl, rfl⟩ := trodVars_none hV
  have k0 := h0
  have lt0 := trod_lt_of h0
  obtain ⟨l0, b0, c0⟩ := open_bytes (hval 0 22 v0 rfl rfl) h0
  clear hA0 hval0
  refine (HashOf_walk v0 l0 b0 W c0).mono fun e W' ⟨he, bel⟩ => ?_
  subst he
  exact ⟨_, rfl, _, _, _, [], _, [], hW', trodAll_mk1 (shut_bool (by kernel_rfl) _), (trodAll_cons_mk (Below.trod laidOut (by kernel_rfl) (of_decide_eq_true (by kernel_rfl)) k0 bel lt0) trodAll_mk0), rfl, bel.frame _, fun h => by cases h⟩

theorem HashOf_closed : joinedFacts Try.prog 3 Try.f3 Rows.hashOfSpec Rows.hashOfRow = true := by
  simp only [joinedFacts, Bool.and_eq_true]
  repeat' apply And.intro
  all_goals first
    | (with_reducible exact head_enter)
    | (rw [head_make]; kernel_rfl)
    | (rw [head_lift]; kernel_rfl)
    | kernel_rfl

theorem HashOf_holds : Rows.HashOfSaid :=
  OpenClaim.holds_of_wide 3 Try.f3 rfl rfl rfl rfl rfl rfl rfl ⟨rfl, rfl, rfl, rfl, rfl⟩ rfl rfl rfl rfl rfl (by kernel_rfl) Try.func3 HashOf_closed
    (of_decide_eq_true (by kernel_rfl)) (by unfold Func.isWrapper; rw [if_neg (of_decide_eq_false (by kernel_rfl))]; exact ⟨rfl, rfl⟩)
    (fun os started H enc _ => HashOf_lifted os started H enc)
end Go.Proofs.Ytfopockjakeplaa
