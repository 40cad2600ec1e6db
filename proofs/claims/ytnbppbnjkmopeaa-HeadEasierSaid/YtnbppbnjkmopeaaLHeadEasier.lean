/- The law HeadEasier: what is proved by a limit is so by an easier one; by its own bits as the limit, too. No condition. -/
import Derived.Test.YtnbppbnjkmopeaaHdG
import Derived.Test.YtnbppbnjkmopeaaHd3
import Derived.Test.YtnbppbnjkmopeaaCmpP
import Derived.Test.YtnbppbnjkmopeaaHead
namespace Go.Proofs.Ytnbppbnjkmopeaa
open Go.ChangeShapes Go.WideShapes Go.ChangeAt Go.RowKit

theorem hpr_easier (h : Hd) (x y : Nat) (hx : (tgt x).2 = true) (hy : (tgt y).2 = true) (hxy : (tgt x).1 ≤ (tgt y).1) (h0 : hpr h x = 0) : hpr h y = 0 := by
  unfold hpr at *
  split at h0
  · rename_i hc
    rw [if_pos ⟨hc.1, hy, Nat.le_trans hc.2.2 hxy⟩]
    exact h0
  · omega
theorem hpr_own0 (h : Hd) (x : Nat) (h0 : hpr h x = 0) : hpr h h.b = 0 := by
  unfold hpr at *
  split at h0
  · rename_i hc
    rw [if_pos ⟨hc.1, hc.1, Nat.le_refl _⟩]
    exact h0
  · omega
theorem hpr_own50 (h : Hd) (x : Nat) (h0 : hpr h x = 50) : hpr h h.b = 50 := by
  unfold hpr at *
  split at h0
  · rename_i hc
    rw [if_pos ⟨hc.1, hc.1, Nat.le_refl _⟩]
    exact h0
  · omega

set_option maxRecDepth 100000 in
set_option maxHeartbeats 4000000 in
theorem HeadEasier_walk (h : Hd) (hk : h.ok) (k0 k1 : Int) (w0 : (Lit.int .u32 k0).wf = true) (w1 : (Lit.int .u32 k1).wf = true) (w : World) :
    Calls Try.prog 7 #[hdv h, .agg #[.int .u32 k0, .int .u32 k1]] w fun e w' => e = .returned (.bool true) ∧ Below w.heap.size w w' := by
  have HK := Lib.hid hk
  have hx2 : 0 ≤ k0 ∧ k0 ≤ 4294967295 := by simpa [Lit.wf, IntKind.min, IntKind.max, IntKind.signed, IntKind.bits] using w0
  have hy2 : 0 ≤ k1 ∧ k1 ≤ 4294967295 := by simpa [Lit.wf, IntKind.min, IntKind.max, IntKind.signed, IntKind.bits] using w1
  obtain ⟨x, rfl⟩ := Int.eq_ofNat_of_zero_le hx2.1
  obtain ⟨y, rfl⟩ := Int.eq_ofNat_of_zero_le hy2.1
  have hx : x < 4294967296 := by omega
  have hy : y < 4294967296 := by omega
  clear hx2 hy2
  have tx := Lib.hid fun W => target_any x hx W
  have ty := Lib.hid fun W => target_any y hy W
  have px := Lib.hid fun W => proved_any h hk x hx W
  have py := Lib.hid fun W => proved_any h hk y hy W
  have po := Lib.hid fun W => proved_any h hk h.b hk.2.2.2.2.1 W
  have KA := Lib.hid (keep_alloc (.cells #[.int .u32 x, .int .u32 y] 44 (0, 0)) (heap_new w (hdblk h)))
  have KB : Hid (((w.alloc (hdblk h)).alloc (.cells #[.int .u32 x, .int .u32 y] 44 (0, 0))).heap[w.heap.size + 1]? = some (.cells #[.int .u32 x, .int .u32 y] 44 (0, 0))) := Lib.hid (heap_new_at (by simp))
  have BB : Hid (Below w.heap.size w ((w.alloc (hdblk h)).alloc (.cells #[.int .u32 x, .int .u32 y] 44 (0, 0)))) := Lib.hid (below_alloc (below_alloc (Below.refl _ _) _) _)
  clear hk w0 w1 hx hy
  go_enter Try.func7, Try.ntmps7
  go_wp2_with fail
  refine (reads_any _).mono ?_
  rintro e w1 ⟨rfl, hb1⟩
  have KA1 := Lib.hid (below_keep hb1 KA.out); have KB1 := Lib.hid (below_keep hb1 KB.out)
  have B1 := Lib.hid (below_next BB.out hb1)
  clear hb1 KA KB BB
  have c0 : w1.cell? ⟨w.heap.size + 1, 0, none⟩ = some (.int .u32 x) := by rw [cell_of_row _ _ _ _ _ _ KB1.out]; rfl
  have c1 : w1.cell? ⟨w.heap.size + 1, 1, none⟩ = some (.int .u32 y) := by rw [cell_of_row _ _ _ _ _ _ KB1.out]; rfl
  have HE := Lib.hid (hpr_easier h x y)
  have HO0 := Lib.hid (hpr_own0 h x); have HO5 := Lib.hid (hpr_own50 h x)
  have HTX := Lib.hid (tgt_lt x); have HTY := Lib.hid (tgt_lt y)
  obtain ⟨X, hX⟩ : ∃ z, z = (tgt x).1 := ⟨_, rfl⟩
  obtain ⟨Y, hY⟩ : ∃ z, z = (tgt y).1 := ⟨_, rfl⟩
  obtain ⟨s, hs⟩ : ∃ z, z = (tgt x).2 := ⟨_, rfl⟩
  obtain ⟨t, ht⟩ : ∃ z, z = (tgt y).2 := ⟨_, rfl⟩
  rw [← hX, ← hs] at tx
  rw [← hY, ← ht] at ty
  rw [← hX, ← hY, ← hs, ← ht] at HE
  rw [← hX] at HTX
  rw [← hY] at HTY
  clear hX hY hs ht
  go_wp2_with fail
  refine (tx.out _).mono ?_
  rintro e w2 ⟨rfl, hb⟩
  have KA2 := Lib.hid (keep_alloc (nblk X) (below_keep hb KA1.out)); have KB2 := Lib.hid (keep_alloc (nblk X) (below_keep hb KB1.out)); have B2 := Lib.hid (below_alloc (below_next B1.out hb) (nblk X)); have KX := Lib.hid (heap_new w2 (nblk X))
  clear hb KA1 KB1 B1 c0 c1 tx
  have c0 : (w2.alloc (nblk X)).cell? ⟨w.heap.size + 1, 0, none⟩ = some (.int .u32 x) := by rw [cell_of_row _ _ _ _ _ _ KB2.out]; rfl
  have c1 : (w2.alloc (nblk X)).cell? ⟨w.heap.size + 1, 1, none⟩ = some (.int .u32 y) := by rw [cell_of_row _ _ _ _ _ _ KB2.out]; rfl
  go_wp2_with fail
  refine (ty.out _).mono ?_
  rintro e w3 ⟨rfl, hb⟩
  have KA3 := Lib.hid (keep_alloc (nblk Y) (below_keep hb KA2.out)); have KB3 := Lib.hid (keep_alloc (nblk Y) (below_keep hb KB2.out)); have B3 := Lib.hid (below_alloc (below_next B2.out hb) (nblk Y)); have KY := Lib.hid (heap_new w3 (nblk Y)); have KX3 := Lib.hid (keep_alloc (nblk Y) (below_keep hb KX.out))
  clear hb KX KA2 KB2 B2 c0 c1 ty
  obtain ⟨E, hE⟩ : ∃ z, z = hpr h x := ⟨_, rfl⟩
  obtain ⟨F, hF⟩ : ∃ z, z = hpr h y := ⟨_, rfl⟩
  rw [← hE] at px HO0 HO5
  rw [← hF] at py
  rw [← hE, ← hF] at HE
  clear hE hF
  go_wp2_with fail
  change Code.wp _ _ _ _ (w3.alloc (nblk Y))
  generalize w3.alloc (nblk Y) = wr at KA3 KB3 B3 KY KX3 ⊢
  refine wp_region_tail 8 [Is (hdv h), Is (.pointer (some ⟨w.heap.size + 1, 0, none⟩)), Is (.int .u32 x), Is (.int .i64 (E : Nat)), Is (hdv h), Is (.pointer (some ⟨w.heap.size + 1, 1, none⟩)), Is (.int .u32 y), Is (.int .i64 (F : Nat))] [[], [], [(1, some 26)], [(0, some 25), (2, some 27)], [], [], [(5, some 30)], [(4, some 29), (6, some 31)], [(3, some 28)], [(7, some 32)]] [(0, some 25), (1, some 26), (2, some 27), (3, some 28), (4, some 29), (5, some 30), (6, some 31), (7, some 32)] [0, 0, 2, 7, 0, 0, 32, 127, 255, 511]
    (by kernel_rfl) (by kernel_rfl) (by kernel_rfl) (by kernel_rfl) (by kernel_rfl) ⟨Is.kept _, Is.kept _, Is.kept _, Is.kept _, Is.kept _, Is.kept _, Is.kept _, Is.kept _, trivial⟩ ⟨?_, ?_, ?_, ?_, ?_, ?_, ?_, ?_, trivial⟩ ?_
  · as_aux_lemma =>
    refine fun w' hB => ?_
    show wpList _ _ _ _ _ _
    go_wp2_with (first | refine wpList_load_hd rfl (.tmp 2) rfl w.heap.size h rfl (block_keep hB KA3.out) ?_)
    exact ⟨_, rfl, rfl, Below.refl _ _⟩
  · as_aux_lemma =>
    refine fun w' hB => ?_
    show wpList _ _ _ _ _ _
    go_wp2_with fail
    exact ⟨.pointer (some ⟨w.heap.size + 1, 0, none⟩), by first | rfl | (go_simp; done), rfl, Below.refl _ _⟩
  · as_aux_lemma =>
    refine fun w' hB v1 h1 => ?_
    obtain rfl := h1
    show wpList _ _ _ _ _ _
    have c0 : w'.cell? ⟨w.heap.size + 1, 0, none⟩ = some (.int .u32 x) := by rw [cell_of_row _ _ _ _ _ _ (block_keep hB KB3.out)]; rfl
    go_wp2_with fail
    exact ⟨_, rfl, rfl, Below.refl _ _⟩
  · as_aux_lemma =>
    refine fun w' hB v0 h0 v2 h2 => ?_
    obtain rfl := h0
    obtain rfl := h2
    show wpList _ _ _ _ _ _
    go_wp2_with fail
    refine (px.out w').mono ?_
    rintro e w2 ⟨rfl, hb2⟩
    go_wp2_with fail
    exact ⟨.int .i64 (E : Nat), by first | rfl | (go_simp; done), rfl, hb2⟩
  · as_aux_lemma =>
    refine fun w' hB => ?_
    show wpList _ _ _ _ _ _
    go_wp2_with (first | refine wpList_load_hd rfl (.tmp 2) rfl w.heap.size h rfl (block_keep hB KA3.out) ?_)
    exact ⟨_, rfl, rfl, Below.refl _ _⟩
  · as_aux_lemma =>
    refine fun w' hB => ?_
    show wpList _ _ _ _ _ _
    go_wp2_with fail
    exact ⟨.pointer (some ⟨w.heap.size + 1, 1, none⟩), by first | rfl | (go_simp; done), rfl, Below.refl _ _⟩
  · as_aux_lemma =>
    refine fun w' hB v5 h5 => ?_
    obtain rfl := h5
    show wpList _ _ _ _ _ _
    have c1 : w'.cell? ⟨w.heap.size + 1, 1, none⟩ = some (.int .u32 y) := by rw [cell_of_row _ _ _ _ _ _ (block_keep hB KB3.out)]; rfl
    go_wp2_with fail
    exact ⟨_, rfl, rfl, Below.refl _ _⟩
  · as_aux_lemma =>
    refine fun w' hB v4 h4 v6 h6 => ?_
    obtain rfl := h4
    obtain rfl := h6
    show wpList _ _ _ _ _ _
    go_wp2_with fail
    refine (py.out w').mono ?_
    rintro e w2 ⟨rfl, hb2⟩
    go_wp2_with fail
    exact ⟨.int .i64 (F : Nat), by first | rfl | (go_simp; done), rfl, hb2⟩
  · refine fun w' hB v0 h0 v1 h1 v2 h2 v3 h3 v4 h4 v5 h5 v6 h6 v7 h7 => ?_
    obtain rfl := h3
    obtain rfl := h7
    simp only [onP, List.drop_succ_cons, List.drop_zero]
    go_simp
    clear h0 h1 h2 h4 h5 h6
    have KA4 := Lib.hid (block_keep hB KA3.out); have KX4 := Lib.hid (block_keep hB KX3.out); have KY4 := Lib.hid (block_keep hB KY.out)
    have B4 := Lib.hid (below_next B3.out hB)
    clear hB KA3 KB3 B3 KY KX3 px py
    have cc := Lib.hid fun W => cmp_any X Y HTX.out HTY.out W
    obtain ⟨K5_0, K5_1, K5_2, K5_3, K5_f, K5_z⟩ := cells4 KX4.out
    obtain ⟨K7_0, K7_1, K7_2, K7_3, K7_f, K7_z⟩ := cells4 KY4.out
    go_upto_region 6 with fail
    go_cut [50] (fun s50 wc => s50 = .bool false ∧ wc.heap[w.heap.size]? = some (hdblk h) ∧ Below w.heap.size w wc)
    case first =>
      cases s
      · go_wp2_with fail
        go_meet
        case rel => exact ⟨rfl, KA4.out, B4.out⟩
      · cases t
        · go_wp2_with fail
          go_meet
          case rel => exact ⟨rfl, KA4.out, B4.out⟩
        · go_wp2_with fail
          refine (cc.out _).mono ?_
          rintro e w5 ⟨rfl, hb⟩
          have KA5 := Lib.hid (block_keep hb KA4.out)
          have B5 := Lib.hid (below_next B4.out hb)
          clear hb K5_0 K5_1 K5_2 K5_3 K5_f K5_z K7_0 K7_1 K7_2 K7_3 K7_f K7_z
          by_cases hXY : X ≤ Y
          · have hc := cmpn_leq.2 hXY
            by_cases hE0 : E = 0
            · obtain rfl : F = 0 := HE.out (by simp) (by simp) hXY hE0
              subst hE0
              clear hXY
              go_wp2_with fail
              go_meet
              case rel => exact ⟨rfl, KA5.out, B5.out⟩
            · have hE1 : ((E : Int) == 0) = false := by simpa using hE0
              clear hXY hE0
              go_wp2_with fail
              go_meet
              case rel => exact ⟨rfl, KA5.out, B5.out⟩
          · have hc : ¬ cmpn X Y ≤ 0 := fun h => hXY (cmpn_leq.1 h)
            clear hXY
            go_wp2_with fail
            go_meet
            case rel => exact ⟨rfl, KA5.out, B5.out⟩
    case rest =>
    obtain ⟨rfl, k, hb⟩ := hcut
    obtain ⟨W, rfl⟩ : ∃ W : World, W = wc := ⟨_, rfl⟩
    have K := Lib.hid k; have BB := Lib.hid hb
    have hcb := (hd_cell k 66).trans (hdcs_b h)
    clear k hb KA4 KX4 KY4 B4 K5_0 K5_1 K5_2 K5_3 K5_f K5_z K7_0 K7_1 K7_2 K7_3 K7_f K7_z cc HE HTX HTY
    by_cases hE0 : E = 0
    · rw [HO0.out hE0] at po
      subst hE0
      go_wp2_with (first | refine wpList_load_hd rfl (.tmp 2) rfl w.heap.size h rfl K.out ?_ | (refine wpList_unguard rfl ?_; refine wpList_load_hd rfl (.tmp 2) rfl w.heap.size h rfl K.out ?_))
      refine (po.out _).mono ?_
      rintro e w6 ⟨rfl, hb⟩
      have B6 := Lib.hid (below_next BB.out hb)
      clear hb hcb
      go_wp2_with fail
      go_ret
      exact ⟨rfl, B6.out⟩
    · by_cases hE5 : E = 50
      · rw [HO5.out hE5] at po
        subst hE5
        go_wp2_with (first | refine wpList_load_hd rfl (.tmp 2) rfl w.heap.size h rfl K.out ?_ | (refine wpList_unguard rfl ?_; refine wpList_load_hd rfl (.tmp 2) rfl w.heap.size h rfl K.out ?_))
        refine (po.out _).mono ?_
        rintro e w6 ⟨rfl, hb⟩
        have B6 := Lib.hid (below_next BB.out hb)
        clear hb hcb
        go_wp2_with fail
        go_ret
        exact ⟨rfl, B6.out⟩
      · have hE1 : ((E : Int) == 0) = false := by simpa using hE0
        have hE2 : ((E : Int) == 50) = false := by simp; omega
        have hE3 : ((E : Int) != 0) = true := by simpa using hE0
        have hE4 : ((E : Int) != 50) = true := by simp; omega
        clear hE0 hE5 po
        go_wp2_with fail
        go_ret
        exact ⟨rfl, BB.out⟩

set_option maxRecDepth 100000 in
theorem HeadEasier_lifted (os : Os) (started : os.Started) (H : Type) (enc : TypeId × Value → H) :
    ReturnsInHanded {} Try.checked os 7 .any (Rows.headEasierSpec.pre6 enc Try.prog Try.f7 Rows.headEasierRow.domain false) (Rows.headEasierSpec.post enc Try.prog Try.f7 false true false false) := by
  refine returnsInHanded_of_change (C := Try.checked) own started (by kernel_rfl) Try.func7
    (ChangeSpec.witness6 (enc := enc) (C := Try.checked) false ⟨#[], #[.agg Try.zeroCells26, .agg #[.int .u32 0, .int .u32 0]], []⟩ 8 (by kernel_rfl) (by kernel_rfl) (by kernel_rfl) (by kernel_rfl)) ?_
  intro W base args ds gs before hval0 hW hcnd _
  have hval : ∀ (j : Nat) t v, Try.f7.params[j]? = some t → args[j]? = some v → Value.okWide Try.prog W .any base t v := hval0
  have hW' := hW
  obtain ⟨p, q, hA0, hV, rfl, hfz, hnd⟩ := hW
  have hA : DataW.TrodAll enc Try.prog W 0 (fun _ => true) true Try.f7.params.toList args.toList ds p := hA0
  rw [Try.params7] at hA hval
  obtain ⟨v0, vs0, d0, ds0, p0, q0, hargs, rfl, rfl, h0, r0⟩ := trodAll_cons hA
  obtain ⟨v1, vs1, d1, ds1, p1, q1, rfl, rfl, rfl, h1, r1⟩ := trodAll_cons r0
  obtain ⟨rfl, rfl, rfl⟩ := trodAll_nil r1
  obtain rfl : args = #[v0, v1] := by cases args; simp_all
  obtain ⟨rfl, rfl⟩ := trodVars_none hV
  have k0 := h0
  have lt0 := trod_lt_of h0
  obtain ⟨a0, b0, rfl⟩ := open_hd (hval 0 26 v0 rfl rfl) h0
  have k1 := h1
  have lt1 := trod_lt_of h1
  obtain ⟨a1, c1, b1, d1, rfl⟩ := open_pair32 (hval 1 44 v1 rfl rfl) h1
  clear hA0 hval0
  refine (HeadEasier_walk a0 b0 a1 c1 b1 d1 W).mono fun e W' ⟨he, bel⟩ => ?_
  subst he
  exact ⟨_, rfl, _, _, _, [], _, [], hW', trodAll_mk1 (shut_bool (by kernel_rfl) _), (trodAll_cons_mk (Below.trod laidOut (by kernel_rfl) (of_decide_eq_true (by kernel_rfl)) k0 bel lt0) (trodAll_cons_mk (Below.trod laidOut (by kernel_rfl) (of_decide_eq_true (by kernel_rfl)) k1 bel lt1) trodAll_mk0)), rfl, bel.frame _, fun h => by cases h⟩

theorem HeadEasier_closed : joinedFacts Try.prog 7 Try.f7 Rows.headEasierSpec Rows.headEasierRow = true := by
  simp only [joinedFacts, Bool.and_eq_true]
  repeat' apply And.intro
  all_goals first
    | (with_reducible exact head_enter)
    | (rw [head_make]; kernel_rfl)
    | (rw [head_lift]; kernel_rfl)
    | kernel_rfl

theorem HeadEasier_holds : Rows.HeadEasierSaid :=
  OpenClaim.holds_of_wide 7 Try.f7 rfl rfl rfl rfl rfl rfl rfl ⟨rfl, rfl, rfl, rfl, rfl⟩ rfl rfl rfl rfl rfl (by kernel_rfl) Try.func7 HeadEasier_closed
    (of_decide_eq_true (by kernel_rfl)) (by unfold Func.isWrapper; rw [if_neg (of_decide_eq_false (by kernel_rfl))]; exact ⟨rfl, rfl⟩)
    (fun os started H enc _ => HeadEasier_lifted os started H enc)
end Go.Proofs.Ytnbppbnjkmopeaa
