/- The law PresyncMay: which bits may stand behind others; how much work is needed. No condition. -/
import Derived.Test.YtnbppbnjkmopeaaSyPo
import Derived.Test.YtnbppbnjkmopeaaSyPn
import Derived.Test.YtnbppbnjkmopeaaHead
namespace Go.Proofs.Ytnbppbnjkmopeaa
open Go.ChangeShapes Go.WideShapes Go.ChangeAt Go.RowKit

theorem needN_lt (r : Rl) : needN r < 2 ^ 256 := by
  unfold needN
  split <;> omega
set_option maxRecDepth 100000 in
set_option maxHeartbeats 8000000 in
theorem PresyncMay_walk (r : Rl) (hr : r.okv) (k : Int) (hk : (Lit.int .i64 k).wf = true) (x y : Int) (hx : (Lit.int .u32 x).wf = true) (hy : (Lit.int .u32 y).wf = true) (w : World) :
    Calls Try.prog 11 #[rlv r, .int .i64 k, .agg #[.int .u32 x, .int .u32 y]] w fun e w' => e = .returned (.bool true) ∧ Below w.heap.size w w' := by
  simp [Lit.wf, IntKind.min, IntKind.max, IntKind.signed, IntKind.bits] at hk hx hy
  obtain ⟨was, rfl⟩ : ∃ a : Nat, x = a := ⟨x.toNat, by omega⟩
  obtain ⟨now, rfl⟩ : ∃ a : Nat, y = a := ⟨y.toNat, by omega⟩
  have hwas : was < 4294967296 := by omega
  have hnow : now < 4294967296 := by omega
  have HLIM := Lib.hid hr.lim
  have KR := Lib.hid (keep_alloc (.cells #[.int .u32 (was : Int), .int .u32 (now : Int)] 44 (0, 0)) (heap_new w (rlblk r)))
  have KP : Hid (((w.alloc (rlblk r)).alloc (.cells #[.int .u32 (was : Int), .int .u32 (now : Int)] 44 (0, 0))).heap[w.heap.size + 1]? = some (.cells #[.int .u32 (was : Int), .int .u32 (now : Int)] 44 (0, 0))) := Lib.hid (heap_new_at (by simp))
  have B := Lib.hid (below_alloc (below_alloc (Below.refl w.heap.size w) (rlblk r)) (.cells #[.int .u32 (was : Int), .int .u32 (now : Int)] 44 (0, 0)))
  have HP : Hid (∀ (V : World) (g : Nat), V.heap[g]? = some (.cells #[.int .u32 (was : Int), .int .u32 (now : Int)] 44 (0, 0)) → V.cell? ⟨g, 0, none⟩ = some (.int .u32 (was : Int)) ∧ V.cell? ⟨g, 1, none⟩ = some (.int .u32 (now : Int))) :=
    Lib.hid fun V g hV => ⟨(cell_of_row _ _ _ _ _ _ hV).trans rfl, (cell_of_row _ _ _ _ _ _ hV).trans rfl⟩
  clear hx hy hr
  go_enter Try.func11, Try.ntmps11
  go_wp2_with fail
  obtain ⟨gr, hgr⟩ : ∃ g, g = w.heap.size := ⟨_, rfl⟩
  have HGR := Lib.hid hgr
  rw [← hgr] at KR KP
  rw [← hgr]
  clear hgr
  refine (asks_any _).mono ?_
  rintro e w1 ⟨rfl, hb⟩
  replace KR := Lib.hid (block_keep hb KR.out); replace KP := Lib.hid (block_keep hb KP.out); replace B := Lib.hid (below_next B.out hb)
  have cc := Lib.hid fun W => check_any r HLIM.out W
  obtain ⟨C, hC⟩ : ∃ C, C = chkP r := ⟨_, rfl⟩
  rw [← hC] at cc
  have HC := Lib.hid hC
  clear hb hC
  go_wp2_with ((with_reducible show wpList _ _ _ _ _ _); refine ld_rl rfl (.tmp 3) rfl gr 0 r rfl (rl_whole KR.out) ?_)
  refine (cc.out _).mono ?_
  rintro e w2 ⟨rfl, hb⟩
  replace KR := Lib.hid (block_keep hb KR.out); replace KP := Lib.hid (block_keep hb KP.out); replace B := Lib.hid (below_next B.out hb)
  clear hb cc
  by_cases hC0 : C = 0
  · subst hC0
    by_cases hk0 : k < 0
    · go_wp2_with fail
      go_ret
      exact ⟨rfl, B.out⟩
    obtain ⟨K, rfl⟩ : ∃ a : Nat, k = a := ⟨k.toNat, by omega⟩
    have hK : K < 9223372036854775808 := by omega
    have hkn : ¬ (K : Int) < 0 := by omega
    have hchk := HC.out
    unfold chkP at hchk
    have h1 : ¬ ((tgt r.limit).2 = false ∨ r.gen.b ≠ r.limit) := fun h => by rw [if_pos h] at hchk; cases hchk
    rw [if_neg h1] at hchk
    have h2 : ¬ (r.every < 0 ∨ 1000 < r.every ∨ r.spacing < 1 ∨ 1048576 < r.spacing ∨ r.subsidy < 0 ∨ 1125899906842624 < r.subsidy ∨ r.work < 0 ∨ 1000 < r.work) := fun h => by rw [if_pos h] at hchk; cases hchk
    have htl : (tgt r.limit).2 = true := by
      cases e : (tgt r.limit).2
      · exact absurd (.inl e) h1
      · rfl
    have cm := Lib.hid fun W => may_any r HLIM.out (by omega) (by omega) (by omega) (by omega) K hK was now hwas hnow W
    have cm2 := Lib.hid fun W => refmay_any r HLIM.out htl (by omega) (by omega) (by omega) (by omega) K hK was now hwas hnow W
    have cn := Lib.hid fun W => need_any r HLIM.out (by omega) W
    have cn2 := Lib.hid fun W => refneed_any r HLIM.out htl (by omega) (by omega) W
    have HNL := Lib.hid (needN_lt r)
    obtain ⟨m, hm⟩ : ∃ m, m = mayP r K was now := ⟨_, rfl⟩
    obtain ⟨N, hN⟩ : ∃ m, m = needN r := ⟨_, rfl⟩
    rw [← hm] at cm cm2
    rw [← hN] at cn cn2 HNL
    have em := Lib.hid (show (m != m) = false by simp)
    clear hm hN hchk h1 h2 hk hk0 HC htl hK
    go_wp2_with fail
    refine wp_region_by [Is (rlv r), Is (.int .i64 K), Is (.pointer (some ⟨gr + 1, 0, none⟩)), Is (.int .u32 was), Is (.pointer (some ⟨gr + 1, 1, none⟩)), Is (.int .u32 now), Is (.bool m), Is (rlv r), Is (.int .i64 K), Is (.pointer (some ⟨gr + 1, 0, none⟩)), Is (.int .u32 was), Is (.pointer (some ⟨gr + 1, 1, none⟩)), Is (.int .u32 now), Is (.bool m), Is (.bool false)] [[], [], [], [(2, some 21)], [], [(4, some 23)], [(0, some 19), (1, some 20), (3, some 22), (5, some 24)], [], [], [], [(9, some 28)], [], [(11, some 30)], [(7, some 26), (8, some 27), (10, some 29), (12, some 31)], [(6, some 25), (13, some 32)]] [(0, some 19), (1, some 20), (2, some 21), (3, some 22), (4, some 23), (5, some 24), (6, some 25), (7, some 26), (8, some 27), (9, some 28), (10, some 29), (11, some 30), (12, some 31), (13, some 32), (14, some 33)] [0, 0, 0, 4, 0, 16, 63, 0, 0, 0, 512, 0, 2048, 8191, 16383]
      (by kernel_rfl) (by kernel_rfl) (by kernel_rfl) (by kernel_rfl) ⟨Is.kept _, Is.kept _, Is.kept _, Is.kept _, Is.kept _, Is.kept _, Is.kept _, Is.kept _, Is.kept _, Is.kept _, Is.kept _, Is.kept _, Is.kept _, Is.kept _, Is.kept _, trivial⟩ ⟨?_, ?_, ?_, ?_, ?_, ?_, ?_, ?_, ?_, ?_, ?_, ?_, ?_, ?_, ?_, trivial⟩ ?_
    · as_aux_lemma =>
      refine fun w' hB => ?_
      show wpList _ _ _ _ _ _
      go_wp2_with ((with_reducible show wpList _ _ _ _ _ _); refine ld_rl rfl (.tmp 3) rfl gr 0 r rfl (rl_whole (block_keep hB KR.out)) ?_)
      exact ⟨_, rfl, rfl, Below.refl _ _⟩
    · as_aux_lemma =>
      refine fun w' hB => ?_
      show wpList _ _ _ _ _ _
      go_wp2_with fail
      exact ⟨.int .i64 K, by first | rfl | (go_simp; done), rfl, Below.refl _ _⟩
    · as_aux_lemma =>
      refine fun w' hB => ?_
      show wpList _ _ _ _ _ _
      go_wp2_with fail
      exact ⟨.pointer (some ⟨gr + 1, 0, none⟩), by first | rfl | (go_simp; done), rfl, Below.refl _ _⟩
    · as_aux_lemma =>
      refine fun w' hB v2 h2 => ?_
      obtain rfl := h2
      show wpList _ _ _ _ _ _
      have c := (HP.out _ _ (block_keep hB KP.out)).1
      go_wp2_with fail
      exact ⟨_, rfl, rfl, Below.refl _ _⟩
    · as_aux_lemma =>
      refine fun w' hB => ?_
      show wpList _ _ _ _ _ _
      go_wp2_with fail
      exact ⟨.pointer (some ⟨gr + 1, 1, none⟩), by first | rfl | (go_simp; done), rfl, Below.refl _ _⟩
    · as_aux_lemma =>
      refine fun w' hB v4 h4 => ?_
      obtain rfl := h4
      show wpList _ _ _ _ _ _
      have c := (HP.out _ _ (block_keep hB KP.out)).2
      go_wp2_with fail
      exact ⟨_, rfl, rfl, Below.refl _ _⟩
    · as_aux_lemma =>
      refine fun w' hB v0 h0 v1 h1 v3 h3 v5 h5 => ?_
      obtain rfl := h0
      obtain rfl := h1
      obtain rfl := h3
      obtain rfl := h5
      show wpList _ _ _ _ _ _
      go_wp2_with fail
      refine (cm.out w').mono ?_
      rintro e w2 ⟨rfl, hb2⟩
      go_wp2_with fail
      exact ⟨.bool m, by first | rfl | (go_simp; done), rfl, hb2⟩
    · as_aux_lemma =>
      refine fun w' hB => ?_
      show wpList _ _ _ _ _ _
      go_wp2_with ((with_reducible show wpList _ _ _ _ _ _); refine ld_rl rfl (.tmp 3) rfl gr 0 r rfl (rl_whole (block_keep hB KR.out)) ?_)
      exact ⟨_, rfl, rfl, Below.refl _ _⟩
    · as_aux_lemma =>
      refine fun w' hB => ?_
      show wpList _ _ _ _ _ _
      go_wp2_with fail
      exact ⟨.int .i64 K, by first | rfl | (go_simp; done), rfl, Below.refl _ _⟩
    · as_aux_lemma =>
      refine fun w' hB => ?_
      show wpList _ _ _ _ _ _
      go_wp2_with fail
      exact ⟨.pointer (some ⟨gr + 1, 0, none⟩), by first | rfl | (go_simp; done), rfl, Below.refl _ _⟩
    · as_aux_lemma =>
      refine fun w' hB v9 h9 => ?_
      obtain rfl := h9
      show wpList _ _ _ _ _ _
      have c := (HP.out _ _ (block_keep hB KP.out)).1
      go_wp2_with fail
      exact ⟨_, rfl, rfl, Below.refl _ _⟩
    · as_aux_lemma =>
      refine fun w' hB => ?_
      show wpList _ _ _ _ _ _
      go_wp2_with fail
      exact ⟨.pointer (some ⟨gr + 1, 1, none⟩), by first | rfl | (go_simp; done), rfl, Below.refl _ _⟩
    · as_aux_lemma =>
      refine fun w' hB v11 h11 => ?_
      obtain rfl := h11
      show wpList _ _ _ _ _ _
      have c := (HP.out _ _ (block_keep hB KP.out)).2
      go_wp2_with fail
      exact ⟨_, rfl, rfl, Below.refl _ _⟩
    · as_aux_lemma =>
      refine fun w' hB v7 h7 v8 h8 v10 h10 v12 h12 => ?_
      obtain rfl := h7
      obtain rfl := h8
      obtain rfl := h10
      obtain rfl := h12
      show wpList _ _ _ _ _ _
      go_wp2_with fail
      refine (cm2.out w').mono ?_
      rintro e w2 ⟨rfl, hb2⟩
      go_wp2_with fail
      exact ⟨.bool m, by first | rfl | (go_simp; done), rfl, hb2⟩
    · as_aux_lemma =>
      refine fun w' hB v6 h6 v13 h13 => ?_
      obtain rfl := h6
      obtain rfl := h13
      show wpList _ _ _ _ _ _
      have em' := em.out
      go_wp2_with fail
      exact ⟨_, rfl, rfl, Below.refl _ _⟩
    · refine fun w' hB v0 h0 v1 h1 v2 h2 v3 h3 v4 h4 v5 h5 v6 h6 v7 h7 v8 h8 v9 h9 v10 h10 v11 h11 v12 h12 v13 h13 v14 h14 => ?_
      obtain rfl := h14
      simp only [onP]
      go_simp
      clear h0 h1 h2 h3 h4 h5 h6 h7 h8 h9 h10 h11 h12 h13
      replace KR := Lib.hid (block_keep hB KR.out); replace B := Lib.hid (below_next B.out hB)
      clear hB cm cm2 KP HP em
      go_wp2_with ((with_reducible show wpList _ _ _ _ _ _); refine ld_rl rfl (.tmp 3) rfl gr 0 r rfl (rl_whole KR.out) ?_)
      refine (cn2.out _).mono ?_
      rintro e w4 ⟨v, b, rfl, hv, hb⟩
      replace KR := Lib.hid (block_keep hb KR.out); replace B := Lib.hid (below_next B.out hb)
      have cw := Lib.hid (words_any b v N 256 HNL.out (by omega) w4 hv)
      rw [Nat.mod_eq_of_lt HNL.out, decide_eq_false (by have := HNL.out; omega)] at cw
      clear hb hv cn2
      go_wp2_with fail
      refine cw.out.mono ?_
      rintro e w5 ⟨rfl, hb⟩
      replace KR := Lib.hid (block_keep hb KR.out); replace B := Lib.hid (below_next B.out hb)
      have hz5 := B.out.size
      have hgz := block_lt KR.out
      clear hb cw
      go_wp2_with ((with_reducible show wpList _ _ _ _ _ _); refine wpList_store_wb rfl (.tmp 8) (.tmp 39) rfl w5.heap.size 0 N rfl rfl (heap_new w5 _) (fun w6 h1 h2 h3 h4 => ?_); have KW := Lib.hid h1; have KR6 := Lib.hid ((h2 gr (by omega)).trans (keep_alloc _ KR.out)); have B6 := Lib.hid (h4 w.heap.size w hz5 (below_alloc B.out _)); clear h1 h2 h3 h4)
      obtain ⟨g8, hg8⟩ : ∃ g, g = w5.heap.size := ⟨_, rfl⟩
      rw [← hg8] at KW
      rw [← hg8]
      clear hg8 KR B hz5 hgz
      have eq := Lib.hid fun W => eq_num N N HNL.out HNL.out W
      simp only [decide_true] at eq
      refine wp_region_by [Is (rlv r), Is (nv N), Is (nv N), Is (.bool true), Is (.bool true)] [[], [(0, some 41)], [], [(1, some 42), (2, some 43)], [(3, some 44)]] [(0, some 41), (1, some 42), (2, some 43), (3, some 44), (4, some 6)] [0, 1, 0, 7, 15]
        (by kernel_rfl) (by kernel_rfl) (by kernel_rfl) (by kernel_rfl) ⟨Is.kept _, Is.kept _, Is.kept _, Is.kept _, Is.kept _, trivial⟩ ⟨?_, ?_, ?_, ?_, ?_, trivial⟩ ?_
      · as_aux_lemma =>
        refine fun w' hB => ?_
        show wpList _ _ _ _ _ _
        go_wp2_with ((with_reducible show wpList _ _ _ _ _ _); refine ld_rl rfl (.tmp 3) rfl gr 0 r rfl (rl_whole (block_keep hB KR6.out)) ?_)
        exact ⟨_, rfl, rfl, Below.refl _ _⟩
      · as_aux_lemma =>
        refine fun w' hB v0 h0 => ?_
        obtain rfl := h0
        show wpList _ _ _ _ _ _
        go_wp2_with fail
        refine (cn.out w').mono ?_
        rintro e w2 ⟨rfl, hb2⟩
        go_wp2_with fail
        exact ⟨nv N, by first | rfl | (go_simp; done), rfl, hb2⟩
      · as_aux_lemma =>
        refine fun w' hB => ?_
        show wpList _ _ _ _ _ _
        go_wp2_with ((with_reducible show wpList _ _ _ _ _ _); refine wpList_load_wb rfl (.tmp 8) rfl g8 N rfl (block_keep hB KW.out) ?_)
        exact ⟨_, rfl, rfl, Below.refl _ _⟩
      · as_aux_lemma =>
        refine fun w' hB v1 h1 v2 h2 => ?_
        obtain rfl := h1
        obtain rfl := h2
        show wpList _ _ _ _ _ _
        have e3 := eq.out w'
        go_wp2_with fail
        exact ⟨_, rfl, rfl, Below.refl _ _⟩
      · as_aux_lemma =>
        refine fun w' hB v3 h3 => ?_
        obtain rfl := h3
        show wpList _ _ _ _ _ _
        go_wp2_with fail
        exact ⟨.bool true, by first | rfl | (go_simp; done), rfl, Below.refl _ _⟩
      · refine fun w' hB v0 h0 v1 h1 v2 h2 v3 h3 v4 h4 => ?_
        obtain rfl := h4
        simp only [onP]
        go_simp
        clear h0 h1 h2 h3
        replace B6 := Lib.hid (below_next B6.out hB)
        clear hB
        go_wp2_with fail
        go_ret
        exact ⟨rfl, B6.out⟩
  · have eC : ((C : Int) != 0) = true := by simp; omega
    go_wp2_with fail
    go_ret
    exact ⟨rfl, B.out⟩

set_option maxRecDepth 100000 in
theorem PresyncMay_lifted (os : Os) (started : os.Started) (H : Type) (enc : TypeId × Value → H) :
    ReturnsInHanded {} Try.checked os 11 .any (Rows.presyncMaySpec.pre6 enc Try.prog Try.f11 Rows.presyncMayRow.domain false) (Rows.presyncMaySpec.post enc Try.prog Try.f11 false true false false) := by
  refine returnsInHanded_of_change (C := Try.checked) own started (by kernel_rfl) Try.func11
    (ChangeSpec.witness6 (enc := enc) (C := Try.checked) false ⟨#[], #[.agg Try.zeroCells62, .int .i64 0, .agg #[.int .u32 0, .int .u32 0]], []⟩ 8 (by kernel_rfl) (by kernel_rfl) (by kernel_rfl) (by kernel_rfl)) ?_
  intro W base args ds gs before hval0 hW hcnd _
  have hval : ∀ (j : Nat) t v, Try.f11.params[j]? = some t → args[j]? = some v → Value.okWide Try.prog W .any base t v := hval0
  have hW' := hW
  obtain ⟨p, q, hA0, hV, rfl, hfz, hnd⟩ := hW
  have hA : DataW.TrodAll enc Try.prog W 0 (fun _ => true) true Try.f11.params.toList args.toList ds p := hA0
  rw [Try.params11] at hA hval
  obtain ⟨v0, vs0, d0, ds0, p0, q0, hargs, rfl, rfl, h0, r0⟩ := trodAll_cons hA
  obtain ⟨v1, vs1, d1, ds1, p1, q1, rfl, rfl, rfl, h1, r1⟩ := trodAll_cons r0
  obtain ⟨v2, vs2, d2, ds2, p2, q2, rfl, rfl, rfl, h2, r2⟩ := trodAll_cons r1
  obtain ⟨rfl, rfl, rfl⟩ := trodAll_nil r2
  obtain rfl : args = #[v0, v1, v2] := by cases args; simp_all
  obtain ⟨rfl, rfl⟩ := trodVars_none hV
  have k0 := h0
  have lt0 := trod_lt_of h0
  obtain ⟨a0, b0, rfl⟩ := open_rl (hval 0 62 v0 rfl rfl) h0
  have k1 := h1
  have lt1 := trod_lt_of h1
  obtain ⟨a1, rfl, rfl, rfl, b1⟩ := open_int Try.underlying3 (hval 1 3 v1 rfl rfl) h1
  have k2 := h2
  have lt2 := trod_lt_of h2
  obtain ⟨a2, c2, b2, d2, rfl⟩ := open_pair32 (hval 2 44 v2 rfl rfl) h2
  clear hA0 hval0
  refine (PresyncMay_walk a0 b0 a1 b1 a2 c2 b2 d2 W).mono fun e W' ⟨he, bel⟩ => ?_
  subst he
  exact ⟨_, rfl, _, _, _, [], _, [], hW', trodAll_mk1 (shut_bool (by kernel_rfl) _), (trodAll_cons_mk (Below.trod laidOut (by kernel_rfl) (of_decide_eq_true (by kernel_rfl)) k0 bel lt0) (trodAll_cons_mk (Below.trod laidOut (by kernel_rfl) (of_decide_eq_true (by kernel_rfl)) k1 bel lt1) (trodAll_cons_mk (Below.trod laidOut (by kernel_rfl) (of_decide_eq_true (by kernel_rfl)) k2 bel lt2) trodAll_mk0))), rfl, bel.frame _, fun h => by cases h⟩

theorem PresyncMay_closed : joinedFacts Try.prog 11 Try.f11 Rows.presyncMaySpec Rows.presyncMayRow = true := by
  simp only [joinedFacts, Bool.and_eq_true]
  repeat' apply And.intro
  all_goals first
    | (with_reducible exact head_enter)
    | (rw [head_make]; kernel_rfl)
    | (rw [head_lift]; kernel_rfl)
    | kernel_rfl

theorem PresyncMay_holds : Rows.PresyncMaySaid :=
  OpenClaim.holds_of_wide 11 Try.f11 rfl rfl rfl rfl rfl rfl rfl ⟨rfl, rfl, rfl, rfl, rfl⟩ rfl rfl rfl rfl rfl (by kernel_rfl) Try.func11 PresyncMay_closed
    (of_decide_eq_true (by kernel_rfl)) (by unfold Func.isWrapper; rw [if_neg (of_decide_eq_false (by kernel_rfl))]; exact ⟨rfl, rfl⟩)
    (fun os started H enc _ => PresyncMay_lifted os started H enc)
end Go.Proofs.Ytnbppbnjkmopeaa
