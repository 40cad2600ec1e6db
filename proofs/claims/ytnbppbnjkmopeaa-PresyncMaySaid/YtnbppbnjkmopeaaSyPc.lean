/- One header behind the last one: the step. No condition. Headers that come, in plain words: what taking them leaves. No condition. presync.Take. No condition. -/
import Derived.Test.YtnbppbnjkmopeaaSyPb
import Derived.Deep.CutBlock
namespace Go.Proofs.Ytnbppbnjkmopeaa
open Go.RowKit

theorem hd_prevR {w : World} {g : Nat} {h : Hd} (hg : w.heap[g]? = some (hdblk h)) : w.rangeAt g 1 (ids h.p) := fun j v hv => by
  have hj : j < 32 := by
    have := (List.getElem?_eq_some_iff.1 hv).1
    rwa [ids_len] at this
  rw [hd_cell hg, hdcs, Nat.add_comm 1 j, List.getElem?_cons_succ, List.getElem?_append_left (by rw [ids_len]; exact hj)]
  exact hv
theorem wpList_build_nd {ops : Array Oper} {rest : List Oper} {o : Oper} {a : Act} {w : World} {Q : Exit → Act → World → Prop} (hg : o.guard = none) (x0 x1 x4 : Operand) (ho : o.op = .build 69 #[(0, x0), (1, x1), (4, x4)]) (h : Hd) (id : Nat) (k : Int)
    (h0 : a.eval x0 = hdv h) (h1 : a.eval x1 = iv id) (h4 : a.eval x4 = .int .i64 k)
    (hc : wpList Try.prog ops Q rest (a.put o.dst (ndv ⟨h, id, 0, 0, k, 0, false⟩)) w) : wpList Try.prog ops Q (o :: rest) a w := by
  refine wpList_build_of hg 69 _ ho (ndL ⟨h, id, 0, 0, k, 0, false⟩).toArray ?_ hc
  simp only [List.map_toArray, List.map_cons, List.map_nil, h0, h1, h4]
  exact bld_nd h id k
theorem fill_num2 (a b : Value) (a0 a1 a2 a3 b0 b1 b2 b3 : Value) (e : a = .agg #[a0, a1, a2, a3]) (e2 : b = .agg #[b0, b1, b2, b3]) : Instr.fill (fun i => some (i * 4, 4)) ((Array.range (2 * 4)).map ((Value.agg #[.int .u64 0, .int .u64 0, .int .u64 0, .int .u64 0]).cells[· % (Value.agg #[.int .u64 0, .int .u64 0, .int .u64 0, .int .u64 0]).cells.size]!)) [(0, a), (1, b)] = some #[a0, a1, a2, a3, b0, b1, b2, b3] := by subst e; subst e2; kernel_rfl
theorem wpList_build_num2 {ops : Array Oper} {rest : List Oper} {o : Oper} {a : Act} {w : World} {Q : Exit → Act → World → Prop} (hgd : o.guard = none) (x y : Operand) (n m : Nat) (ho : o.op = .buildSlice 109 2 #[(0, x), (1, y)]) (hx : a.eval x = nv n) (hy : a.eval y = nv m)
    (h : wpList Try.prog ops Q rest (a.put o.dst (.slice (some ⟨w.heap.size, 0, none⟩) 2 2)) (w.alloc (.cells #[.int .u64 (lw n 0), .int .u64 (lw n 1), .int .u64 (lw n 2), .int .u64 (lw n 3), .int .u64 (lw m 0), .int .u64 (lw m 1), .int .u64 (lw m 2), .int .u64 (lw m 3)] 47 (0, 0)))) : wpList Try.prog ops Q (o :: rest) a w := by
  obtain ⟨i0, hi, hz0, hz1, hz2⟩ := info_parts info_num
  refine wpList_buildSlice hgd 109 47 2 _ ho #[.int .u64 (lw n 0), .int .u64 (lw n 1), .int .u64 (lw n 2), .int .u64 (lw n 3), .int .u64 (lw m 0), .int .u64 (lw m 1), .int .u64 (lw m 2), .int .u64 (lw m 3)] i0 _ underlying_nums hi hz0 (by rw [hz1]; decide) (by rw [hz1]; decide) ?_ h
  rw [hz1]
  simp only [List.map_toArray, List.map_cons, List.map_nil, hx, hy]
  exact fill_num2 _ _ _ _ _ _ _ _ _ _ rfl rfl
theorem hd_bC {w : World} {g : Nat} {h : Hd} (hg : w.heap[g]? = some (hdblk h)) : w.cell? ⟨g, 66, none⟩ = some (.int .u32 (h.b : Int)) := (hd_cell hg 66).trans (hdcs_b h)
set_option maxRecDepth 100000 in
set_option maxHeartbeats 4000000 in
theorem step_any (g : Nat) (vb vr : Value) (p : Ps) (h : Hd) (hh : h.ok) (k : Nat) (hli : p.last.id < 2 ^ 256) (hll : p.rules.limit < 4294967296) (he0 : 0 ≤ p.rules.every) (he1 : p.rules.every ≤ 1000) (hs0 : 1 ≤ p.rules.spacing) (hs1 : p.rules.spacing ≤ 1048576) (hlb : p.last.h.b < 4294967296) (hlw : p.last.work < 2 ^ 256) (hk : p.last.height = k) (hkl : k < 4611686018427387904) (w : World) (hp : PsIs w g vb vr p) :
    Calls Try.prog 86 #[.pointer (some ⟨g, 0, none⟩), hdv h] w fun e w' => e = .returned (.tuple #[ndv (stepP p h k).1, .int .i64 ((stepP p h k).2 : Nat)]) ∧ Below w.heap.size w w' := by
  obtain ⟨W, hW⟩ : ∃ W, W = (w.alloc (.cells (hdcs h).toArray 26)).alloc (.cells Try.zeroCells69 69) := ⟨_, rfl⟩
  have B : Hid (Below w.heap.size w W) := Lib.hid (hW ▸ below_alloc (below_alloc (Below.refl w.heap.size w) (hdblk h)) _)
  have K := Lib.hid (hp.keep (hW ▸ below_alloc (below_alloc (Below.refl w.heap.size w) (hdblk h)) _ : Below w.heap.size w W))
  have KH : Hid (W.heap[w.heap.size]? = some (hdblk h)) := Lib.hid (hW ▸ keep_alloc _ (heap_new w (hdblk h)))
  have KN : Hid (W.heap[w.heap.size + 1]? = some (ndblk nd0)) := Lib.hid (by rw [hW, ndzb]; exact heap_new_at (by simp))
  obtain ⟨gh, hgh⟩ : ∃ gh, gh = w.heap.size := ⟨_, rfl⟩
  have HG := Lib.hid hgh
  rw [← hgh] at KH KN
  obtain ⟨R, hR⟩ : ∃ R, R = stepP p h k := ⟨_, rfl⟩
  rw [← hR]
  rw [stepP] at hR
  have HR := Lib.hid hR
  have HK := Lib.hid hk
  clear hR hk hp
  unfold hdv
  go_enter Try.func86, Try.ntmps86
  go_wp2_with fail
  rw [← hW, ← hgh]
  clear hW hgh
  have EB := Lib.hid fun V => eq_id h.p p.last.id hh.2.1 hli V
  by_cases hpv : h.p = p.last.id
  · rw [if_neg (fun e => e hpv)] at HR
    rw [decide_eq_true hpv] at EB
    clear hpv
    refine wp_region_by [Is (.pointer (some ⟨gh, 1, none⟩)), Is (iv h.p), Is (.pointer (some ⟨g, 0, none⟩)), Is (.pointer (some ⟨g, 0, none⟩)), Is (.pointer (some ⟨g, 219, none⟩)), Is (.pointer (some ⟨g, 287, none⟩)), Is (iv p.last.id), Is (.bool false)] [[], [(0, some 10)], [], [(2, some 12)], [(3, some 13)], [(4, some 14)], [(5, some 15)], [(1, some 11), (6, some 16)]] [(0, some 10), (1, some 11), (2, some 12), (3, some 13), (4, some 14), (5, some 15), (6, some 16), (7, some 17)] [0, 1, 0, 4, 12, 28, 60, 127]
      (by kernel_rfl) (by kernel_rfl) (by kernel_rfl) (by kernel_rfl) ⟨Is.kept _, Is.kept _, Is.kept _, Is.kept _, Is.kept _, Is.kept _, Is.kept _, Is.kept _, trivial⟩ ⟨?_, ?_, ?_, ?_, ?_, ?_, ?_, ?_, trivial⟩ ?_
    · as_aux_lemma =>
      refine fun w' hB => ?_
      show wpList _ _ _ _ _ _
      go_wp2_with fail
      exact ⟨.pointer (some ⟨gh, 1, none⟩), by first | rfl | (go_simp; done), rfl, Below.refl _ _⟩
    · as_aux_lemma =>
      refine fun w' hB v0 h0 => ?_
      obtain rfl := h0
      show wpList _ _ _ _ _ _
      go_wp2_with (first | refine ld_id rfl (.tmp 10) rfl gh 1 h.p rfl (hd_prevR (block_keep hB KH.out)) ?_)
      exact ⟨_, rfl, rfl, Below.refl _ _⟩
    · as_aux_lemma =>
      refine fun w' hB => ?_
      show wpList _ _ _ _ _ _
      go_wp2_with fail
      exact ⟨.pointer (some ⟨g, 0, none⟩), by first | rfl | (go_simp; done), rfl, Below.refl _ _⟩
    · as_aux_lemma =>
      refine fun w' hB v2 h2 => ?_
      obtain rfl := h2
      show wpList _ _ _ _ _ _
      go_wp2_with fail
      exact ⟨.pointer (some ⟨g, 0, none⟩), by first | rfl | (go_simp; done), rfl, Below.refl _ _⟩
    · as_aux_lemma =>
      refine fun w' hB v3 h3 => ?_
      obtain rfl := h3
      show wpList _ _ _ _ _ _
      go_wp2_with fail
      exact ⟨.pointer (some ⟨g, 219, none⟩), by first | rfl | (go_simp; done), rfl, Below.refl _ _⟩
    · as_aux_lemma =>
      refine fun w' hB v4 h4 => ?_
      obtain rfl := h4
      show wpList _ _ _ _ _ _
      go_wp2_with fail
      exact ⟨.pointer (some ⟨g, 287, none⟩), by first | rfl | (go_simp; done), rfl, Below.refl _ _⟩
    · as_aux_lemma =>
      refine fun w' hB v5 h5 => ?_
      obtain rfl := h5
      show wpList _ _ _ _ _ _
      go_wp2_with (first | refine ld_id rfl (.tmp 15) rfl g 287 p.last.id rfl (K.out.keep hB).lastId ?_)
      exact ⟨_, rfl, rfl, Below.refl _ _⟩
    · as_aux_lemma =>
      refine fun w' hB v1 h1 v6 h6 => ?_
      obtain rfl := h1
      obtain rfl := h6
      show wpList _ _ _ _ _ _
      have eq := EB.out w'
      go_wp2_with fail
      exact ⟨_, rfl, rfl, Below.refl _ _⟩
    · refine fun w' hB v0 h0 v1 h1 v2 h2 v3 h3 v4 h4 v5 h5 v6 h6 v7 h7 => ?_
      obtain rfl := h7
      simp only [onP]
      go_simp
      clear h0 h1 h2 h3 h4 h5 h6
      have B2 := Lib.hid (below_next B.out hB); have KN2 := Lib.hid (block_keep hB KN.out); have K2 := Lib.hid (K.out.keep hB); have KH2 := Lib.hid (block_keep hB KH.out)
      clear hB K KH KN B EB
      have cp := Lib.hid fun V => proved_any h hh p.rules.limit hll V
      obtain ⟨E, hE⟩ : ∃ E, E = hpr h p.rules.limit := ⟨_, rfl⟩
      rw [← hE] at cp HR
      clear hE
      go_wp2_with fail
      refine wp_region_by [Is (hdv h), Is (.pointer (some ⟨g, 0, none⟩)), Is (.pointer (some ⟨g, 0, none⟩)), Is (.pointer (some ⟨g, 0, none⟩)), Is (.pointer (some ⟨g, 0, none⟩)), Is (.int .u32 p.rules.limit), Is (.int .i64 (E : Nat)), Is (.int .i64 (E : Nat))] [[], [], [(1, some 20)], [(2, some 21)], [(3, some 22)], [(4, some 23)], [(0, some 19), (5, some 24)], [(6, some 25)]] [(0, some 19), (1, some 20), (2, some 21), (3, some 22), (4, some 23), (5, some 24), (6, some 25), (7, some 6)] [0, 0, 2, 6, 14, 30, 63, 127]
        (by kernel_rfl) (by kernel_rfl) (by kernel_rfl) (by kernel_rfl) ⟨Is.kept _, Is.kept _, Is.kept _, Is.kept _, Is.kept _, Is.kept _, Is.kept _, Is.kept _, trivial⟩ ⟨?_, ?_, ?_, ?_, ?_, ?_, ?_, ?_, trivial⟩ ?_
      · as_aux_lemma =>
        refine fun w' hB => ?_
        show wpList _ _ _ _ _ _
        go_wp2_with (first | refine wpList_load_hd rfl (.tmp 3) rfl gh h rfl (block_keep hB KH2.out) ?_)
        exact ⟨_, rfl, rfl, Below.refl _ _⟩
      · as_aux_lemma =>
        refine fun w' hB => ?_
        show wpList _ _ _ _ _ _
        go_wp2_with fail
        exact ⟨.pointer (some ⟨g, 0, none⟩), by first | rfl | (go_simp; done), rfl, Below.refl _ _⟩
      · as_aux_lemma =>
        refine fun w' hB v1 h1 => ?_
        obtain rfl := h1
        show wpList _ _ _ _ _ _
        go_wp2_with fail
        exact ⟨.pointer (some ⟨g, 0, none⟩), by first | rfl | (go_simp; done), rfl, Below.refl _ _⟩
      · as_aux_lemma =>
        refine fun w' hB v2 h2 => ?_
        obtain rfl := h2
        show wpList _ _ _ _ _ _
        go_wp2_with fail
        exact ⟨.pointer (some ⟨g, 0, none⟩), by first | rfl | (go_simp; done), rfl, Below.refl _ _⟩
      · as_aux_lemma =>
        refine fun w' hB v3 h3 => ?_
        obtain rfl := h3
        show wpList _ _ _ _ _ _
        go_wp2_with fail
        exact ⟨.pointer (some ⟨g, 0, none⟩), by first | rfl | (go_simp; done), rfl, Below.refl _ _⟩
      · as_aux_lemma =>
        refine fun w' hB v4 h4 => ?_
        obtain rfl := h4
        show wpList _ _ _ _ _ _
        have c := (K2.out.keep hB).limitC
        go_wp2_with fail
        exact ⟨_, rfl, rfl, Below.refl _ _⟩
      · as_aux_lemma =>
        refine fun w' hB v0 h0 v5 h5 => ?_
        obtain rfl := h0
        obtain rfl := h5
        show wpList _ _ _ _ _ _
        go_wp2_with fail
        refine (cp.out w').mono ?_
        rintro e w2 ⟨rfl, hb2⟩
        go_wp2_with fail
        exact ⟨.int .i64 (E : Nat), by first | rfl | (go_simp; done), rfl, hb2⟩
      · as_aux_lemma =>
        refine fun w' hB v6 h6 => ?_
        obtain rfl := h6
        show wpList _ _ _ _ _ _
        go_wp2_with fail
        exact ⟨.int .i64 (E : Nat), by first | rfl | (go_simp; done), rfl, Below.refl _ _⟩
      · refine fun w' hB v0 h0 v1 h1 v2 h2 v3 h3 v4 h4 v5 h5 v6 h6 v7 h7 => ?_
        obtain rfl := h7
        simp only [onP]
        go_simp
        clear h0 h1 h2 h3 h4 h5 h6
        have B3 := Lib.hid (below_next B2.out hB); have KN3 := Lib.hid (block_keep hB KN2.out); have K3 := Lib.hid (K2.out.keep hB); have KH3 := Lib.hid (block_keep hB KH2.out)
        clear hB K2 KH2 KN2 B2 cp
        by_cases hE0 : E = 0
        · subst hE0
          rw [if_neg (fun e => e rfl)] at HR
          rw [show ((k + 1 : Nat) : Int) = (k : Int) + 1 from rfl] at HR
          have HCK : Hid (∀ V : World, PsIs V g vb vr p → V.cell? ⟨g, 321, none⟩ = some (.int .i64 (k : Int))) := Lib.hid fun V hV => by rw [← HK.out]; exact hV.lastHeight
          have ch := Lib.hid fun V => hid_any h hh V
          obtain ⟨I, hI⟩ : ∃ I, I = hdid h := ⟨_, rfl⟩
          rw [← hI] at ch HR
          have zN := block_lt KN3.out
          clear hI
          go_wp2_with fail
          refine wp_region_new 11 (fun j => decide (j = 10)) [Is (hdv h), Is (hdv h), Is (iv I), Is (.pointer (some ⟨g, 0, none⟩)), Is (.pointer (some ⟨g, 0, none⟩)), Is (.pointer (some ⟨g, 219, none⟩)), Is (.pointer (some ⟨g, 321, none⟩)), Is (.int .i64 k), Is (.int .i64 (k + 1)), Is (ndv ⟨h, I, 0, 0, (k : Int) + 1, 0, false⟩), BoxOf (.cells Try.zeroCells69 69 (0, 0))] [[], [], [(1, some 31)], [], [(3, some 33)], [(4, some 34)], [(5, some 35)], [(6, some 36)], [(7, some 37)], [(0, some 30), (2, some 32), (8, some 38)], [], [(9, some 39), (10, some 7)]] [(0, some 30), (1, some 31), (2, some 32), (3, some 33), (4, some 34), (5, some 35), (6, some 36), (7, some 37), (8, some 38), (9, some 39), (10, some 7)] [0, 0, 2, 0, 8, 24, 56, 120, 248, 511, 0, 2047]
            (by kernel_rfl) (by kernel_rfl) (by kernel_rfl) (by kernel_rfl) (by kernel_rfl) ⟨Is.kept _, Is.kept _, Is.kept _, Is.kept _, Is.kept _, Is.kept _, Is.kept _, Is.kept _, Is.kept _, Is.kept _, BoxOf.kept _, trivial⟩ ⟨?_, ?_, ?_, ?_, ?_, ?_, ?_, ?_, ?_, ?_, ?_, trivial⟩ ?_
          · as_aux_lemma =>
            refine fun w' hB => ?_
            show wpList _ _ _ _ _ _
            go_wp2_with (first | refine wpList_load_hd rfl (.tmp 3) rfl gh h rfl (block_keep hB KH3.out) ?_)
            exact ⟨_, rfl, rfl, Below.refl _ _, fun h => absurd h (by decide)⟩
          · as_aux_lemma =>
            refine fun w' hB => ?_
            show wpList _ _ _ _ _ _
            go_wp2_with (first | refine wpList_load_hd rfl (.tmp 3) rfl gh h rfl (block_keep hB KH3.out) ?_)
            exact ⟨_, rfl, rfl, Below.refl _ _, fun h => absurd h (by decide)⟩
          · as_aux_lemma =>
            refine fun w' hB v1 h1 => ?_
            obtain rfl := h1
            show wpList _ _ _ _ _ _
            go_wp2_with fail
            refine (ch.out w').mono ?_
            rintro e w2 ⟨rfl, hb2⟩
            go_wp2_with fail
            exact ⟨iv I, by first | rfl | (go_simp; done), rfl, hb2, fun h => absurd h (by decide)⟩
          · as_aux_lemma =>
            refine fun w' hB => ?_
            show wpList _ _ _ _ _ _
            go_wp2_with fail
            exact ⟨.pointer (some ⟨g, 0, none⟩), by first | rfl | (go_simp; done), rfl, Below.refl _ _, fun h => absurd h (by decide)⟩
          · as_aux_lemma =>
            refine fun w' hB v3 h3 => ?_
            obtain rfl := h3
            show wpList _ _ _ _ _ _
            go_wp2_with fail
            exact ⟨.pointer (some ⟨g, 0, none⟩), by first | rfl | (go_simp; done), rfl, Below.refl _ _, fun h => absurd h (by decide)⟩
          · as_aux_lemma =>
            refine fun w' hB v4 h4 => ?_
            obtain rfl := h4
            show wpList _ _ _ _ _ _
            go_wp2_with fail
            exact ⟨.pointer (some ⟨g, 219, none⟩), by first | rfl | (go_simp; done), rfl, Below.refl _ _, fun h => absurd h (by decide)⟩
          · as_aux_lemma =>
            refine fun w' hB v5 h5 => ?_
            obtain rfl := h5
            show wpList _ _ _ _ _ _
            go_wp2_with fail
            exact ⟨.pointer (some ⟨g, 321, none⟩), by first | rfl | (go_simp; done), rfl, Below.refl _ _, fun h => absurd h (by decide)⟩
          · as_aux_lemma =>
            refine fun w' hB v6 h6 => ?_
            obtain rfl := h6
            show wpList _ _ _ _ _ _
            have c := HCK.out _ (K3.out.keep hB)
            go_wp2_with fail
            exact ⟨_, rfl, rfl, Below.refl _ _, fun h => absurd h (by decide)⟩
          · as_aux_lemma =>
            refine fun w' hB v7 h7 => ?_
            obtain rfl := h7
            show wpList _ _ _ _ _ _
            go_wp2_with fail
            exact ⟨.int .i64 (k + 1), by first | rfl | (go_simp; done), rfl, Below.refl _ _, fun h => absurd h (by decide)⟩
          · as_aux_lemma =>
            refine fun w' hB v0 h0 v2 h2 v8 h8 => ?_
            obtain rfl := h0
            obtain rfl := h2
            obtain rfl := h8
            show wpList _ _ _ _ _ _
            go_wp2_with (first | refine wpList_build_nd rfl (.tmp 30) (.tmp 32) (.tmp 38) rfl h I ((k : Int) + 1) rfl rfl rfl ?_)
            exact ⟨_, rfl, rfl, Below.refl _ _, fun h => absurd h (by decide)⟩
          · as_aux_lemma =>
            refine fun w' hB => ?_
            show wpList _ _ _ _ _ _
            go_wp2_with fail
            exact ⟨_, rfl, ⟨_, rfl, heap_new _ _⟩, below_alloc (Below.refl _ _) _, fun _ => ⟨_, rfl, Nat.le_refl _, by simp⟩⟩
          · refine fun w' G hB hN1 hN2 v0 h0 v1 h1 v2 h2 v3 h3 v4 h4 v5 h5 v6 h6 v7 h7 v8 h8 v9 h9 v10 h10 => ?_
            replace h0 := h0.1
            replace h1 := h1.1
            replace h2 := h2.1
            replace h3 := h3.1
            replace h4 := h4.1
            replace h5 := h5.1
            replace h6 := h6.1
            replace h7 := h7.1
            replace h8 := h8.1
            replace h9 := h9.1
            obtain ⟨h10, hG10⟩ := h10; replace hG10 := hG10 (by decide)
            have hW10 := hN1 10 (by decide) (by decide)
            clear hN1 hN2
            obtain rfl := h9
            obtain ⟨g10, rfl, hg10⟩ := h10
            obtain ⟨gn10, en10, hge10, hlt10⟩ := hW10
            obtain rfl := Option.some.inj (hG10.trans en10)
            dsimp only at hge10 hlt10
            clear en10
            simp only [onP, List.drop_succ_cons, List.drop_zero]
            go_simp
            clear h0 h1 h2 h3 h4 h5 h6 h7 h8
            have HG10 := Lib.hid (hg10.trans (congrArg some ndzb))
            have hgn : gh + 1 < g10 := by omega
            go_wp2_with (first | (refine st_nd rfl (.tmp 7) (.tmp 39) rfl g10 nd0 ⟨h, I, 0, 0, (k : Int) + 1, 0, false⟩ rfl rfl HG10.out (fun w4 h1 h2 h3 h4 => ?_); have hB4 := h4 _ _ hge10 hB; have KX4 := Lib.hid h1; have B4 := Lib.hid (below_next B3.out hB4); have KN4 := Lib.hid (block_keep hB4 KN3.out); have K4 := Lib.hid (K3.out.keep hB4); have KH4 := Lib.hid (block_keep hB4 KH3.out); clear h1 h2 h3 h4 hB4))
            clear hB K3 KH3 KN3 B3 ch HG10 hg10 hge10 hlt10 HCK zN
            obtain ⟨m, hm⟩ : ∃ m, m = mayP p.rules (k + 1) p.last.h.b h.b := ⟨_, rfl⟩
            have cm : Hid (∀ V, Calls Try.prog 43 #[rlv p.rules, .int .i64 ((k : Int) + 1), .int .u32 (p.last.h.b : Int), .int .u32 (h.b : Int)] V fun e w' => e = .returned (.bool m) ∧ Below V.heap.size V w') := Lib.hid fun V => hm ▸ may_any p.rules hll he0 he1 hs0 hs1 (k + 1) (by omega) p.last.h.b h.b hlb hh.2.2.2.2.1 V
            rw [← hm] at HR
            clear hm
            refine wp_region_by [Is (.pointer (some ⟨g, 0, none⟩)), Is (.pointer (some ⟨g, 0, none⟩)), Is (.pointer (some ⟨g, 0, none⟩)), Is (rlv p.rules), Is (.pointer (some ⟨g10, 102, none⟩)), Is (.int .i64 (k + 1)), Is (.pointer (some ⟨g, 0, none⟩)), Is (.pointer (some ⟨g, 0, none⟩)), Is (.pointer (some ⟨g, 219, none⟩)), Is (.pointer (some ⟨g, 219, none⟩)), Is (.pointer (some ⟨g, 285, none⟩)), Is (.int .u32 p.last.h.b), Is (.pointer (some ⟨gh, 66, none⟩)), Is (.int .u32 h.b), Is (.bool m), Is (.bool (!m))] [[], [(0, some 40)], [(1, some 41)], [(2, some 42)], [], [(4, some 44)], [], [(6, some 46)], [(7, some 47)], [(8, some 48)], [(9, some 49)], [(10, some 50)], [], [(12, some 52)], [(3, some 43), (5, some 45), (11, some 51), (13, some 53)], [(14, some 54)]] [(0, some 40), (1, some 41), (2, some 42), (3, some 43), (4, some 44), (5, some 45), (6, some 46), (7, some 47), (8, some 48), (9, some 49), (10, some 50), (11, some 51), (12, some 52), (13, some 53), (14, some 54), (15, some 55)] [0, 1, 3, 7, 0, 16, 0, 64, 192, 448, 960, 1984, 0, 4096, 16383, 32767]
              (by kernel_rfl) (by kernel_rfl) (by kernel_rfl) (by kernel_rfl) ⟨Is.kept _, Is.kept _, Is.kept _, Is.kept _, Is.kept _, Is.kept _, Is.kept _, Is.kept _, Is.kept _, Is.kept _, Is.kept _, Is.kept _, Is.kept _, Is.kept _, Is.kept _, Is.kept _, trivial⟩ ⟨?_, ?_, ?_, ?_, ?_, ?_, ?_, ?_, ?_, ?_, ?_, ?_, ?_, ?_, ?_, ?_, trivial⟩ ?_
            · as_aux_lemma =>
              refine fun w' hB => ?_
              show wpList _ _ _ _ _ _
              go_wp2_with fail
              exact ⟨.pointer (some ⟨g, 0, none⟩), by first | rfl | (go_simp; done), rfl, Below.refl _ _⟩
            · as_aux_lemma =>
              refine fun w' hB v0 h0 => ?_
              obtain rfl := h0
              show wpList _ _ _ _ _ _
              go_wp2_with fail
              exact ⟨.pointer (some ⟨g, 0, none⟩), by first | rfl | (go_simp; done), rfl, Below.refl _ _⟩
            · as_aux_lemma =>
              refine fun w' hB v1 h1 => ?_
              obtain rfl := h1
              show wpList _ _ _ _ _ _
              go_wp2_with fail
              exact ⟨.pointer (some ⟨g, 0, none⟩), by first | rfl | (go_simp; done), rfl, Below.refl _ _⟩
            · as_aux_lemma =>
              refine fun w' hB v2 h2 => ?_
              obtain rfl := h2
              show wpList _ _ _ _ _ _
              go_wp2_with (first | refine ld_rl rfl (.tmp 42) rfl g 0 p.rules rfl (K4.out.keep hB).rulesR ?_)
              exact ⟨_, rfl, rfl, Below.refl _ _⟩
            · as_aux_lemma =>
              refine fun w' hB => ?_
              show wpList _ _ _ _ _ _
              go_wp2_with fail
              exact ⟨.pointer (some ⟨g10, 102, none⟩), by first | rfl | (go_simp; done), rfl, Below.refl _ _⟩
            · as_aux_lemma =>
              refine fun w' hB v4 h4 => ?_
              obtain rfl := h4
              show wpList _ _ _ _ _ _
              have c : w'.cell? ⟨g10, 102, none⟩ = some (.int .i64 ((k : Int) + 1)) := nd_height (block_keep hB KX4.out)
              go_wp2_with fail
              exact ⟨_, rfl, rfl, Below.refl _ _⟩
            · as_aux_lemma =>
              refine fun w' hB => ?_
              show wpList _ _ _ _ _ _
              go_wp2_with fail
              exact ⟨.pointer (some ⟨g, 0, none⟩), by first | rfl | (go_simp; done), rfl, Below.refl _ _⟩
            · as_aux_lemma =>
              refine fun w' hB v6 h6 => ?_
              obtain rfl := h6
              show wpList _ _ _ _ _ _
              go_wp2_with fail
              exact ⟨.pointer (some ⟨g, 0, none⟩), by first | rfl | (go_simp; done), rfl, Below.refl _ _⟩
            · as_aux_lemma =>
              refine fun w' hB v7 h7 => ?_
              obtain rfl := h7
              show wpList _ _ _ _ _ _
              go_wp2_with fail
              exact ⟨.pointer (some ⟨g, 219, none⟩), by first | rfl | (go_simp; done), rfl, Below.refl _ _⟩
            · as_aux_lemma =>
              refine fun w' hB v8 h8 => ?_
              obtain rfl := h8
              show wpList _ _ _ _ _ _
              go_wp2_with fail
              exact ⟨.pointer (some ⟨g, 219, none⟩), by first | rfl | (go_simp; done), rfl, Below.refl _ _⟩
            · as_aux_lemma =>
              refine fun w' hB v9 h9 => ?_
              obtain rfl := h9
              show wpList _ _ _ _ _ _
              go_wp2_with fail
              exact ⟨.pointer (some ⟨g, 285, none⟩), by first | rfl | (go_simp; done), rfl, Below.refl _ _⟩
            · as_aux_lemma =>
              refine fun w' hB v10 h10 => ?_
              obtain rfl := h10
              show wpList _ _ _ _ _ _
              have c := (K4.out.keep hB).lastBits
              go_wp2_with fail
              exact ⟨_, rfl, rfl, Below.refl _ _⟩
            · as_aux_lemma =>
              refine fun w' hB => ?_
              show wpList _ _ _ _ _ _
              go_wp2_with fail
              exact ⟨.pointer (some ⟨gh, 66, none⟩), by first | rfl | (go_simp; done), rfl, Below.refl _ _⟩
            · as_aux_lemma =>
              refine fun w' hB v12 h12 => ?_
              obtain rfl := h12
              show wpList _ _ _ _ _ _
              have c := hd_bC (block_keep hB KH4.out)
              go_wp2_with fail
              exact ⟨_, rfl, rfl, Below.refl _ _⟩
            · as_aux_lemma =>
              refine fun w' hB v3 h3 v5 h5 v11 h11 v13 h13 => ?_
              obtain rfl := h3
              obtain rfl := h5
              obtain rfl := h11
              obtain rfl := h13
              show wpList _ _ _ _ _ _
              go_wp2_with fail
              refine (cm.out w').mono ?_
              rintro e w2 ⟨rfl, hb2⟩
              go_wp2_with fail
              exact ⟨.bool m, by first | rfl | (go_simp; done), rfl, hb2⟩
            · as_aux_lemma =>
              refine fun w' hB v14 h14 => ?_
              obtain rfl := h14
              show wpList _ _ _ _ _ _
              go_wp2_with fail
              exact ⟨.bool (!m), by first | rfl | (go_simp; done), rfl, Below.refl _ _⟩
            · refine fun w' hB v0 h0 v1 h1 v2 h2 v3 h3 v4 h4 v5 h5 v6 h6 v7 h7 v8 h8 v9 h9 v10 h10 v11 h11 v12 h12 v13 h13 v14 h14 v15 h15 => ?_
              obtain rfl := h15
              simp only [onP]
              go_simp
              clear h0 h1 h2 h3 h4 h5 h6 h7 h8 h9 h10 h11 h12 h13 h14
              have B5 := Lib.hid (below_next B4.out hB); have KN5 := Lib.hid (block_keep hB KN4.out); have K5 := Lib.hid (K4.out.keep hB); have KH5 := Lib.hid (block_keep hB KH4.out); have KX5 := Lib.hid (block_keep hB KX4.out)
              clear hB K4 KH4 KN4 B4 KX4 cm
              cases m
              · rw [if_pos rfl] at HR
                go_wp2_with (first | refine wpList_build_of rfl 69 #[] rfl (ndL nd0).toArray bld_nd0 ?_ | refine st_nd rfl (.tmp 4) (.tmp 56) rfl (gh + 1) nd0 nd0 rfl rfl KN5.out (fun w5 h1 h2 h3 h4 => ?_))
                have hl := loadVar_nd h1
                exact bodyPost_ret (v := .tuple #[ndv nd0, .int .i64 30]) (by simp [results, Try.results86, asAddr, hl]) rfl ⟨by rw [HR.out]; rfl, h4 _ _ (by rw [HG.out]; omega) B5.out⟩
              · rw [if_neg (by decide)] at HR
                have ct := Lib.hid fun V => target_any h.b hh.2.2.2.2.1 V
                have HTL := Lib.hid (tgt_lt h.b)
                obtain ⟨t, ht⟩ : ∃ t, t = (tgt h.b).1 := ⟨_, rfl⟩
                obtain ⟨s, hs⟩ : ∃ s, s = (tgt h.b).2 := ⟨_, rfl⟩
                rw [← ht] at HTL HR
                rw [← ht, ← hs] at ct
                clear ht hs
                have c66 := hd_bC KH5.out
                go_wp2_with fail
                refine (ct.out _).mono ?_
                rintro e w6 ⟨rfl, hb⟩
                have hz6 := hb.size
                clear c66
                go_wp2_with (first | (refine wpList_store_nv rfl (.tmp 8) (.tmp 61) rfl w6.heap.size 0 t rfl rfl (heap_new w6 _) (fun w7 h1 h2 h3 h4 => ?_); have hB7 := h4 _ _ hz6 (below_alloc hb (nbk 0)); have KT := Lib.hid h1; have B7 := Lib.hid (below_next B5.out hB7); have KN7 := Lib.hid (block_keep hB7 KN5.out); have K7 := Lib.hid (K5.out.keep hB7); have KX7 := Lib.hid (block_keep hB7 KX5.out); clear h1 h2 h3 h4 hB7))
                clear hb B5 KN5 K5 KH5 KX5 ct hz6
                obtain ⟨g8, hg8⟩ : ∃ g, g = w6.heap.size := ⟨_, rfl⟩
                rw [← hg8] at KT
                rw [← hg8]
                clear hg8
                have cw := Lib.hid fun V => work_any t HTL.out V
                have HWL := Lib.hid (wk_lt t)
                obtain ⟨W0, hW0⟩ : ∃ W0, W0 = wrk t := ⟨_, rfl⟩
                rw [← hW0] at cw HWL HR
                obtain ⟨Wl, hWl⟩ : ∃ Wl, Wl = p.last.work := ⟨_, rfl⟩
                have HWl : Hid (∀ V : World, PsIs V g vb vr p → V.rangeAt g 322 (nvs Wl)) := Lib.hid fun V hV => by rw [hWl]; exact hV.lastWork
                rw [← hWl] at hlw HR
                clear hW0 hWl
                have ca := Lib.hid fun (V : World) (g : Nat) hg => add2_any Wl W0 hlw HWL.out g 47 V hg
                obtain ⟨S, hS⟩ : ∃ S, S = (Wl + W0) % 2 ^ 256 := ⟨_, rfl⟩
                obtain ⟨ov, hov⟩ : ∃ ov, ov = decide (2 ^ 256 ≤ Wl + W0) := ⟨_, rfl⟩
                rw [← hS, ← hov] at ca
                rw [← hS] at HR
                clear hS hov
                refine wp_region_z 13 [11] (fun j => decide (j = 7) || false) [Is (.pointer (some ⟨g, 0, none⟩)), Is (.pointer (some ⟨g, 0, none⟩)), Is (.pointer (some ⟨g, 219, none⟩)), Is (.pointer (some ⟨g, 322, none⟩)), Is (nv Wl), Is (nv t), Is (nv W0), RowOf #[.int .u64 (lw Wl 0), .int .u64 (lw Wl 1), .int .u64 (lw Wl 2), .int .u64 (lw Wl 3), .int .u64 (lw W0 0), .int .u64 (lw W0 1), .int .u64 (lw W0 2), .int .u64 (lw W0 3)] 47 2 2, Is (.tuple #[nv S, .bool ov]), Is (.tuple #[nv S, .bool ov]), Is (nv S), Is (.bool ov), Is (.pointer (some ⟨g10, 103, none⟩))] [[], [(0, some 64)], [(1, some 65)], [(2, some 66)], [(3, some 67)], [], [(5, some 69)], [(4, some 68), (6, some 70)], [(7, some 71)], [(8, some 72)], [(9, some 63)], [(9, some 63)], [], [(10, some 73), (12, some 75)]] [(0, some 64), (1, some 65), (2, some 66), (3, some 67), (4, some 68), (5, some 69), (6, some 70), (7, some 71), (8, some 72), (9, some 63), (10, some 73), (11, some 74), (12, some 75)] [0, 1, 3, 7, 15, 0, 32, 127, 255, 511, 1023, 1023, 2047, 6143]
                  (by kernel_rfl) (by kernel_rfl) (by kernel_rfl) (by kernel_rfl) (by kernel_rfl) ⟨Is.kept _, Is.kept _, Is.kept _, Is.kept _, Is.kept _, Is.kept _, Is.kept _, RowOf.kept _ _ _ _, Is.kept _, Is.kept _, Is.kept _, Is.kept _, Is.kept _, trivial⟩ ⟨?_, trivial⟩ ⟨?_, ?_, ?_, ?_, ?_, ?_, ?_, ?_, ?_, ?_, ?_, ?_, ?_, trivial⟩ ?_
                · as_aux_lemma =>
                  refine fun w' hB => (show onP _ w' [(9, some 63)] _ _ from ?_)
                  refine fun v9 h9 => ?_
                  obtain rfl := h9
                  exact ⟨_, .bool ov, rfl, Or.inl ⟨by rfl, fun w => by go_simp⟩⟩
                · as_aux_lemma =>
                  refine fun w' hB => ?_
                  show wpList _ _ _ _ _ _
                  go_wp2_with fail
                  exact ⟨.pointer (some ⟨g, 0, none⟩), by first | rfl | (go_simp; done), rfl, Below.refl _ _, fun h => absurd h (by decide)⟩
                · as_aux_lemma =>
                  refine fun w' hB v0 h0 => ?_
                  obtain rfl := h0
                  show wpList _ _ _ _ _ _
                  go_wp2_with fail
                  exact ⟨.pointer (some ⟨g, 0, none⟩), by first | rfl | (go_simp; done), rfl, Below.refl _ _, fun h => absurd h (by decide)⟩
                · as_aux_lemma =>
                  refine fun w' hB v1 h1 => ?_
                  obtain rfl := h1
                  show wpList _ _ _ _ _ _
                  go_wp2_with fail
                  exact ⟨.pointer (some ⟨g, 219, none⟩), by first | rfl | (go_simp; done), rfl, Below.refl _ _, fun h => absurd h (by decide)⟩
                · as_aux_lemma =>
                  refine fun w' hB v2 h2 => ?_
                  obtain rfl := h2
                  show wpList _ _ _ _ _ _
                  go_wp2_with fail
                  exact ⟨.pointer (some ⟨g, 322, none⟩), by first | rfl | (go_simp; done), rfl, Below.refl _ _, fun h => absurd h (by decide)⟩
                · as_aux_lemma =>
                  refine fun w' hB v3 h3 => ?_
                  obtain rfl := h3
                  show wpList _ _ _ _ _ _
                  go_wp2_with (first | refine wpList_load_nr rfl (.tmp 67) rfl g 322 Wl rfl (HWl.out _ (K7.out.keep hB)) ?_)
                  exact ⟨nv Wl, rfl, rfl, Below.refl _ _, fun h => absurd h (by decide)⟩
                · as_aux_lemma =>
                  refine fun w' hB => ?_
                  show wpList _ _ _ _ _ _
                  go_wp2_with (first | refine wpList_load_nv rfl (.tmp 8) rfl g8 t rfl (block_keep hB KT.out) ?_)
                  exact ⟨nv t, rfl, rfl, Below.refl _ _, fun h => absurd h (by decide)⟩
                · as_aux_lemma =>
                  refine fun w' hB v5 h5 => ?_
                  obtain rfl := h5
                  show wpList _ _ _ _ _ _
                  go_wp2_with fail
                  refine (cw.out w').mono ?_
                  rintro e w2 ⟨rfl, hb2⟩
                  go_wp2_with fail
                  exact ⟨nv W0, by first | rfl | (go_simp; done), rfl, hb2, fun h => absurd h (by decide)⟩
                · as_aux_lemma =>
                  refine fun w' hB v4 h4 v6 h6 => ?_
                  obtain rfl := h4
                  obtain rfl := h6
                  show wpList _ _ _ _ _ _
                  go_wp2_with (first | refine wpList_build_num2 rfl (.tmp 68) (.tmp 70) Wl W0 rfl rfl rfl ?_)
                  exact ⟨_, rfl, ⟨_, rfl, heap_new _ _⟩, below_alloc (Below.refl _ _) _, fun _ => ⟨_, rfl, Nat.le_refl _, by simp⟩⟩
                · as_aux_lemma =>
                  refine fun w' hB v7 h7 => ?_
                  obtain ⟨g7, rfl, hg7⟩ := h7
                  show wpList _ _ _ _ _ _
                  go_wp2_with fail
                  refine (ca.out _ _ hg7).mono ?_
                  rintro e w2 ⟨rfl, hb2⟩
                  go_wp2_with fail
                  exact ⟨.tuple #[nv S, .bool ov], by first | rfl | (go_simp; done), rfl, hb2, fun h => absurd h (by decide)⟩
                · as_aux_lemma =>
                  refine fun w' hB v8 h8 => ?_
                  obtain rfl := h8
                  show wpList _ _ _ _ _ _
                  go_wp2_with fail
                  exact ⟨.tuple #[nv S, .bool ov], by first | rfl | (go_simp; done), rfl, Below.refl _ _, fun h => absurd h (by decide)⟩
                · as_aux_lemma =>
                  refine fun w' hB v9 h9 => ?_
                  obtain rfl := h9
                  show wpList _ _ _ _ _ _
                  go_wp2_with fail
                  exact ⟨nv S, by first | rfl | (go_simp; done), rfl, Below.refl _ _, fun h => absurd h (by decide)⟩
                · as_aux_lemma =>
                  refine fun w' hB v9 h9 => ?_
                  obtain rfl := h9
                  show wpList _ _ _ _ _ _
                  go_wp2_with fail
                  exact ⟨.bool ov, by first | rfl | (go_simp; done), rfl, Below.refl _ _, fun h => absurd h (by decide)⟩
                · as_aux_lemma =>
                  refine fun w' hB => ?_
                  show wpList _ _ _ _ _ _
                  go_wp2_with fail
                  exact ⟨.pointer (some ⟨g10, 103, none⟩), by first | rfl | (go_simp; done), rfl, Below.refl _ _, fun h => absurd h (by decide)⟩
                · refine fun w' G hB hN1 hN2 v0 h0 v1 h1 v2 h2 v3 h3 v4 h4 v5 h5 v6 h6 v7 h7 v8 h8 v9 h9 v10 h10 v11 h11 v12 h12 => ?_
                  replace h0 := h0.1
                  replace h1 := h1.1
                  replace h2 := h2.1
                  replace h3 := h3.1
                  replace h4 := h4.1
                  replace h5 := h5.1
                  replace h6 := h6.1
                  obtain ⟨h7, hG7⟩ := h7; replace hG7 := hG7 (by decide)
                  replace h8 := h8.1
                  replace h9 := h9.1
                  replace h10 := h10.1
                  replace h11 := h11.1
                  replace h12 := h12.1
                  have hW7 := hN1 7 (by decide) (by decide)
                  clear hN1 hN2
                  obtain ⟨g7, rfl, hg7⟩ := h7
                  obtain rfl := h10
                  obtain rfl := h11
                  obtain rfl := h12
                  obtain ⟨gn7, en7, hge7, hlt7⟩ := hW7
                  obtain rfl := Option.some.inj (hG7.trans en7)
                  dsimp only at hge7 hlt7
                  clear en7
                  simp only [onP, List.drop_succ_cons, List.drop_zero]
                  go_simp
                  clear h0 h1 h2 h3 h4 h5 h6 h8 h9
                  have B8 := Lib.hid (below_next B7.out hB); have KN8 := Lib.hid (block_keep hB KN7.out); have KX8 := Lib.hid (block_keep hB KX7.out)
                  clear hB B7 KN7 K7 KX7 KT cw ca
                  go_wp2_with (first | (refine st_seg rfl 47 (.tmp 75) (.tmp 73) rfl g10 5 103 (ndS ⟨h, I, 0, 0, (k : Int) + 1, 0, false⟩) 69 (nvs 0) (nvs S) rfl rfl KX8.out rfl (nd_o5 _) rfl num_info (nvs1 S) (fun w9 h1 h2 h3 h4 => ?_); have KX9 : Hid (w9.heap[g10]? = some (ndblk ⟨h, I, 0, 0, (k : Int) + 1, S, false⟩)) := Lib.hid h1; have KN9 := Lib.hid ((h2 (gh + 1) (by omega)).trans KN8.out); have B9 := Lib.hid (h4 _ _ (by rw [HG.out] at hgn; omega) B8.out); clear h1 h2 h3 h4) | refine ld_nd rfl (.tmp 7) rfl g10 0 ⟨h, I, 0, 0, (k : Int) + 1, S, false⟩ rfl (nd_whole KX9.out) ?_ | refine st_nd rfl (.tmp 4) (.tmp 76) rfl (gh + 1) nd0 ⟨h, I, 0, 0, (k : Int) + 1, S, false⟩ rfl rfl KN9.out (fun w10 h1 h2 h3 h4 => ?_))
                  have hl := loadVar_nd h1
                  exact bodyPost_ret (v := .tuple #[ndv ⟨h, I, 0, 0, (k : Int) + 1, S, false⟩, .int .i64 0]) (by simp [results, Try.results86, asAddr, hl]) rfl ⟨by rw [HR.out]; rfl, h4 _ _ (by rw [HG.out]; omega) B9.out⟩
        · rw [if_pos hE0] at HR
          have eE : ((E : Int) == 0) = false := by simp; omega
          go_wp2_with (first | refine wpList_build_of rfl 69 #[] rfl (ndL nd0).toArray bld_nd0 ?_ | refine st_nd rfl (.tmp 4) (.tmp 28) rfl (gh + 1) nd0 nd0 rfl rfl KN3.out (fun w3 h1 h2 h3 h4 => ?_))
          have hl := loadVar_nd h1
          exact bodyPost_ret (v := .tuple #[ndv nd0, .int .i64 E]) (by simp [results, Try.results86, asAddr, hl]) rfl ⟨by rw [HR.out], h4 _ _ (by rw [HG.out]; omega) B3.out⟩
  · rw [if_pos hpv] at HR
    rw [decide_eq_false hpv] at EB
    refine wp_region_by [Is (.pointer (some ⟨gh, 1, none⟩)), Is (iv h.p), Is (.pointer (some ⟨g, 0, none⟩)), Is (.pointer (some ⟨g, 0, none⟩)), Is (.pointer (some ⟨g, 219, none⟩)), Is (.pointer (some ⟨g, 287, none⟩)), Is (iv p.last.id), Is (.bool true)] [[], [(0, some 10)], [], [(2, some 12)], [(3, some 13)], [(4, some 14)], [(5, some 15)], [(1, some 11), (6, some 16)]] [(0, some 10), (1, some 11), (2, some 12), (3, some 13), (4, some 14), (5, some 15), (6, some 16), (7, some 17)] [0, 1, 0, 4, 12, 28, 60, 127]
      (by kernel_rfl) (by kernel_rfl) (by kernel_rfl) (by kernel_rfl) ⟨Is.kept _, Is.kept _, Is.kept _, Is.kept _, Is.kept _, Is.kept _, Is.kept _, Is.kept _, trivial⟩ ⟨?_, ?_, ?_, ?_, ?_, ?_, ?_, ?_, trivial⟩ ?_
    · as_aux_lemma =>
      refine fun w' hB => ?_
      show wpList _ _ _ _ _ _
      go_wp2_with fail
      exact ⟨.pointer (some ⟨gh, 1, none⟩), by first | rfl | (go_simp; done), rfl, Below.refl _ _⟩
    · as_aux_lemma =>
      refine fun w' hB v0 h0 => ?_
      obtain rfl := h0
      show wpList _ _ _ _ _ _
      go_wp2_with (first | refine ld_id rfl (.tmp 10) rfl gh 1 h.p rfl (hd_prevR (block_keep hB KH.out)) ?_)
      exact ⟨_, rfl, rfl, Below.refl _ _⟩
    · as_aux_lemma =>
      refine fun w' hB => ?_
      show wpList _ _ _ _ _ _
      go_wp2_with fail
      exact ⟨.pointer (some ⟨g, 0, none⟩), by first | rfl | (go_simp; done), rfl, Below.refl _ _⟩
    · as_aux_lemma =>
      refine fun w' hB v2 h2 => ?_
      obtain rfl := h2
      show wpList _ _ _ _ _ _
      go_wp2_with fail
      exact ⟨.pointer (some ⟨g, 0, none⟩), by first | rfl | (go_simp; done), rfl, Below.refl _ _⟩
    · as_aux_lemma =>
      refine fun w' hB v3 h3 => ?_
      obtain rfl := h3
      show wpList _ _ _ _ _ _
      go_wp2_with fail
      exact ⟨.pointer (some ⟨g, 219, none⟩), by first | rfl | (go_simp; done), rfl, Below.refl _ _⟩
    · as_aux_lemma =>
      refine fun w' hB v4 h4 => ?_
      obtain rfl := h4
      show wpList _ _ _ _ _ _
      go_wp2_with fail
      exact ⟨.pointer (some ⟨g, 287, none⟩), by first | rfl | (go_simp; done), rfl, Below.refl _ _⟩
    · as_aux_lemma =>
      refine fun w' hB v5 h5 => ?_
      obtain rfl := h5
      show wpList _ _ _ _ _ _
      go_wp2_with (first | refine ld_id rfl (.tmp 15) rfl g 287 p.last.id rfl (K.out.keep hB).lastId ?_)
      exact ⟨_, rfl, rfl, Below.refl _ _⟩
    · as_aux_lemma =>
      refine fun w' hB v1 h1 v6 h6 => ?_
      obtain rfl := h1
      obtain rfl := h6
      show wpList _ _ _ _ _ _
      have eq := EB.out w'
      go_wp2_with fail
      exact ⟨_, rfl, rfl, Below.refl _ _⟩
    · refine fun w' hB v0 h0 v1 h1 v2 h2 v3 h3 v4 h4 v5 h5 v6 h6 v7 h7 => ?_
      obtain rfl := h7
      simp only [onP]
      go_simp
      clear h0 h1 h2 h3 h4 h5 h6
      have B2 := Lib.hid (below_next B.out hB); have KN2 := Lib.hid (block_keep hB KN.out)
      clear hB K KH KN B
      go_wp2_with (first | refine wpList_build_of rfl 69 #[] rfl (ndL nd0).toArray bld_nd0 ?_ | refine st_nd rfl (.tmp 4) (.tmp 18) rfl (gh + 1) nd0 nd0 rfl rfl KN2.out (fun w3 h1 h2 h3 h4 => ?_))
      have hl := loadVar_nd h1
      exact bodyPost_ret (v := .tuple #[ndv nd0, .int .i64 100]) (by simp [results, Try.results86, asAddr, hl]) rfl ⟨by rw [HR.out]; rfl, h4 _ _ (by rw [HG.out]; omega) B2.out⟩
end Go.Proofs.Ytnbppbnjkmopeaa
namespace Go.Proofs.Ytnbppbnjkmopeaa
open Go.RowKit

/-- a header that comes, behind the last one of height k -/
def stp (p : Ps) (h : Hd) (k : Nat) : Ps := if (stepP p h k).2 ≠ 0 then failP p (stepP p h k).2 else if p.phase = 1 then countP p (stepP p h k).1 (k + 1) else againP p (stepP p h k).1 (k + 1)
def Ps.hgt (p : Ps) : Nat := p.last.height.toNat
/-- headers that come while the phase b lasts -/
def runT (b : Nat) : List Hd → Ps → Ps
  | [], p => p
  | h :: l, p => if p.phase = b then (if (stp p h p.hgt).phase = 4 then stp p h p.hgt else runT b l (stp p h p.hgt)) else p
/-- behind a message: headers that wait -/
def keepN (p : Ps) : Nat := p.ready.length - (if p.phase = 3 then 0 else 8)
def takeP (p : Ps) (more : Bool) (l : List Hd) : Ps × List Hd :=
  if p.phase = 3 ∨ p.phase = 4 then (p, [])
  else
    let q := runT p.phase l p
    if q.phase = 4 then (q, [])
    else if q.phase = p.phase ∧ more = false then (failP q 6, [])
    else ({ q with ready := q.ready.drop (keepN q) }, q.ready.take (keepN q))

/-- what holds of it always -/
structure Ps.good (p : Ps) (N : Nat) : Prop where
  lim : p.rules.limit < 4294967296
  e0 : 0 ≤ p.rules.every
  e1 : p.rules.every ≤ 1000
  s0 : 1 ≤ p.rules.spacing
  s1 : p.rules.spacing ≤ 1048576
  need : p.need < 2 ^ 256
  sid : p.start.id < 2 ^ 256
  sb : p.start.h.b < 4294967296
  sw : p.start.work < 2 ^ 256
  sh0 : 0 ≤ p.start.height
  sh1 : p.start.height ≤ N
  lid : p.last.id < 2 ^ 256
  lb : p.last.h.b < 4294967296
  lw : p.last.work < 2 ^ 256
  lh0 : 0 ≤ p.last.height
  lh1 : p.last.height ≤ N
  bits : p.bits.length ≤ 256
  at' : p.at' ≤ p.bits.length ∨ p.phase = 4
  at2 : p.at' ≤ 256
  ready : p.ready.length ≤ N
  rok : ∀ h ∈ p.ready, h.ok
theorem Ps.good.hgt {p : Ps} {N : Nat} (h : p.good N) : p.last.height = (p.hgt : Int) ∧ p.hgt ≤ N := by
  have h1 := h.lh0; have h2 := h.lh1
  unfold Ps.hgt
  omega
theorem Ps.good.mono {p : Ps} {N M : Nat} (h : p.good N) (hm : N ≤ M) : p.good M :=
  { h with sh1 := by have := h.sh1; omega, lh1 := by have := h.lh1; omega, ready := by have := h.ready; omega }
theorem good_fail {p : Ps} {N : Nat} (h : p.good N) (e : Nat) : (failP p e).good N :=
  { h with bits := Nat.zero_le _, at' := .inr rfl, ready := Nat.zero_le _, rok := fun _ hm => by cases hm }
/-- the node of a header -/
def Nd.okn (x : Nd) (k : Nat) : Prop := x.h.ok ∧ x.id < 2 ^ 256 ∧ x.work < 2 ^ 256 ∧ x.height = (k : Int)
theorem good_last {p : Ps} {N k : Nat} (h : p.good N) (x : Nd) (hx : x.okn k) (hk : k ≤ N) : ({ p with last := x } : Ps).good N :=
  { h with lid := hx.2.1, lb := hx.1.2.2.2.2.1, lw := hx.2.2.1, lh0 := by show 0 ≤ x.height; rw [hx.2.2.2]; omega, lh1 := by show x.height ≤ N; rw [hx.2.2.2]; omega }
theorem good_count {p : Ps} {N k : Nat} (h : p.good N) (h1 : p.phase ≠ 4) (x : Nd) (hx : x.okn k) (hk : k ≤ N) : (countP p x k).good N := by
  have hl := good_last h x hx hk
  have ha := h.at'.resolve_right h1
  unfold countP
  split
  · split
    · exact good_fail hl 2
    · rename_i hb
      have hb2 := h.bits
      have g2 : ({ p with last := x, bits := p.bits ++ [hbit p.salt x.id] } : Ps).good N := { hl with bits := by simp; omega, at' := .inl (by simp; omega) }
      unfold cntF
      split
      · exact { g2 with at' := g2.at'.imp id (fun e => absurd e h1), lid := h.sid, lb := h.sb, lw := h.sw, lh0 := h.sh0, lh1 := h.sh1 }
      · exact g2
  · unfold cntF
    split
    · exact { hl with at' := .inl ha, lid := h.sid, lb := h.sb, lw := h.sw, lh0 := h.sh0, lh1 := h.sh1 }
    · exact hl
theorem good_again {p : Ps} {N k : Nat} (h : p.good N) (h1 : p.phase ≠ 4) (x : Nd) (hx : x.okn k) (hk : k ≤ N + 1) : (againP p x k).good (N + 1) := by
  have hl := good_last (h.mono (Nat.le_succ N)) x hx hk
  have hb := h.bits
  have key : ∀ q : Ps, q.good (N + 1) → q.phase ≠ 4 → q.ready = p.ready → (agF q x).good (N + 1) := fun q hq h4 hr => by
    have hr2 : (q.ready ++ [x.h]).length ≤ N + 1 := by rw [hr, List.length_append, List.length_singleton]; have := h.ready; omega
    have hr3 : ∀ y ∈ q.ready ++ [x.h], y.ok := fun y hy => by
      rw [List.mem_append, List.mem_singleton] at hy
      rcases hy with hy | rfl
      · exact hq.rok y hy
      · exact hx.1
    unfold agF
    split
    · exact { hq with at' := .inl (hq.at'.resolve_right h4), ready := hr2, rok := hr3 }
    · exact { hq with ready := hr2, rok := hr3 }
  unfold againP
  split
  · rename_i hc
    split
    · exact key _ { hl with at' := .inl hc.2, at2 := by show p.at' + 1 ≤ 256; omega } h1 rfl
    · exact good_fail hl 150
  · exact key _ hl h1 rfl
theorem okn_step {p : Ps} {h : Hd} (hh : h.ok) (k : Nat) (h0 : (stepP p h k).2 = 0) : (stepP p h k).1.okn (k + 1) := by
  unfold stepP at h0 ⊢
  split
  · rename_i c; rw [if_pos c] at h0; cases h0
  · rename_i c
    rw [if_neg c] at h0
    split
    · rename_i c2; rw [if_pos c2] at h0; exact absurd h0 c2
    · rename_i c2
      rw [if_neg c2] at h0
      split
      · rename_i c3; rw [if_pos c3] at h0; cases h0
      · exact ⟨hh, hdid_lt h, Nat.mod_lt _ (by decide), rfl⟩
theorem good_stp {p : Ps} {N : Nat} (h : p.good N) (h1 : p.phase ≠ 4) (x : Hd) (hx : x.ok) : (stp p x p.hgt).good (N + 1) := by
  have hk := h.hgt.2
  unfold stp
  split
  · exact good_fail (h.mono (Nat.le_succ N)) _
  · rename_i c
    have c0 : (stepP p x p.hgt).2 = 0 := by omega
    have ho := okn_step (p := p) hx p.hgt c0
    split
    · exact good_count (h.mono (Nat.le_succ N)) h1 _ ho (by omega)
    · exact good_again h h1 _ ho (by omega)
theorem good_run (b : Nat) (hb : b ≠ 4) : ∀ (l : List Hd) (p : Ps) (N : Nat), p.good N → (∀ h ∈ l, h.ok) → (runT b l p).good (N + l.length)
  | [], p, N, h, _ => h
  | x :: l, p, N, h, hl => by
    unfold runT
    split
    · rename_i c
      have hs := good_stp h (by rw [c]; exact hb) x (hl x List.mem_cons_self)
      split
      · exact hs.mono (by simp)
      · have := good_run b hb l _ _ hs (fun y hy => hl y (List.mem_cons_of_mem _ hy))
        rw [List.length_cons, show N + (l.length + 1) = N + 1 + l.length by omega]
        exact this
    · exact h.mono (by omega)
theorem good_take {p : Ps} {N : Nat} (h : p.good N) (more : Bool) (l : List Hd) (hl : ∀ h ∈ l, h.ok) : (takeP p more l).1.good (N + l.length) := by
  unfold takeP
  split
  · exact h.mono (by omega)
  · rename_i c
    have hr := good_run p.phase (fun e => c (.inr e)) l p N h hl
    dsimp only
    split
    · exact hr
    · split
      · exact good_fail hr 6
      · exact { hr with ready := by simp; have := hr.ready; omega, rok := fun y hy => hr.rok y (List.mem_of_mem_drop hy) }
theorem take_ok {p : Ps} {N : Nat} (h : p.good N) (more : Bool) (l : List Hd) (hl : ∀ h ∈ l, h.ok) : ∀ y ∈ (takeP p more l).2, y.ok := by
  unfold takeP
  split
  · intro y hy; cases hy
  · rename_i c
    have hr := good_run p.phase (fun e => c (.inr e)) l p N h hl
    dsimp only
    split
    · intro y hy; cases hy
    · split
      · intro y hy; cases hy
      · exact fun y hy => hr.rok y (List.mem_of_mem_take hy)
theorem takeP_long (p : Ps) (more : Bool) (l : List Hd) {N : Nat} (h : p.good N) (hl : ∀ h ∈ l, h.ok) : (takeP p more l).2.length ≤ N + l.length := by
  unfold takeP
  split
  · simp
  · rename_i c
    have hr := good_run p.phase (fun e => c (.inr e)) l p N h hl
    dsimp only
    split
    · simp
    · split
      · simp
      · have := hr.ready
        rw [List.length_take]; omega
end Go.Proofs.Ytnbppbnjkmopeaa
namespace Go.Proofs.Ytnbppbnjkmopeaa
open Go.RowKit

/-- a row of headers, of anybody's -/
def HdRow (w : World) (v : Value) (l : List Hd) : Prop := ∃ x c, v = .slice x l.length c ∧ (x = none → l = [] ∧ c = 0) ∧ ∀ ad, x = some ad → ad.spot = none ∧ HdsAt w ad.block ad.off l
theorem HdRow.nil (w : World) : HdRow w (.slice none 0 0) [] := ⟨none, 0, rfl, fun _ => ⟨rfl, rfl⟩, fun _ e => by cases e⟩
/-- what Take leaves -/
def TakeTo (w w' : World) (g : Nat) (vb vr : Value) (r : Ps × List Hd) (e : Ending) : Prop := ∃ v, e = .returned v ∧ HdRow w' v r.2 ∧ PsTo w w' g vb vr r.1 ∧ (∀ b, v.ownBlock = some b → psD g vb vr b ∨ w.heap.size ≤ b)
/-- what a loop over it leaves -/
def PsAt (w w' : World) (g : Nat) (vb vr : Value) (q : Ps) (vb' vr' : Value) : Prop := PsIs w' g vb' vr' q ∧ Gr (psD g vb vr) w w' ∧ (∀ k, psD g vb' vr' k → psD g vb vr k ∨ w.heap.size ≤ k)
theorem PsAt.start {w : World} {g : Nat} {vb vr : Value} {q : Ps} (h : PsIs w g vb vr q) : PsAt w w g vb vr q vb vr := ⟨h, Gr.refl _ _, fun _ hk => .inl hk⟩
theorem PsAt.to {w w' : World} {g : Nat} {vb vr vb' vr' : Value} {q : Ps} (h : PsAt w w' g vb vr q vb' vr') : PsTo w w' g vb vr q := ⟨vb', vr', h⟩
theorem PsAt.keep {w w1 w2 : World} {g : Nat} {vb vr vb' vr' : Value} {q : Ps} (h : PsAt w w1 g vb vr q vb' vr') (hb : Below w1.heap.size w1 w2) : PsAt w w2 g vb vr q vb' vr' := ⟨h.1.keep hb, h.2.1.next hb, h.2.2⟩
theorem PsAt.next {w w1 w2 : World} {g : Nat} {vb vr vb1 vr1 vb2 vr2 : Value} {q r : Ps} (h : PsAt w w1 g vb vr q vb1 vr1) (k : PsIs w2 g vb2 vr2 r) (hg : Gr (psD g vb1 vr1) w1 w2) (hd : ∀ k, psD g vb2 vr2 k → psD g vb1 vr1 k ∨ w1.heap.size ≤ k) : PsAt w w2 g vb vr r vb2 vr2 := by
  have hz := h.2.1.size
  refine ⟨k, h.2.1.trans hg (fun i hi e => ?_), fun i hi => ?_⟩
  · exact (h.2.2 i e).resolve_right (by omega)
  · rcases hd i hi with e | e
    · exact h.2.2 i e
    · exact .inr (by omega)
theorem PsAt.failed {w w1 w2 : World} {g : Nat} {vb vr vb1 vr1 : Value} {q r : Ps} (h : PsAt w w1 g vb vr q vb1 vr1) (k : PsIs w2 g (.slice none 0 0) (.slice none 0 0) r) (hg : Gr (fun k => k = g) w1 w2) : PsAt w w2 g vb vr r (.slice none 0 0) (.slice none 0 0) :=
  h.next k (hg.mono fun _ _ e => .inl e) fun i hi => by
    rcases hi with e | e | e
    · exact .inl (.inl e)
    · simp [Value.ownBlock] at e
    · simp [Value.ownBlock] at e
/-- the rest that waits is copied into a row of its own -/
theorem PsIs.ready_put {w w5 w6 : World} {g : Nat} {vb vr v' : Value} {q : Ps} {l : List Hd} (h : PsIs w g vb vr q) (k0 : Gr (fun k => k = w.heap.size) w w5) (ho : OwnsH w5 0 v' l) (hge : ∀ k, v'.ownBlock = some k → w.heap.size ≤ k)
    (h1 : w6.heap[g]? = some (syblk (Ps.sy { q with ready := l } vb v'))) (hg : Gr (fun k => k = g) w5 w6) : PsIs w6 g vb v' { q with ready := l } ∧ Gr (psD g vb vr) w w6 ∧ (∀ k, psD g vb v' k → psD g vb vr k ∨ w.heap.size ≤ k) := by
  have hz := block_lt h.blk
  have hvg : v'.ownBlock ≠ some g := fun e => by have := hge g e; omega
  have k1 : Gr (fun _ => False) w w5 := k0.mono (fun i hi e => by omega)
  refine ⟨⟨h1, (h.bits.gr k1 (fun _ _ e => e)).gr hg (fun k hk e => h.nb (e ▸ hk)), ho.gr hg (fun k hk e => hvg (e ▸ hk))⟩, (k1.mono (fun _ _ e => e.elim)).trans hg (fun _ _ e => .inl e), fun k hk => ?_⟩
  rcases hk with hk | hk | hk
  · exact .inl (.inl hk)
  · exact .inl (.inr (.inl hk))
  · exact .inr (hge k hk)

theorem wpList_append_hdk {ops : Array Oper} {rest : List Oper} {o : Oper} {a : Act} {w : World} {Q : Exit → Act → World → Prop} (hgd : o.guard = none) (s x : Operand)
    (ho : o.op = .call { callee := .builtin .append, args := #[s, x], argTypes := #[66, 66] })
    (base : Nat) (v : Value) (q : List Hd) (hs : a.eval s = v) (hown : OwnsH w base v q) (l : List Hd) (xa : Option Addr) (k c : Nat) (hk : k = l.length) (hx : a.eval x = .slice xa k c) (hn : xa = none → l = [] ∧ c = 0) (hc : ∀ ad, xa = some ad → ad.spot = none ∧ HdsAt w ad.block ad.off l)
    (hL : q.length + l.length ≤ 1000000) (hbase : base ≤ w.heap.size)
    (h : ∀ v' w', OwnsH w' base v' (q ++ l) → w.grownBy w' v.ownBlock → (v'.ownBlock = v.ownBlock ∨ v'.ownBlock = some w.heap.size) → wpList Try.prog ops Q rest (a.put o.dst v') w') :
    wpList Try.prog ops Q (o :: rest) a w := by
  subst hk
  exact wpList_append_hds hgd s x ho base v q hs hown l xa c hx hn hc hL hbase h
theorem OwnsH.empty (w : World) : OwnsH (w.alloc (.cells #[] 26 (0, 0))) 0 (.slice (some ⟨w.heap.size, 0, none⟩) 0 0) [] :=
  ⟨rfl, .inr ⟨w.heap.size, 0, #[], rfl, Nat.zero_le _, heap_new w _, Nat.le_refl _, Nat.zero_le _, rfl, rfl⟩⟩
/-- what waits is copied: all at once -/
theorem PsAt.put {w W w5 w6 : World} {g : Nat} {vb vr vb1 vr1 v' : Value} {q : Ps} {l : List Hd} (A : PsAt w W g vb vr q vb1 vr1)
    (ho : OwnsH w5 0 v' l) (hgrow : (W.alloc (.cells #[] 26 (0, 0))).grownBy w5 (some W.heap.size)) (hat : v'.ownBlock = some W.heap.size ∨ v'.ownBlock = some (W.alloc (.cells #[] 26 (0, 0))).heap.size)
    (h1 : w6.heap[g]? = some (syblk (Ps.sy { q with ready := l } vb1 v'))) (hg : Gr (fun k => k = g) w5 w6) : PsAt w w6 g vb vr { q with ready := l } vb1 v' ∧ Gr (fun k => k = g) W w6 := by
  have k0 : Gr (fun k => k = W.heap.size) W w5 := (Gr.of_below _ (below_alloc (Below.refl _ _) _)).trans (Gr.of_grown hgrow) (fun i _ e => (Option.some.inj e).symm)
  obtain ⟨k1, k2, k3⟩ := A.1.ready_put k0 ho (fun k hk => by
    rcases hat with e | e
    · rw [e] at hk; have := Option.some.inj hk; omega
    · rw [e] at hk
      have := Option.some.inj hk
      have : W.heap.size + 1 = k := by simpa using this
      omega) h1 hg
  exact ⟨A.next k1 k2 k3, (k0.mono (fun i hi e => by omega)).trans hg (fun _ _ e => e)⟩
theorem PsAt.blk2 {w W w5 : World} {g : Nat} {vb vr vb1 vr1 : Value} {q : Ps} (A : PsAt w W g vb vr q vb1 vr1) (hgrow : (W.alloc (.cells #[] 26 (0, 0))).grownBy w5 (some W.heap.size)) : w5.heap[g]? = some (syblk (q.sy vb1 vr1)) :=
  have hz := block_lt A.1.blk
  (hgrow.block g (by simp; omega) (fun e => by have := Option.some.inj e; omega)).trans (keep_alloc _ A.1.blk)

set_option maxRecDepth 100000 in
set_option maxHeartbeats 8000000 in
theorem take_any (g : Nat) (vb vr : Value) (p : Ps) (more : Bool) (x : Option Addr) (c : Nat) (l : List Hd) (N : Nat) (hgd : p.good N) (hN : N + l.length ≤ 800000) (hl : ∀ h ∈ l, h.ok) (w : World) (hp : PsIs w g vb vr p)
    (hx : 0 < l.length → ∃ b o, x = some ⟨b, o, none⟩ ∧ HdsAt w b o l ∧ ¬ psD g vb vr b) :
    Calls Try.prog 39 #[.pointer (some ⟨g, 0, none⟩), .bool more, .slice x l.length c] w fun e w' => TakeTo w w' g vb vr (takeP p more l) e := by
  obtain ⟨R0, hR0⟩ : ∃ R, R = takeP p more l := ⟨_, rfl⟩
  rw [← hR0]
  rw [takeP] at hR0
  have HR0 := Lib.hid hR0
  have K0 := Lib.hid hp
  have HX := Lib.hid hx; have HG := Lib.hid hgd; have HL := Lib.hid hl
  have c218 := hp.phaseC
  clear hR0 hp hx hgd hl
  by_cases p3 : p.phase = 3
  · have e3 : ((p.phase : Int) == 3) = true := by simp [p3]
    have hr : R0 = (p, []) := by rw [HR0.out, if_pos (.inl p3)]
    have HR := Lib.hid hr
    clear HR0 hr p3
    go_enter Try.func39, Try.ntmps39
    go_wp2_with fail
    go_ret
    rw [HR.out]
    exact ⟨_, rfl, HdRow.nil _, (PsAt.start K0.out).to, fun b e => by simp [Value.ownBlock] at e⟩
  by_cases p4 : p.phase = 4
  · have e3 : ((p.phase : Int) == 3) = false := by simp [p4]
    have e4 : ((p.phase : Int) == 4) = true := by simp [p4]
    have hr : R0 = (p, []) := by rw [HR0.out, if_pos (.inr p4)]
    have HR := Lib.hid hr
    clear HR0 hr p3 p4
    go_enter Try.func39, Try.ntmps39
    go_wp2_with fail
    go_ret
    rw [HR.out]
    exact ⟨_, rfl, HdRow.nil _, (PsAt.start K0.out).to, fun b e => by simp [Value.ownBlock] at e⟩
  have e3 : ((p.phase : Int) == 3) = false := by simp; omega
  have e4 : ((p.phase : Int) == 4) = false := by simp; omega
  have hr := HR0.out
  rw [if_neg (by omega)] at hr
  dsimp only at hr
  have P4 := Lib.hid p4; have P3 := Lib.hid p3
  obtain ⟨b, hb⟩ : ∃ b, b = p.phase := ⟨_, rfl⟩
  obtain ⟨R, hR⟩ : ∃ R, R = runT b l p := ⟨_, rfl⟩
  rw [← hb, ← hR] at hr
  rw [← hb] at e3 e4 c218 P4 P3
  clear HR0
  have HRR := Lib.hid hr; have HR := Lib.hid hR; have HB := Lib.hid hb
  clear hr hR hb p3 p4
  go_enter Try.func39, Try.ntmps39
  go_upto_block 0 with fail
  clear c218 e3 e4
  have GR := Lib.hid (HR.out ▸ good_run b P4.out l p N HG.out HL.out : R.good (N + l.length))
  go_cut [] (fun wc => ∃ vb' vr', PsAt w wc g vb vr R vb' vr' ∧ R.phase ≠ 4)
  case first =>
    go_wp2_with fail
    go_loopg [33] (l.length) (fun gm ix wr => ∃ (j : Nat) (q : Ps) (vb' vr' : Value), gm = l.length - j ∧ j ≤ l.length ∧ ix = .int .i64 j ∧ q.good (N + j) ∧ q.phase ≠ 4 ∧ runT b (l.drop j) q = R ∧ PsAt w wr g vb vr q vb' vr')
    case atStart => exact ⟨0, p, vb, vr, rfl, Nat.zero_le _, rfl, HG.out, HB.out ▸ P4.out, HR.out.symm, PsAt.start K0.out⟩
    case round =>
      obtain ⟨j, q, vb1, vr1, hgm, hj, rfl, hq, hq4, hrun, hat⟩ := hrel
      clear K0 HR HG HB
      have HGM := Lib.hid hgm; have HQ := Lib.hid hq; have HQ4 := Lib.hid hq4; have HRUN := Lib.hid hrun; have HAT := Lib.hid hat
      clear hgm hq hq4 hrun hat
      by_cases hlt : j < l.length
      · obtain ⟨b0, o0, rfl, hmem, hbD⟩ := HX.out (by omega)
        obtain ⟨h, hh⟩ : ∃ h, h = l.getD j hd0 := ⟨_, rfl⟩
        have hdr : l.drop j = h :: l.drop (j + 1) := by rw [hh, List.drop_eq_getElem_cons hlt, List.getD_eq_getElem?_getD, List.getElem?_eq_getElem hlt, Option.getD_some]
        have hok : h.ok := HL.out h (by rw [hh, List.getD_eq_getElem?_getD, List.getElem?_eq_getElem hlt, Option.getD_some]; exact List.getElem_mem hlt)
        have HM := Lib.hid (hh ▸ (hmem.gr HAT.out.2.1 hbD).at j hlt : wr.rangeAt b0 (o0 + j * 68) (hdcs h))
        have hrun := HRUN.out
        rw [hdr, runT] at hrun
        have HRUN2 := Lib.hid hrun
        have HOK := Lib.hid hok
        clear hh hdr hok hmem hrun HRUN HX
        have hzh : (hdcs hd0).toArray = Try.zeroCells26 := hdz.symm
        have HZ := Lib.hid hzh
        clear hzh
        by_cases hph : q.phase = b
        · rw [if_pos hph] at HRUN2
          have eb : ((q.phase : Int) != (b : Int)) = false := by simp [hph]
          have HPH := Lib.hid hph
          clear hph
          go_wp2_with (first | refine ld_hd rfl (.tmp 35) rfl b0 (o0 + j * 68) h rfl HM.out ?_ | (refine wpList_store_hd rfl (.tmp 9) (.tmp 36) rfl wr.heap.size hd0 h rfl rfl ((heap_new wr _).trans (congrArg some (by unfold hdblk; rw [HZ.out]))) (fun w3 h1 h2 h3 h4 => ?_); have hB3 := h4 _ _ (Nat.le_refl _) (below_alloc (Below.refl _ _) _); have KH := Lib.hid h1; have A3 := Lib.hid (HAT.out.keep hB3); have c218 := A3.out.1.phaseC; clear h1 h2 h3 h4 hB3) | refine wpList_load_hd rfl (.tmp 9) rfl wr.heap.size h rfl KH.out ?_)
          clear HM HAT c218 eb
          obtain ⟨k, hk⟩ : ∃ k, k = q.hgt := ⟨_, rfl⟩
          have hk1 := HQ.out.hgt
          rw [← hk] at hk1 HRUN2
          have HK := Lib.hid hk1
          have hkN : k ≤ 800000 := by have := hk1.2; omega
          clear hk hk1
          refine (step_any g vb1 vr1 q h HOK.out k HQ.out.lid HQ.out.lim HQ.out.e0 HQ.out.e1 HQ.out.s0 HQ.out.s1 HQ.out.lb HQ.out.lw HK.out.1 (by omega) _ A3.out.1).mono ?_
          rintro e w4 ⟨rfl, hb4⟩
          have A4 := Lib.hid (A3.out.keep hb4)
          clear hb4 A3 KH
          obtain ⟨X, hX⟩ : ∃ X, X = (stepP q h k).1 := ⟨_, rfl⟩
          obtain ⟨E, hE⟩ : ∃ E, E = (stepP q h k).2 := ⟨_, rfl⟩
          obtain ⟨q2, hq2⟩ : ∃ q2, q2 = stp q h k := ⟨_, rfl⟩
          have hok2 : E = 0 → X.okn (k + 1) := fun e => by rw [hX]; exact okn_step HOK.out k (hE ▸ e)
          have hgq : q2.good (N + (j + 1)) := by
            rw [hq2, show k = q.hgt from by have := HK.out.1; unfold Ps.hgt; omega]; exact good_stp HQ.out HQ4.out h HOK.out
          have HGQ := Lib.hid hgq
          rw [← hq2] at HRUN2
          rw [stp, ← hX, ← hE] at hq2
          rw [← hX, ← hE]
          have HQ2 := Lib.hid hq2
          have HOK2 := Lib.hid hok2
          clear hX hE hq2 hok2 hgq
          have ez := Lib.hid ndzb
          by_cases hE0 : E = 0
          · subst hE0
            rw [if_neg (fun e => e rfl), HPH.out] at HQ2
            obtain ⟨ox1, ox2, ox3, ox4⟩ := HOK2.out rfl
            have HOX := Lib.hid ox4
            clear ox4 HOK2
            by_cases pb : b = 1
            · rw [if_pos pb] at HQ2
              have e1 : ((q.phase : Int) == 1) = true := by simp [HPH.out, pb]
              clear pb
              go_wp2_with (first | (refine st_nd rfl (.tmp 10) (.tmp 47) rfl w4.heap.size nd0 X rfl rfl ((heap_new w4 _).trans (congrArg some ez.out)) (fun w5 h1 h2 h3 h4 => ?_); have hB5 := h4 _ _ (Nat.le_refl _) (below_alloc (Below.refl _ _) _); have KX := Lib.hid h1; have A5 := Lib.hid (A4.out.keep hB5); have c218 := A5.out.1.phaseC; clear h1 h2 h3 h4 hB5) | refine ld_nd rfl (.tmp 10) rfl w4.heap.size 0 X rfl (nd_whole KX.out) ?_)
              clear c218 A4 KX e1
              refine (count_any g vb1 vr1 q X (k + 1) HOX.out (by omega) ox3 HQ.out.need HQ.out.bits _ A5.out.1).mono ?_
              rintro e w6 ⟨⟨v6, rfl⟩, hto⟩
              obtain ⟨vb6, vr6, k6, g6, d6⟩ := hto
              have A6 := Lib.hid (A5.out.next k6 g6 d6)
              rw [← HQ2.out] at A6
              clear k6 g6 d6 A5
              have c218 := A6.out.1.phaseC
              by_cases h24 : q2.phase = 4
              · rw [if_pos h24] at HRUN2
                have e4 : ((q2.phase : Int) == 4) = true := by simp [h24]
                have H24 := Lib.hid h24
                clear h24
                go_wp2_with fail
                go_ret
                rw [HRR.out]
                simp only [if_pos (show R.phase = 4 from by rw [← HRUN2.out]; exact H24.out)]
                exact ⟨_, rfl, HdRow.nil _, by rw [← HRUN2.out]; exact A6.out.to, fun b e => by simp [Value.ownBlock] at e⟩
              · rw [if_neg h24] at HRUN2
                have e4 : ((q2.phase : Int) == 4) = false := by simp; omega
                have H24 := Lib.hid h24
                clear h24
                go_wp2_with fail
                go_roundg (l.length - (j + 1))
                case measure => have := HGM.out; omega
                case rel => exact ⟨j + 1, q2, vb6, vr6, rfl, by omega, by go_num, HGQ.out, H24.out, HRUN2.out, A6.out⟩
            · rw [if_neg pb] at HQ2
              have e1 : ((q.phase : Int) == 1) = false := by simp [HPH.out]; omega
              clear pb
              go_wp2_with (first | (refine st_nd rfl (.tmp 10) (.tmp 47) rfl w4.heap.size nd0 X rfl rfl ((heap_new w4 _).trans (congrArg some ez.out)) (fun w5 h1 h2 h3 h4 => ?_); have hB5 := h4 _ _ (Nat.le_refl _) (below_alloc (Below.refl _ _) _); have KX := Lib.hid h1; have A5 := Lib.hid (A4.out.keep hB5); have c218 := A5.out.1.phaseC; clear h1 h2 h3 h4 hB5) | refine ld_nd rfl (.tmp 10) rfl w4.heap.size 0 X rfl (nd_whole KX.out) ?_)
              clear c218 A4 KX e1
              refine (again_any g vb1 vr1 q X (k + 1) HOX.out (by omega) ox3 HQ.out.need HQ.out.bits HQ.out.at2 (by have := HQ.out.ready; omega) _ A5.out.1).mono ?_
              rintro e w6 ⟨⟨v6, rfl⟩, hto⟩
              obtain ⟨vb6, vr6, k6, g6, d6⟩ := hto
              have A6 := Lib.hid (A5.out.next k6 g6 d6)
              rw [← HQ2.out] at A6
              clear k6 g6 d6 A5
              have c218 := A6.out.1.phaseC
              by_cases h24 : q2.phase = 4
              · rw [if_pos h24] at HRUN2
                have e4 : ((q2.phase : Int) == 4) = true := by simp [h24]
                have H24 := Lib.hid h24
                clear h24
                go_wp2_with fail
                go_ret
                rw [HRR.out]
                simp only [if_pos (show R.phase = 4 from by rw [← HRUN2.out]; exact H24.out)]
                exact ⟨_, rfl, HdRow.nil _, by rw [← HRUN2.out]; exact A6.out.to, fun b e => by simp [Value.ownBlock] at e⟩
              · rw [if_neg h24] at HRUN2
                have e4 : ((q2.phase : Int) == 4) = false := by simp; omega
                have H24 := Lib.hid h24
                clear h24
                go_wp2_with fail
                go_roundg (l.length - (j + 1))
                case measure => have := HGM.out; omega
                case rel => exact ⟨j + 1, q2, vb6, vr6, rfl, by omega, by go_num, HGQ.out, H24.out, HRUN2.out, A6.out⟩
          · rw [if_pos hE0] at HQ2
            have e0 : ((E : Int) != 0) = true := by simp; omega
            have hp4 : q2.phase = 4 := by rw [HQ2.out]; rfl
            rw [if_pos hp4] at HRUN2
            clear HOK2 hE0 hp4
            go_wp2_with (first | (refine st_nd rfl (.tmp 10) (.tmp 47) rfl w4.heap.size nd0 X rfl rfl ((heap_new w4 _).trans (congrArg some ez.out)) (fun w5 h1 h2 h3 h4 => ?_); have hB5 := h4 _ _ (Nat.le_refl _) (below_alloc (Below.refl _ _) _); have A5 := Lib.hid (A4.out.keep hB5); clear h1 h2 h3 h4 hB5))
            clear A4
            refine (psfail_any g vb1 vr1 q E _ A5.out.1).mono ?_
            rintro e w6 ⟨⟨v6, rfl⟩, k6, g6⟩
            have A6 := Lib.hid (A5.out.failed k6 g6)
            have c218 : w6.cell? ⟨g, 218, none⟩ = some (.int .i64 4) := k6.phaseC
            clear k6 g6 A5
            go_wp2_with fail
            go_ret
            have hR4 : R.phase = 4 := by rw [← HRUN2.out, HQ2.out]; rfl
            rw [HRR.out]
            simp only [if_pos hR4]
            exact ⟨_, rfl, HdRow.nil _, by rw [← HRUN2.out, HQ2.out]; exact A6.out.to, fun b e => by simp [Value.ownBlock] at e⟩
        · rw [if_neg hph] at HRUN2
          have eb : ((q.phase : Int) != (b : Int)) = true := by simp; omega
          clear hph
          go_wp2_with (first | refine ld_hd rfl (.tmp 35) rfl b0 (o0 + j * 68) h rfl HM.out ?_ | (refine wpList_store_hd rfl (.tmp 9) (.tmp 36) rfl wr.heap.size hd0 h rfl rfl ((heap_new wr _).trans (congrArg some (by unfold hdblk; rw [HZ.out]))) (fun w3 h1 h2 h3 h4 => ?_); have hB3 := h4 _ _ (Nat.le_refl _) (below_alloc (Below.refl _ _) _); have A3 := Lib.hid (HAT.out.keep hB3); have c218 := A3.out.1.phaseC; clear h1 h2 h3 h4 hB3))
          go_meet
          case rel => exact ⟨vb1, vr1, HRUN2.out ▸ A3.out, HRUN2.out ▸ HQ4.out⟩
      · obtain rfl : j = l.length := by omega
        have hrun := HRUN.out
        rw [List.drop_length, runT] at hrun
        have HRUN2 := Lib.hid hrun
        clear hrun HRUN
        go_wp2_with fail
        go_meet
        case rel => exact ⟨vb1, vr1, HRUN2.out ▸ HAT.out, HRUN2.out ▸ HQ4.out⟩
  case rest =>
    obtain ⟨vb1, vr1, hat, hR4⟩ := hcut
    rw [if_neg hR4] at HRR
    have A1 := Lib.hid hat
    have c218 := hat.1.phaseC
    clear hat hR4 HX K0 HR HG
    obtain ⟨W, hW⟩ : ∃ W, W = wc := ⟨_, rfl⟩
    subst hW
    go_upto_region 17 with fail
    go_cut [82] (fun s wx => s = .bool (decide (R.phase = b ∧ more = false)) ∧ wx = W)
    case first =>
      by_cases e : R.phase = b
      · have e1 : ((R.phase : Int) == (b : Int)) = true := by simp [e]
        have HE := Lib.hid e
        clear e
        cases more
        · go_wp2_with fail
          go_meet
          case rel => exact ⟨by simp [HE.out], rfl⟩
        · go_wp2_with fail
          go_meet
          case rel => exact ⟨by simp [HE.out], rfl⟩
      · have e1 : ((R.phase : Int) == (b : Int)) = false := by simp; omega
        have HE := Lib.hid e
        clear e
        go_wp2_with fail
        go_meet
        case rel => exact ⟨by simp [HE.out], rfl⟩
    case rest =>
      obtain ⟨rfl, e⟩ := hcut
      subst e
      by_cases hfail : R.phase = b ∧ more = false
      · rw [if_pos hfail] at HRR
        rw [decide_eq_true hfail]
        clear hfail c218
        go_wp2_with fail
        refine (psfail_any g vb1 vr1 R 6 _ A1.out.1).mono ?_
        rintro e w6 ⟨⟨v6, rfl⟩, k6, g6⟩
        have A6 := Lib.hid (A1.out.failed k6 g6)
        clear k6 g6
        go_wp2_with fail
        go_ret
        rw [HRR.out]
        exact ⟨_, rfl, HdRow.nil _, A6.out.to, fun b e => by simp [Value.ownBlock] at e⟩
      · rw [if_neg hfail] at HRR
        rw [decide_eq_false hfail]
        clear hfail
        obtain ⟨W, hW⟩ : ∃ W', W' = wc := ⟨_, rfl⟩
        subst hW
        go_upto_region 21 with fail
        obtain ⟨D, hD⟩ : ∃ D : Nat, D = if R.phase = 3 then 0 else 8 := ⟨_, rfl⟩
        have HD := Lib.hid hD
        clear hD
        go_upto_if 89 with fail
        go_cut [12] (fun s wx => s = .int .i64 (D : Int) ∧ wx = W)
        case first =>
          by_cases e : R.phase = 3
          · have e1 : ((R.phase : Int) == 3) = true := by simp [e]
            have hd : D = 0 := by rw [HD.out, if_pos e]
            have HE := Lib.hid hd
            clear e hd
            go_wp2_with fail
            go_meet
            case rel => exact ⟨by rw [HE.out]; rfl, rfl⟩
          · have e1 : ((R.phase : Int) == 3) = false := by simp; omega
            have hd : D = 8 := by rw [HD.out, if_neg e]
            have HE := Lib.hid hd
            clear e hd
            go_wp2_with fail
            go_meet
            case rel => exact ⟨by rw [HE.out]; rfl, rfl⟩
        case rest =>
          obtain ⟨rfl, e⟩ := hcut
          subst e
          obtain ⟨W, hW⟩ : ∃ W', W' = wc := ⟨_, rfl⟩
          subst hW
          have hDl : D ≤ 8 := by rw [HD.out]; split <;> omega
          have hkn : keepN R = R.ready.length - D := by rw [HD.out]; rfl
          obtain ⟨n, hn⟩ : ∃ n, n = keepN R := ⟨_, rfl⟩
          rw [← hn] at HRR hkn
          have hgr := GR.out.ready
          obtain ⟨rd, hrd⟩ : ∃ rd, rd = R.ready := ⟨_, rfl⟩
          rw [← hrd] at hkn HRR hgr
          have hmx : max (0 : Int) ((rd.length : Int) - (D : Int)) = (n : Int) := by omega
          have hnl : n ≤ rd.length := by omega
          have c329 := A1.out.1.readyC
          have c329b : (W.alloc (.cells #[] 26)).cell? ⟨g, 329, none⟩ = some vr1 := (A1.out.1.keep (below_alloc (Below.refl _ _) _)).readyC
          have HKN := Lib.hid hkn; have HRD := Lib.hid hrd; have HNN := Lib.hid hn
          clear hkn hrd hn c218 HD
          obtain ⟨L, hL⟩ : ∃ L, L = rd.length := ⟨_, rfl⟩
          rcases (show OwnsH W 0 vr1 rd from HRD.out ▸ A1.out.1.ready).rows with ⟨rfl, hrl⟩ | ⟨br, cap, rfl, _, hbr, hc1, hc2, hmem⟩
          · subst hrl
            obtain rfl : n = 0 := by simpa using hnl
            clear hmx hnl hgr hL
            have hmx : max (0 : Int) (0 - (D : Int)) = 0 := by omega
            have hmx2 : max (0 : Int) (-(D : Int)) = 0 := by omega
            go_wp2_with (first | (at_builtin; refine wpList_append_hdk rfl (.tmp 106) (.tmp 112) rfl 0 (.slice (some ⟨W.heap.size, 0, none⟩) 0 0) [] rfl (OwnsH.empty W) [] none 0 0 rfl rfl (fun _ => ⟨rfl, rfl⟩) (fun ad e => by cases e) (by simp) (Nat.zero_le _) (fun v' w5 ho hgrow hat => ?_); rw [List.nil_append] at ho; obtain ⟨x5, c5, e5⟩ := ho.shape; replace e5 : v' = .slice x5 0 c5 := e5; subst e5; have HGR := Lib.hid hgrow; have HO := Lib.hid ho; have HAT := Lib.hid hat; clear ho hgrow hat) | (refine st_one rfl 66 (.tmp 115) (.tmp 113) rfl g 8 329 (syS (R.sy vb1 (.slice none 0 0))) 153 (.slice none 0 0) (.slice x5 0 c5) rfl rfl (A1.out.blk2 HGR.out) rfl (sy_o _).2.2.2.2.2.2.2.2.1 hds_info rfl (fun w6 h1 h2 h3 h4 => ?_); obtain ⟨k1, k2⟩ := A1.out.put HO.out HGR.out HAT.out h1 (Gr.of_st h2 h4); have A6 := Lib.hid k1; have G6 := Lib.hid k2; clear h1 h2 h3 h4 k1 k2 HGR HO HAT))
            go_ret
            rw [HRR.out]
            exact ⟨_, rfl, HdRow.nil _, A6.out.to, fun b e => by simp [Value.ownBlock] at e⟩
          · have HL2 := Lib.hid hL
            rw [← hL] at A1 c329 c329b hgr hmx hnl hc1
            have HMEM := Lib.hid hmem
            have hgb : br ≠ g := fun e => A1.out.1.nr (by rw [← e]; rfl)
            unfold maxLen at hc2
            have HM5 : Hid (L - n = (rd.drop n).length) := Lib.hid (by rw [List.length_drop, ← hL])
            have HM7 : Hid (([] : List Hd).length + (rd.drop n).length ≤ 1000000) := Lib.hid (by rw [← HM5.out]; simp; omega)
            clear hmem hL
            have hncap : n ≤ cap := by omega
            by_cases hnc : n < cap
            · have HM6 : Hid (HdsAt W br (n * 68) (rd.drop n)) := Lib.hid (by have := HMEM.out.drop n; rwa [Nat.zero_add] at this)
              go_wp2_with (first | (at_builtin; refine wpList_append_hdk rfl (.tmp 106) (.tmp 112) rfl 0 (.slice (some ⟨W.heap.size, 0, none⟩) 0 0) [] rfl (OwnsH.empty W) (rd.drop n) (some ⟨br, n * 68, none⟩) (L - n) (cap - n) HM5.out rfl (fun e => by cases e) (fun ad e => by cases e; exact ⟨rfl, HM6.out.keep (below_alloc (Below.refl _ _) _)⟩) HM7.out (Nat.zero_le _) (fun v' w5 ho hgrow hat => ?_); rw [List.nil_append] at ho; obtain ⟨x5, c5, e5⟩ := ho.shape; replace e5 : v' = .slice x5 (L - n) c5 := e5.trans (congrArg (fun k => Value.slice x5 k c5) HM5.out.symm); subst e5; have HGR := Lib.hid hgrow; have HO := Lib.hid ho; have HAT := Lib.hid hat; clear ho hgrow hat) | (refine st_one rfl 66 (.tmp 115) (.tmp 113) rfl g 8 329 (syS (R.sy vb1 (.slice (some ⟨br, 0, none⟩) L cap))) 153 (.slice (some ⟨br, 0, none⟩) L cap) (.slice x5 (L - n) c5) rfl rfl (A1.out.blk2 HGR.out) rfl (sy_o _).2.2.2.2.2.2.2.2.1 hds_info rfl (fun w6 h1 h2 h3 h4 => ?_); obtain ⟨k1, k2⟩ := A1.out.put HO.out HGR.out HAT.out h1 (Gr.of_st h2 h4); have A6 := Lib.hid k1; have G6 := Lib.hid k2; clear h1 h2 h3 h4 k1 k2 HGR HO HAT))
              go_ret
              rw [HRR.out]
              have hrow : HdRow w6 (.slice (some ⟨br, 0, none⟩) n n) (rd.take n) := ⟨some ⟨br, 0, none⟩, n, (by rw [List.length_take, ← HL2.out, Nat.min_eq_left (by omega)]), (fun e => by cases e), (fun ad e => by cases e; exact ⟨rfl, (HMEM.out.take n).gr G6.out hgb⟩)⟩
              exact ⟨_, rfl, hrow, A6.out.to, fun b e => A1.out.2.2 b (.inr (.inr e))⟩
            · obtain rfl : n = cap := by omega
              obtain rfl : n = L := by omega
              have hd0 : rd.drop n = [] := List.drop_of_length_le (by rw [← HL2.out]; exact Nat.le_refl _)
              have HM6 : Hid (HdsAt W br 0 (rd.drop n)) := Lib.hid (by rw [hd0]; intro j v hv; cases hv)
              have HM8 : Hid (0 = (rd.drop n).length) := Lib.hid (by rw [hd0]; rfl)
              clear hd0 hnc
              go_wp2_with (first | (at_builtin; refine wpList_append_hdk rfl (.tmp 106) (.tmp 112) rfl 0 (.slice (some ⟨W.heap.size, 0, none⟩) 0 0) [] rfl (OwnsH.empty W) (rd.drop n) (some ⟨br, 0, none⟩) 0 0 HM8.out rfl (fun e => by cases e) (fun ad e => by cases e; exact ⟨rfl, HM6.out.keep (below_alloc (Below.refl _ _) _)⟩) HM7.out (Nat.zero_le _) (fun v' w5 ho hgrow hat => ?_); rw [List.nil_append] at ho; obtain ⟨x5, c5, e5⟩ := ho.shape; replace e5 : v' = .slice x5 0 c5 := e5.trans (congrArg (fun k => Value.slice x5 k c5) HM8.out.symm); subst e5; have HGR := Lib.hid hgrow; have HO := Lib.hid ho; have HAT := Lib.hid hat; clear ho hgrow hat) | (refine st_one rfl 66 (.tmp 115) (.tmp 113) rfl g 8 329 (syS (R.sy vb1 (.slice (some ⟨br, 0, none⟩) n n))) 153 (.slice (some ⟨br, 0, none⟩) n n) (.slice x5 0 c5) rfl rfl (A1.out.blk2 HGR.out) rfl (sy_o _).2.2.2.2.2.2.2.2.1 hds_info rfl (fun w6 h1 h2 h3 h4 => ?_); obtain ⟨k1, k2⟩ := A1.out.put HO.out HGR.out HAT.out h1 (Gr.of_st h2 h4); have A6 := Lib.hid k1; have G6 := Lib.hid k2; clear h1 h2 h3 h4 k1 k2 HGR HO HAT))
              go_ret
              rw [HRR.out]
              have hrow : HdRow w6 (.slice (some ⟨br, 0, none⟩) n n) (rd.take n) := ⟨some ⟨br, 0, none⟩, n, (by rw [List.length_take, ← HL2.out, Nat.min_eq_left (by omega)]), (fun e => by cases e), (fun ad e => by cases e; exact ⟨rfl, (HMEM.out.take n).gr G6.out hgb⟩)⟩
              exact ⟨_, rfl, hrow, A6.out.to, fun b e => A1.out.2.2 b (.inr (.inr e))⟩
end Go.Proofs.Ytnbppbnjkmopeaa
