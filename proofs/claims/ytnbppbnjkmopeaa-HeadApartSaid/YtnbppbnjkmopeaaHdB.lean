/- head.Bytes: a header's bytes. No condition. -/
import Derived.Test.YtnbppbnjkmopeaaHdA
namespace Go.Proofs.Ytnbppbnjkmopeaa
open Go.RowKit

theorem hd_bytes_p {w : World} {g : Nat} {h : Hd} (hg : w.heap[g]? = some (hdblk h)) (c : Nat) : BytesAt w (.slice (some ⟨g, 1, none⟩) 32 c) (idb h.p) :=
  .inr ⟨⟨g, 1, none⟩, c, by rw [idb_len], fun j hj => by
    rw [idb_len] at hj
    rw [Addr.add_lit, hd_cell hg, hdcs_p h j hj, idb_get _ j hj]⟩
theorem hd_bytes_r {w : World} {g : Nat} {h : Hd} (hg : w.heap[g]? = some (hdblk h)) (c : Nat) : BytesAt w (.slice (some ⟨g, 33, none⟩) 32 c) (idb h.r) :=
  .inr ⟨⟨g, 33, none⟩, c, by rw [idb_len], fun j hj => by
    rw [idb_len] at hj
    rw [Addr.add_lit, hd_cell hg, hdcs_r h j hj, idb_get _ j hj]⟩
/-- a new row of bytes with room for so many -/
theorem wpList_make_u8 {ops : Array Oper} {rest : List Oper} {o : Oper} {a : Act} {w : World} {Q : Exit → Act → World → Prop} (hgd : o.guard = none) (l c : Operand) (ho : o.op = Op.makeSlice 27 l c) (n : Nat) (hl : a.eval l = .int .i64 0) (hc : a.eval c = .int .i64 n) (hn : n ≤ 1000000)
    (h : ∀ w', Owns w' w.heap.size (.slice (some ⟨w.heap.size, 0, none⟩) 0 n) [] → Below w.heap.size w w' → wpList Try.prog ops Q rest (a.put o.dst (.slice (some ⟨w.heap.size, 0, none⟩) 0 n)) w') : wpList Try.prog ops Q (o :: rest) a w := by
  obtain ⟨i0, hi, hz0, hz1, hz2⟩ := info_parts info_u8
  refine wpList_make_own w hgd l c 27 ho w.heap.size 5 i0 (.int .u8 0) 1 underlying_u8s hi hz0 hz1 .i64 .i64 n n hl hc rfl (by rw [hz2]; omega) (by unfold maxLen; omega) (Nat.le_refl _) fun w' h1 h2 => ?_
  exact h w' h1 ((Below.refl _ _).grown h2 (Nat.le_refl _) (fun j hj => by cases hj))

set_option maxRecDepth 100000 in
set_option maxHeartbeats 4000000 in
theorem bytes_any (h : Hd) (hk : h.ok) (w : World) : Calls Try.prog 20 #[hdv h] w fun e w' => ∃ g, e = .returned (.slice (some ⟨g, 0, none⟩) 80 80) ∧ w.heap.size ≤ g ∧ Owns w' g (.slice (some ⟨g, 0, none⟩) 80 80) (hby h) ∧ Below w.heap.size w w' := by
  have HK := Lib.hid hk
  unfold Hd.ok at hk
  obtain ⟨hv1, _, _, ht1, hb1, hn1⟩ := hk
  have B : Below w.heap.size w (w.alloc (hdblk h)) := below_alloc (Below.refl _ _) _
  have K := heap_new w (hdblk h)
  have KB := Lib.hid K; have BB := Lib.hid B
  clear K B
  unfold hdv
  go_enter Try.func20, Try.ntmps20
  go_wp2_with fail
  refine wp_abs (fun W => W.heap[w.heap.size]? = some (hdblk h) ∧ Below w.heap.size w W) ⟨KB.out, BB.out⟩ ?_
  clear KB BB
  rintro W ⟨k1, k2⟩
  have KB := Lib.hid k1; have BB := Lib.hid k2
  obtain ⟨b0, hb0⟩ : ∃ b, b = w.heap.size := ⟨_, rfl⟩
  rw [← hb0] at KB
  rw [← hb0]
  have HB0 := Lib.hid hb0
  have HBW : b0 < W.heap.size := block_lt KB.out
  clear k1 k2 hb0
  refine wp_region_tail 3 [(fun v V => ∃ g, v = .slice (some ⟨g, 0, none⟩) 0 80 ∧ W.heap.size ≤ g ∧ Owns V g (.slice (some ⟨g, 0, none⟩) 0 80) []), Is (.pointer (some ⟨b0, 0, none⟩)), Is (.int .u32 (h.v : Int))] [[], [], [(1, some 5)], [(0, some 4), (2, some 6)], [(3, some 7)]] [(0, some 4), (1, some 5), (2, some 6)] [0, 0, 2, 7, 15]
    (by kernel_rfl) (by kernel_rfl) (by kernel_rfl) (by kernel_rfl) (by kernel_rfl) ⟨(fun _ _ _ hb ⟨g, e, h1, h2⟩ => ⟨g, e, h1, h2.keep hb⟩), Is.kept _, Is.kept _, trivial⟩ ⟨?_, ?_, ?_, trivial⟩ ?_
  · as_aux_lemma =>
    refine fun w' hB => ?_
    show wpList _ _ _ _ _ _
    have hBs := hB.size
    go_wp2_with (at_make; refine wpList_make_u8 rfl _ _ rfl 80 rfl rfl (by omega) (fun w2 h1 h2 => ?_))
    exact ⟨_, rfl, ⟨_, rfl, hBs, h1⟩, h2⟩
  · as_aux_lemma =>
    refine fun w' hB => ?_
    show wpList _ _ _ _ _ _
    go_wp2_with fail
    exact ⟨.pointer (some ⟨b0, 0, none⟩), by first | rfl | (go_simp; done), rfl, Below.refl _ _⟩
  · as_aux_lemma =>
    refine fun w' hB v1 h1 => ?_
    obtain rfl := h1
    show wpList _ _ _ _ _ _
    have c := (hd_cell (block_keep hB KB.out) 0).trans (hdcs_v h)
    go_wp2_with fail
    exact ⟨_, rfl, rfl, Below.refl _ _⟩
  · refine fun w' hB v0 h0 v1 h1 v2 h2 => ?_
    obtain rfl := h2
    simp only [onP, List.drop_succ_cons, List.drop_zero]
    go_simp
    clear h1
    obtain ⟨g, rfl, hg, hO⟩ := h0
    have B1 := Lib.hid (below_next BB.out hB)
    have K1 := Lib.hid (block_keep hB KB.out)
    have HO := Lib.hid hO
    have hne : b0 ≠ g := by omega
    clear hB KB BB hO
    go_wp2_with fail
    refine (put4_any g 0 80 [] rfl h.v hv1 w' HO.out (by omega)).mono ?_
    rintro e w1 ⟨rfl, h1, h2, h3, h4⟩
    have O1 := Lib.hid h1; have B2 := Lib.hid (h2 w.heap.size w (by have := HB0.out; omega) B1.out); have K2 := Lib.hid (h3 b0 _ K1.out hne)
    clear h1 h2 h3 h4 HO B1 K1
    go_wp2_with fail
    have hgw : w.heap.size ≤ g := by have := HB0.out; omega
    have O1' : Hid (Owns w1 g (.slice (some ⟨g, 0, none⟩) 4 80) (w4 h.v)) := Lib.hid O1.out
    clear O1
    refine wp_region_writers 6 [3] (fun j => false) (fun V => V.heap[b0]? = some (hdblk h) ∧ Below w.heap.size w V) [fun V => Owns V g (.slice (some ⟨g, 0, none⟩) 4 80) (w4 h.v), fun V => Owns V g (.slice (some ⟨g, 0, none⟩) 36 80) (w4 h.v ++ idb h.p)] [Is (.slice (some ⟨g, 0, none⟩) 4 80), Is (.pointer (some ⟨b0, 1, none⟩)), Is (.slice (some ⟨b0, 1, none⟩) 32 32), Is (.slice (some ⟨g, 0, none⟩) 36 80), Is (.pointer (some ⟨b0, 33, none⟩)), Is (.slice (some ⟨b0, 33, none⟩) 32 32)] [[], [], [(1, some 9)], [(0, some 8), (2, some 10)], [], [(4, some 12)], [(3, some 11), (5, some 13)], [(6, some 14)]] [(0, some 8), (1, some 9), (2, some 10), (3, some 11), (4, some 12), (5, some 13)] [0, 0, 2, 7, 0, 16, 63, 127]
      (by kernel_rfl) (by kernel_rfl) (by kernel_rfl) (by kernel_rfl) (by kernel_rfl) ⟨Is.kept _, Is.kept _, Is.kept _, Is.kept _, Is.kept _, Is.kept _, trivial⟩ (fun _ _ hb k => ⟨block_keep hb k.1, k.2.trans (hb.mono k.2.size)⟩) ⟨fun _ _ hb k => Owns.keep k hb, fun _ _ hb k => Owns.keep k hb, trivial⟩ (by kernel_rfl) (fun _ _ hb => ⟨block_keep hb K2.out, B2.out.trans (hb.mono B2.out.size)⟩) (fun _ hb => O1'.out.keep hb) ⟨?_, ?_, ?_, ?_, ?_, ?_, trivial⟩ ?_
    · as_aux_lemma =>
      refine fun w' hS hB hP => ?_
      show wpList _ _ _ _ _ _
      go_wp2_with fail
      exact StepW.of_ne (by decide) ⟨.slice (some ⟨g, 0, none⟩) 4 80, by first | rfl | (go_simp; done), rfl, Below.refl _ _, fun h => absurd h (by decide)⟩
    · as_aux_lemma =>
      refine fun w' hS hB hP => ?_
      show wpList _ _ _ _ _ _
      go_wp2_with fail
      exact StepW.of_ne (by decide) ⟨.pointer (some ⟨b0, 1, none⟩), by first | rfl | (go_simp; done), rfl, Below.refl _ _, fun h => absurd h (by decide)⟩
    · as_aux_lemma =>
      refine fun w' hS hB hP v1 h1 => ?_
      obtain rfl := h1
      show wpList _ _ _ _ _ _
      go_wp2_with fail
      exact StepW.of_ne (by decide) ⟨.slice (some ⟨b0, 1, none⟩) 32 32, by first | rfl | (go_simp; done), rfl, Below.refl _ _, fun h => absurd h (by decide)⟩
    · as_aux_lemma =>
      refine fun w' hS hB hP v0 h0 v2 h2 => ?_
      obtain rfl := h0
      obtain rfl := h2
      show wpList _ _ _ _ _ _
      have hp : Owns w' g (.slice (some ⟨g, 0, none⟩) 4 80) (w4 h.v) := hP (by decide)
      clear hP
      have HP := Lib.hid hp
      clear hp
      go_wp2_with (at_builtin; refine wpList_append_fit_u8 rfl (.tmp 8) (.tmp 10) rfl g 4 80 (w4 h.v) rfl rfl HP.out _ (idb h.p) 32 rfl (idb_len _) (by omega) (hd_bytes_p hB.1 32) (by omega) (fun w5 h1 h2 h3 h4 => ?_))
      exact StepW.of_eq (by decide) ⟨_, rfl, rfl, h4, ⟨⟨h3 b0 _ hB.1 hne, h2 _ _ hgw hB.2⟩, h1⟩, keepL_at _ _ ⟨fun _ => fun u h => h, fun _ => fun u h => h, fun _ => fun u h => h, fun h => absurd rfl h, fun _ => fun u h => h, fun _ => fun u h => h, trivial⟩⟩
    · as_aux_lemma =>
      refine fun w' hS hB hP => ?_
      show wpList _ _ _ _ _ _
      go_wp2_with fail
      exact StepW.of_ne (by decide) ⟨.pointer (some ⟨b0, 33, none⟩), by first | rfl | (go_simp; done), rfl, Below.refl _ _, fun h => absurd h (by decide)⟩
    · as_aux_lemma =>
      refine fun w' hS hB hP v4 h4 => ?_
      obtain rfl := h4
      show wpList _ _ _ _ _ _
      go_wp2_with fail
      exact StepW.of_ne (by decide) ⟨.slice (some ⟨b0, 33, none⟩) 32 32, by first | rfl | (go_simp; done), rfl, Below.refl _ _, fun h => absurd h (by decide)⟩
    · refine fun w' G hS hB hR hN1 hN2 v0 h0 v1 h1 v2 h2 v3 h3 v4 h4 v5 h5 => ?_
      replace h0 := h0.1
      replace h1 := h1.1
      replace h2 := h2.1
      replace h3 := h3.1
      replace h4 := h4.1
      replace h5 := h5.1
      clear hN1 hN2
      obtain rfl := h3
      obtain rfl := h5
      simp only [onP, List.drop_succ_cons, List.drop_zero]
      go_simp
      clear h0 h1 h2 h4
      have hR' : Owns w' g (.slice (some ⟨g, 0, none⟩) 36 80) (w4 h.v ++ idb h.p) := hR
      have HO := Lib.hid hR'
      have K3 := Lib.hid hB.1; have B3 := Lib.hid hB.2
      clear hR hR' hB
      go_wp2_with (at_builtin; refine wpList_append_fit_u8 rfl (.tmp 11) (.tmp 13) rfl g 36 80 (w4 h.v ++ idb h.p) rfl (by rw [List.length_append, idb_len]; rfl) HO.out _ (idb h.r) 32 rfl (idb_len _) (by omega) (hd_bytes_r K3.out 32) (by omega) (fun w5 h1 h2 h3 h4 => ?_))
      have O5 : Hid (Owns w5 g (.slice (some ⟨g, 0, none⟩) 68 80) (w4 h.v ++ (idb h.p ++ idb h.r))) := Lib.hid (by rw [← List.append_assoc]; exact h1)
      have K5 := Lib.hid (h3 b0 _ K3.out hne); have B5 := Lib.hid (h2 w.heap.size w hgw B3.out)
      clear h1 h2 h3 h4 HO K3 B3 K2 B2
      go_wp2_with fail
      obtain ⟨q, hq⟩ : ∃ q, q = w4 h.v ++ (idb h.p ++ idb h.r) := ⟨_, rfl⟩
      have hql : q.length = 68 := by rw [hq, List.length_append, List.length_append, idb_len, idb_len]; rfl
      rw [← hq] at O5
      have HQ := Lib.hid hq; have HQL := Lib.hid hql
      clear hq hql
      refine wp_region_writers 9 [3, 6] (fun j => false) (fun V => V.heap[b0]? = some (hdblk h) ∧ Below w.heap.size w V) [fun V => Owns V g (.slice (some ⟨g, 0, none⟩) 68 80) q, fun V => Owns V g (.slice (some ⟨g, 0, none⟩) 72 80) (q ++ w4 h.t), fun V => Owns V g (.slice (some ⟨g, 0, none⟩) 76 80) (q ++ w4 h.t ++ w4 h.b)] [Is (.slice (some ⟨g, 0, none⟩) 68 80), Is (.pointer (some ⟨b0, 65, none⟩)), Is (.int .u32 (h.t : Int)), Is (.slice (some ⟨g, 0, none⟩) 72 80), Is (.pointer (some ⟨b0, 66, none⟩)), Is (.int .u32 (h.b : Int)), Is (.slice (some ⟨g, 0, none⟩) 76 80), Is (.pointer (some ⟨b0, 67, none⟩)), Is (.int .u32 (h.n : Int))] [[], [], [(1, some 16)], [(0, some 15), (2, some 17)], [], [(4, some 19)], [(3, some 18), (5, some 20)], [], [(7, some 22)], [(6, some 21), (8, some 23)], [(9, some 24)]] [(0, some 15), (1, some 16), (2, some 17), (3, some 18), (4, some 19), (5, some 20), (6, some 21), (7, some 22), (8, some 23)] [0, 0, 2, 7, 0, 16, 63, 0, 128, 511, 1023]
        (by kernel_rfl) (by kernel_rfl) (by kernel_rfl) (by kernel_rfl) (by kernel_rfl) ⟨Is.kept _, Is.kept _, Is.kept _, Is.kept _, Is.kept _, Is.kept _, Is.kept _, Is.kept _, Is.kept _, trivial⟩ (fun _ _ hb k => ⟨block_keep hb k.1, k.2.trans (hb.mono k.2.size)⟩) ⟨fun _ _ hb k => Owns.keep k hb, fun _ _ hb k => Owns.keep k hb, fun _ _ hb k => Owns.keep k hb, trivial⟩ (by kernel_rfl) (fun _ _ hb => ⟨block_keep hb K5.out, B5.out.trans (hb.mono B5.out.size)⟩) (fun _ hb => O5.out.keep hb) ⟨?_, ?_, ?_, ?_, ?_, ?_, ?_, ?_, ?_, trivial⟩ ?_
      · as_aux_lemma =>
        refine fun w' hS hB hP => ?_
        show wpList _ _ _ _ _ _
        go_wp2_with fail
        exact StepW.of_ne (by decide) ⟨.slice (some ⟨g, 0, none⟩) 68 80, by first | rfl | (go_simp; done), rfl, Below.refl _ _, fun h => absurd h (by decide)⟩
      · as_aux_lemma =>
        refine fun w' hS hB hP => ?_
        show wpList _ _ _ _ _ _
        go_wp2_with fail
        exact StepW.of_ne (by decide) ⟨.pointer (some ⟨b0, 65, none⟩), by first | rfl | (go_simp; done), rfl, Below.refl _ _, fun h => absurd h (by decide)⟩
      · as_aux_lemma =>
        refine fun w' hS hB hP v1 h1 => ?_
        obtain rfl := h1
        show wpList _ _ _ _ _ _
        have c := (hd_cell hB.1 65).trans (hdcs_t h)
        go_wp2_with fail
        exact StepW.of_ne (by decide) ⟨_, rfl, rfl, Below.refl _ _, fun h => absurd h (by decide)⟩
      · as_aux_lemma =>
        refine fun w' hS hB hP v0 h0 v2 h2 => ?_
        obtain rfl := h0
        obtain rfl := h2
        show wpList _ _ _ _ _ _
        have hp : Owns w' g (.slice (some ⟨g, 0, none⟩) 68 80) q := hP (by decide)
        clear hP
        have HP := Lib.hid hp
        clear hp
        go_wp2_with fail
        refine (put4_any g 68 80 q HQL.out h.t ht1 w' HP.out (by omega)).mono ?_
        rintro e w2 ⟨rfl, h1, h2, h3, h4⟩
        go_wp2_with fail
        exact StepW.of_eq (by decide) ⟨_, rfl, rfl, h4, ⟨⟨h3 b0 _ hB.1 hne, h2 _ _ hgw hB.2⟩, h1⟩, keepL_at _ _ ⟨fun _ => fun u h => h, fun _ => fun u h => h, fun _ => fun u h => h, fun h => absurd rfl h, fun _ => fun u h => h, fun _ => fun u h => h, fun _ => fun u h => h, fun _ => fun u h => h, fun _ => fun u h => h, trivial⟩⟩
      · as_aux_lemma =>
        refine fun w' hS hB hP => ?_
        show wpList _ _ _ _ _ _
        go_wp2_with fail
        exact StepW.of_ne (by decide) ⟨.pointer (some ⟨b0, 66, none⟩), by first | rfl | (go_simp; done), rfl, Below.refl _ _, fun h => absurd h (by decide)⟩
      · as_aux_lemma =>
        refine fun w' hS hB hP v4 h4 => ?_
        obtain rfl := h4
        show wpList _ _ _ _ _ _
        have c := (hd_cell hB.1 66).trans (hdcs_b h)
        go_wp2_with fail
        exact StepW.of_ne (by decide) ⟨_, rfl, rfl, Below.refl _ _, fun h => absurd h (by decide)⟩
      · as_aux_lemma =>
        refine fun w' hS hB hP v3 h3 v5 h5 => ?_
        obtain rfl := h3
        obtain rfl := h5
        show wpList _ _ _ _ _ _
        have hp : Owns w' g (.slice (some ⟨g, 0, none⟩) 72 80) (q ++ w4 h.t) := hP (by decide)
        clear hP
        have HP := Lib.hid hp
        clear hp
        go_wp2_with fail
        refine (put4_any g 72 80 _ (by rw [List.length_append, HQL.out]; rfl) h.b hb1 w' HP.out (by omega)).mono ?_
        rintro e w2 ⟨rfl, h1, h2, h3, h4⟩
        go_wp2_with fail
        exact StepW.of_eq (by decide) ⟨_, rfl, rfl, h4, ⟨⟨h3 b0 _ hB.1 hne, h2 _ _ hgw hB.2⟩, h1⟩, keepL_at _ _ ⟨fun _ => fun u h => h, fun _ => fun u h => h, fun _ => fun u h => h, fun _ => fun u h => h, fun _ => fun u h => h, fun _ => fun u h => h, fun h => absurd rfl h, fun _ => fun u h => h, fun _ => fun u h => h, trivial⟩⟩
      · as_aux_lemma =>
        refine fun w' hS hB hP => ?_
        show wpList _ _ _ _ _ _
        go_wp2_with fail
        exact StepW.of_ne (by decide) ⟨.pointer (some ⟨b0, 67, none⟩), by first | rfl | (go_simp; done), rfl, Below.refl _ _, fun h => absurd h (by decide)⟩
      · as_aux_lemma =>
        refine fun w' hS hB hP v7 h7 => ?_
        obtain rfl := h7
        show wpList _ _ _ _ _ _
        have c := (hd_cell hB.1 67).trans (hdcs_n h)
        go_wp2_with fail
        exact StepW.of_ne (by decide) ⟨_, rfl, rfl, Below.refl _ _, fun h => absurd h (by decide)⟩
      · refine fun w' G hS hB hR hN1 hN2 v0 h0 v1 h1 v2 h2 v3 h3 v4 h4 v5 h5 v6 h6 v7 h7 v8 h8 => ?_
        replace h0 := h0.1
        replace h1 := h1.1
        replace h2 := h2.1
        replace h3 := h3.1
        replace h4 := h4.1
        replace h5 := h5.1
        replace h6 := h6.1
        replace h7 := h7.1
        replace h8 := h8.1
        clear hN1 hN2
        obtain rfl := h6
        obtain rfl := h8
        simp only [onP, List.drop_succ_cons, List.drop_zero]
        go_simp
        clear h0 h1 h2 h3 h4 h5 h7
        have hR' : Owns w' g (.slice (some ⟨g, 0, none⟩) 76 80) (q ++ w4 h.t ++ w4 h.b) := hR
        have HO := Lib.hid hR'
        have B6 := Lib.hid hB.2
        clear hR hR' hB
        go_wp2_with fail
        refine (put4_any g 76 80 _ (by rw [List.length_append, List.length_append, HQL.out]; rfl) h.n hn1 w' HO.out (by omega)).mono ?_
        rintro e w7 ⟨rfl, h1, h2, h3, h4⟩
        have O7 : Hid (Owns w7 g (.slice (some ⟨g, 0, none⟩) 80 80) (hby h)) := Lib.hid (by
          have : hby h = q ++ w4 h.t ++ w4 h.b ++ w4 h.n := by rw [HQ.out]; unfold hby; simp only [List.append_assoc]
          rw [this]; exact h1)
        have B7 := Lib.hid (h2 w.heap.size w hgw B6.out)
        clear h1 h2 h3 h4 HO B6
        go_wp2_with fail
        go_ret
        exact ⟨g, rfl, hgw, O7.out, B7.out⟩
end Go.Proofs.Ytnbppbnjkmopeaa
