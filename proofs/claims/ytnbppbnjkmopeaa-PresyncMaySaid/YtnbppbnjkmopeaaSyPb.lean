/- One header in the first phase. No condition. One header in the second phase. No condition. presync.May. No condition. One header behind the last one: what the step is made of. No condition. -/
import Derived.Test.YtnbppbnjkmopeaaSyPa
import Derived.Test.YtnbppbnjkmopeaaCmpP
namespace Go.Proofs.Ytnbppbnjkmopeaa
open Go.RowKit

theorem PsIs.need {w : World} {g : Nat} {vb vr : Value} {p : Ps} (h : PsIs w g vb vr p) : w.rangeAt g 106 (nvs p.need) := seg_range (S := syS (p.sy vb vr)) (k := 2) h.blk rfl (sy_o _).2.2.1
theorem PsIs.start {w : World} {g : Nat} {vb vr : Value} {p : Ps} (h : PsIs w g vb vr p) : w.rangeAt g 110 (ndL p.start) := seg_range (S := syS (p.sy vb vr)) (k := 3) h.blk rfl (sy_o _).2.2.2.1
theorem PsIs.saltR {w : World} {g : Nat} {vb vr : Value} {p : Ps} (h : PsIs w g vb vr p) : w.rangeAt g 74 (ids p.salt) := seg_range (S := syS (p.sy vb vr)) (k := 1) h.blk rfl (sy_o _).2.1
theorem PsIs.bitsC {w : World} {g : Nat} {vb vr : Value} {p : Ps} (h : PsIs w g vb vr p) : w.cell? ⟨g, 328, none⟩ = some vb := seg_cell (S := syS (p.sy vb vr)) (k := 7) h.blk rfl (sy_o _).2.2.2.2.2.2.2.1
theorem PsIs.readyC {w : World} {g : Nat} {vb vr : Value} {p : Ps} (h : PsIs w g vb vr p) : w.cell? ⟨g, 329, none⟩ = some vr := seg_cell (S := syS (p.sy vb vr)) (k := 8) h.blk rfl (sy_o _).2.2.2.2.2.2.2.2.1
theorem PsIs.atC {w : World} {g : Nat} {vb vr : Value} {p : Ps} (h : PsIs w g vb vr p) : w.cell? ⟨g, 327, none⟩ = some (.int .i64 p.at') := seg_cell (S := syS (p.sy vb vr)) (k := 6) h.blk rfl (sy_o _).2.2.2.2.2.2.1
theorem PsIs.phaseC {w : World} {g : Nat} {vb vr : Value} {p : Ps} (h : PsIs w g vb vr p) : w.cell? ⟨g, 218, none⟩ = some (.int .i64 p.phase) := seg_cell (S := syS (p.sy vb vr)) (k := 4) h.blk rfl (sy_o _).2.2.2.2.1
theorem nd_whole {w : World} {g : Nat} {x : Nd} (h : w.heap[g]? = some (ndblk x)) : w.rangeAt g 0 (ndL x) := fun j v hv => by
  rw [Nat.zero_add, cell_of_row _ _ _ _ _ _ h, List.getElem?_toArray]; exact hv
theorem nd_work {w : World} {g : Nat} {x : Nd} (h : w.heap[g]? = some (ndblk x)) : w.rangeAt g 103 (nvs x.work) := seg_range (S := ndS x) (k := 5) h rfl (nd_o5 x)
theorem nd_id {w : World} {g : Nat} {x : Nd} (h : w.heap[g]? = some (ndblk x)) : w.rangeAt g 68 (ids x.id) := seg_range (S := ndS x) (k := 1) h rfl (nd_o1 x)
theorem nd_height {w : World} {g : Nat} {x : Nd} (h : w.heap[g]? = some (ndblk x)) : w.cell? ⟨g, 102, none⟩ = some (.int .i64 x.height) := seg_cell (S := ndS x) (k := 4) h rfl (nd_o4 x)
theorem nd_hd {w : World} {g : Nat} {x : Nd} (h : w.heap[g]? = some (ndblk x)) : w.rangeAt g 0 (hdcs x.h) := seg_range (S := ndS x) (k := 0) h rfl (nd_o0 x)
theorem int_info : (Try.prog.info? 3).map (·.size) = some 1 := by kernel_rfl
theorem bools_info : (Try.prog.info? 81).map (·.size) = some 1 := by kernel_rfl
theorem hds_info : (Try.prog.info? 66).map (·.size) = some 1 := by kernel_rfl

theorem PsIs.bits_blk {w w5 : World} {g : Nat} {vb vr : Value} {q : Ps} (h : PsIs w g vb vr q) (hgrow : w.grownBy w5 vb.ownBlock) : w5.heap[g]? = some (syblk (q.sy vb vr)) :=
  (hgrow.block g (block_lt h.blk) (fun e => h.nb e.symm)).trans h.blk
theorem PsIs.bits_new {w w5 w6 : World} {g : Nat} {vb vr v' : Value} {q : Ps} {l : List Bool} (h : PsIs w g vb vr q) (hgrow : w.grownBy w5 vb.ownBlock) (ho : OwnsB w5 0 v' l) (hat : v'.ownBlock = vb.ownBlock ∨ v'.ownBlock = some w.heap.size)
    (h1 : w6.heap[g]? = some (syblk (Ps.sy { q with bits := l } v' vr))) (hg : Gr (fun k => k = g) w5 w6) : PsIs w6 g v' vr { q with bits := l } ∧ Gr (psD g vb vr) w w6 ∧ (∀ k, psD g v' vr k → psD g vb vr k ∨ w.heap.size ≤ k) := by
  have hz := block_lt h.blk
  have hvg : v'.ownBlock ≠ some g := fun e => by
    rcases hat with ha | ha
    · exact h.nb (ha ▸ e)
    · rw [ha] at e; have := Option.some.inj e; omega
  refine ⟨⟨h1, ho.gr hg (fun k hk e => hvg (e ▸ hk)), (h.ready.gr (Gr.of_grown hgrow) (fun k hk e => ?_)).gr hg (fun k hk e => h.nr (e ▸ hk))⟩, ((Gr.of_grown hgrow).mono (fun _ _ e => .inr (.inl e))).trans hg (fun _ _ e => .inl e), fun k hk => ?_⟩
  · rcases own_types h.bits h.ready (by decide) with e1 | e1
    · rw [e1] at e; cases e
    · exact e1 (e.trans hk.symm)
  · rcases hk with hk | hk | hk
    · exact .inl (.inl hk)
    · rcases hat with ha | ha
      · exact .inl (.inr (.inl (ha ▸ hk)))
      · rw [ha] at hk; exact .inr (Nat.le_of_eq (Option.some.inj hk))
    · exact .inl (.inr (.inr hk))
theorem PsIs.bits_next {w0 w w5 w6 : World} {g gx : Nat} {vb vr v' : Value} {q : Ps} {l : List Bool} {x : Nd} (h : PsIs w g vb vr q) (hG : Gr (psD g vb vr) w0 w) (hX : w.heap[gx]? = some (ndblk x)) (hgrow : w.grownBy w5 vb.ownBlock) (ho : OwnsB w5 0 v' l) (hat : v'.ownBlock = vb.ownBlock ∨ v'.ownBlock = some w.heap.size)
    (h1 : w6.heap[g]? = some (syblk (Ps.sy { q with bits := l } v' vr))) (hg : Gr (fun k => k = g) w5 w6) : PsIs w6 g v' vr { q with bits := l } ∧ Gr (psD g vb vr) w0 w6 ∧ (∀ k, psD g v' vr k → psD g vb vr k ∨ w0.heap.size ≤ k) ∧ w6.heap[gx]? = some (ndblk x) := by
  obtain ⟨k1, k2, k3⟩ := h.bits_new hgrow ho hat h1 hg
  refine ⟨k1, hG.trans k2 (fun _ _ e => e), fun k hk => (k3 k hk).imp id (fun e => Nat.le_trans hG.size e), k2.keep hX fun e => ?_⟩
  rcases e with e | e | e
  · have := h.blk
    rw [← e, hX] at this
    simp only [Option.some.injEq, ndblk, syblk, Obj.cells.injEq] at this
    exact absurd this.2.1 (by decide)
  · exact own_ne_obj h.bits hX (by decide) e
  · exact own_ne_obj h.ready hX (by decide) e
set_option maxRecDepth 100000 in
set_option maxHeartbeats 4000000 in
theorem count_any (g : Nat) (vb vr : Value) (p : Ps) (x : Nd) (k : Nat) (hk : x.height = k) (hkl : k < 9223372036854775808) (hx : x.work < 2 ^ 256) (hn : p.need < 2 ^ 256) (hbl : p.bits.length ≤ 256) (w : World) (h : PsIs w g vb vr p) :
    Calls Try.prog 88 #[.pointer (some ⟨g, 0, none⟩), ndv x] w fun e w' => (∃ v, e = .returned v) ∧ PsTo w w' g vb vr (countP p x k) := by
  have hne := h.nb
  have hD0 : g < w.heap.size := block_lt h.blk
  have K1 := Lib.hid (h.keep (below_alloc (Below.refl w.heap.size w) (ndblk x)))
  have KX := Lib.hid (heap_new w (ndblk x))
  have G1 := Lib.hid (Gr.of_below (psD g vb vr) (below_alloc (Below.refl w.heap.size w) (ndblk x)))
  have hgx : g ≠ w.heap.size := by omega
  obtain ⟨R, hR⟩ : ∃ R, R = countP p x k := ⟨_, rfl⟩
  rw [← hR]
  obtain ⟨q, hq⟩ : ∃ q : Ps, q = { p with last := x } := ⟨_, rfl⟩
  have HR : Hid (R = if k % 4 = q.salt % 256 % 4 then (if q.bits.length = 256 then failP q 2 else cntF { q with bits := q.bits ++ [hbit q.salt x.id] } x) else cntF q x) := Lib.hid (by rw [hR, hq]; rfl)
  have hqn : q.need < 2 ^ 256 := by rw [hq]; exact hn
  have hql : q.bits.length ≤ 256 := by rw [hq]; exact hbl
  have HQ := Lib.hid hq
  have HH := Lib.hid hk
  have DEF : Hid (∀ k, psD g vb vr k → psD g vb vr k ∨ w.heap.size ≤ k) := Lib.hid fun _ h => .inl h
  clear hq hR hn hbl h hk
  go_enter Try.func88, Try.ntmps88
  go_wp2_with (first | refine ld_nd rfl (.tmp 3) rfl w.heap.size 0 x rfl (nd_whole KX.out) ?_ | (refine st_seg rfl 69 (.tmp 7) (.tmp 5) rfl g 5 219 (syS (p.sy vb vr)) 153 (ndL p.last) (ndL x) rfl rfl K1.out.blk rfl (sy_o _).2.2.2.2.2.1 (by rw [ndL_len, ndL_len]) (by rw [ndL_len]; exact nd_info) (nd1 x) (fun w2 h1 h2 h3 h4 => ?_); have K2 : Hid (PsIs w2 g vb vr q) := Lib.hid (HQ.out ▸ K1.out.to h1 (Gr.of_st h2 h4) rfl rfl); have KX2 := Lib.hid ((h2 _ hgx.symm).trans KX.out); have G2 : Hid (Gr (psD g vb vr) w w2) := Lib.hid (G1.out.trans (Gr.of_st h2 h4) (fun _ _ e => .inl e)); have c102 := HH.out ▸ nd_height KX2.out; have hz2 := h3; clear h1 h2 h3 h4))
  obtain ⟨gx, hgx2⟩ : ∃ gx, gx = w.heap.size := ⟨_, rfl⟩
  have HGX := Lib.hid hgx2
  rw [← hgx2] at KX2 hgx
  rw [← hgx2]
  refine (marked_any g (q.sy vb vr) k hkl _ K2.out.blk).mono ?_
  rintro e w3 ⟨rfl, hb⟩
  have K3 := Lib.hid (K2.out.keep hb); have KX3 := Lib.hid (block_keep hb KX2.out); have G3 := Lib.hid (G2.out.next hb)
  rw [show (q.sy vb vr).salt = q.salt from rfl]
  clear hb K2 KX2 G2 K1 KX G1 c102 hz2 hgx2 HQ HH
  by_cases hm : k % 4 = q.salt % 256 % 4
  · rw [decide_eq_true hm]
    rw [if_pos hm] at HR
    obtain ⟨xb, cb, rfl⟩ := K3.out.bits.shape
    have c328 := K3.out.bitsC
    by_cases h256 : q.bits.length = 256
    · rw [if_pos h256] at HR
      rw [h256] at c328
      go_wp2_with fail
      refine (psfail_any g _ vr q 2 _ K3.out).mono ?_
      rintro e w4 ⟨⟨v, rfl⟩, hP, hG⟩
      have KF := Lib.hid hP; have GF := Lib.hid (G3.out.trans hG (fun _ _ e => .inl e))
      clear hP hG c328
      go_wp2_with fail
      exact bodyPost_ret (v := .tuple #[]) (by simp [results]) rfl ⟨⟨_, rfl⟩, _, _, HR.out ▸ KF.out, GF.out, fun k hk => .inl (by rcases hk with hk | hk | hk; exact .inl hk; cases hk; cases hk)⟩
    · rw [if_neg h256] at HR
      have hb0 : ((q.bits.length : Int) == 256) = false := by simp; omega
      go_wp2_with fail
      clear hb0 c328
      refine wp_region_z 13 [0] (fun j => decide (j = 12) || false) [Is (.pointer (some ⟨g, 0, none⟩)), Is (.pointer (some ⟨g, 0, none⟩)), Is (.pointer (some ⟨g, 0, none⟩)), Is (.pointer (some ⟨g, 328, none⟩)), Is (.slice xb q.bits.length cb), Is (.pointer (some ⟨g, 0, none⟩)), Is (.pointer (some ⟨g, 0, none⟩)), Is (.pointer (some ⟨g, 74, none⟩)), Is (iv q.salt), Is (.pointer (some ⟨gx, 68, none⟩)), Is (iv x.id), Is (.bool (hbit q.salt x.id)), RowOf #[.bool (hbit q.salt x.id)] 4 1 1] [[], [], [(1, some 21)], [(2, some 22)], [(3, some 23)], [], [(5, some 25)], [(6, some 26)], [(7, some 27)], [], [(9, some 29)], [(8, some 28), (10, some 30)], [(11, some 31)], [(4, some 24), (12, some 32)], [(0, some 20)], [(14, some 34)], [(13, some 33), (15, some 35)]] [(0, some 20), (1, some 21), (2, some 22), (3, some 23), (4, some 24), (5, some 25), (6, some 26), (7, some 27), (8, some 28), (9, some 29), (10, some 30), (11, some 31), (12, some 32)] [0, 0, 2, 6, 14, 0, 32, 96, 224, 0, 512, 2016, 4064, 8190, 16383, 32767, 65535]
        (by kernel_rfl) (by kernel_rfl) (by kernel_rfl) (by kernel_rfl) (by kernel_rfl) ⟨Is.kept _, Is.kept _, Is.kept _, Is.kept _, Is.kept _, Is.kept _, Is.kept _, Is.kept _, Is.kept _, Is.kept _, Is.kept _, Is.kept _, RowOf.kept _ _ _ _, trivial⟩ ⟨?_, trivial⟩ ⟨?_, ?_, ?_, ?_, ?_, ?_, ?_, ?_, ?_, ?_, ?_, ?_, ?_, trivial⟩ ?_
      · as_aux_lemma =>
        refine fun w' hB => (show onP _ w' [] _ _ from ?_)
        skip
        exact ⟨_, .pointer (some ⟨g, 0, none⟩), rfl, Or.inl ⟨by rfl, fun w => by go_simp⟩⟩
      · as_aux_lemma =>
        refine fun w' hB => ?_
        show wpList _ _ _ _ _ _
        go_wp2_with fail
        exact ⟨.pointer (some ⟨g, 0, none⟩), by first | rfl | (go_simp; done), rfl, Below.refl _ _, fun h => absurd h (by decide)⟩
      · as_aux_lemma =>
        refine fun w' hB => ?_
        show wpList _ _ _ _ _ _
        go_wp2_with fail
        exact ⟨.pointer (some ⟨g, 0, none⟩), by first | rfl | (go_simp; done), rfl, Below.refl _ _, fun h => absurd h (by decide)⟩
      · as_aux_lemma =>
        refine fun w' hB v1 h1 => ?_
        obtain rfl := h1
        show wpList _ _ _ _ _ _
        go_wp2_with fail
        exact ⟨.pointer (some ⟨g, 0, none⟩), by first | rfl | (go_simp; done), rfl, Below.refl _ _, fun h => absurd h (by decide)⟩
      · as_aux_lemma =>
        refine fun w' hB v2 h2 => ?_
        obtain rfl := h2
        show wpList _ _ _ _ _ _
        go_wp2_with fail
        exact ⟨.pointer (some ⟨g, 328, none⟩), by first | rfl | (go_simp; done), rfl, Below.refl _ _, fun h => absurd h (by decide)⟩
      · as_aux_lemma =>
        refine fun w' hB v3 h3 => ?_
        obtain rfl := h3
        show wpList _ _ _ _ _ _
        have c := (K3.out.keep hB).bitsC
        go_wp2_with fail
        exact ⟨_, rfl, rfl, Below.refl _ _, fun h => absurd h (by decide)⟩
      · as_aux_lemma =>
        refine fun w' hB => ?_
        show wpList _ _ _ _ _ _
        go_wp2_with fail
        exact ⟨.pointer (some ⟨g, 0, none⟩), by first | rfl | (go_simp; done), rfl, Below.refl _ _, fun h => absurd h (by decide)⟩
      · as_aux_lemma =>
        refine fun w' hB v5 h5 => ?_
        obtain rfl := h5
        show wpList _ _ _ _ _ _
        go_wp2_with fail
        exact ⟨.pointer (some ⟨g, 0, none⟩), by first | rfl | (go_simp; done), rfl, Below.refl _ _, fun h => absurd h (by decide)⟩
      · as_aux_lemma =>
        refine fun w' hB v6 h6 => ?_
        obtain rfl := h6
        show wpList _ _ _ _ _ _
        go_wp2_with fail
        exact ⟨.pointer (some ⟨g, 74, none⟩), by first | rfl | (go_simp; done), rfl, Below.refl _ _, fun h => absurd h (by decide)⟩
      · as_aux_lemma =>
        refine fun w' hB v7 h7 => ?_
        obtain rfl := h7
        show wpList _ _ _ _ _ _
        go_wp2_with (first | refine ld_id rfl (.tmp 27) rfl g 74 q.salt rfl (K3.out.keep hB).saltR ?_)
        exact ⟨_, rfl, rfl, Below.refl _ _, fun h => absurd h (by decide)⟩
      · as_aux_lemma =>
        refine fun w' hB => ?_
        show wpList _ _ _ _ _ _
        go_wp2_with fail
        exact ⟨.pointer (some ⟨gx, 68, none⟩), by first | rfl | (go_simp; done), rfl, Below.refl _ _, fun h => absurd h (by decide)⟩
      · as_aux_lemma =>
        refine fun w' hB v9 h9 => ?_
        obtain rfl := h9
        show wpList _ _ _ _ _ _
        go_wp2_with (first | refine ld_id rfl (.tmp 29) rfl gx 68 x.id rfl (nd_id (block_keep hB KX3.out)) ?_)
        exact ⟨_, rfl, rfl, Below.refl _ _, fun h => absurd h (by decide)⟩
      · as_aux_lemma =>
        refine fun w' hB v8 h8 v10 h10 => ?_
        obtain rfl := h8
        obtain rfl := h10
        show wpList _ _ _ _ _ _
        go_wp2_with fail
        refine ((bit_any _ _ w')).mono ?_
        rintro e w2 ⟨rfl, hb2⟩
        go_wp2_with fail
        exact ⟨.bool (hbit q.salt x.id), by first | rfl | (go_simp; done), rfl, hb2, fun h => absurd h (by decide)⟩
      · as_aux_lemma =>
        refine fun w' hB v11 h11 => ?_
        obtain rfl := h11
        show wpList _ _ _ _ _ _
        go_wp2_with fail
        exact ⟨_, rfl, ⟨_, rfl, heap_new _ _⟩, below_alloc (Below.refl _ _) _, fun _ => ⟨_, rfl, Nat.le_refl _, by simp⟩⟩
      · refine fun w' G hB hN1 hN2 v0 h0 v1 h1 v2 h2 v3 h3 v4 h4 v5 h5 v6 h6 v7 h7 v8 h8 v9 h9 v10 h10 v11 h11 v12 h12 => ?_
        replace h0 := h0.1
        replace h1 := h1.1
        replace h2 := h2.1
        replace h3 := h3.1
        replace h4 := h4.1
        replace h5 := h5.1
        replace h6 := h6.1
        replace h7 := h7.1
        replace h8 := h8.1
        replace h9 := h9.1
        replace h10 := h10.1
        replace h11 := h11.1
        obtain ⟨h12, hG12⟩ := h12; replace hG12 := hG12 (by decide)
        have hW12 := hN1 12 (by decide) (by decide)
        clear hN1 hN2
        obtain rfl := h0
        obtain rfl := h4
        obtain ⟨g12, rfl, hg12⟩ := h12
        obtain ⟨gn12, en12, hge12, hlt12⟩ := hW12
        obtain rfl := Option.some.inj (hG12.trans en12)
        dsimp only at hge12 hlt12
        clear en12
        simp only [onP, List.drop_succ_cons, List.drop_zero]
        go_simp
        clear h1 h2 h3 h5 h6 h7 h8 h9 h10 h11
        have K4 := Lib.hid (K3.out.keep hB); have G4 := Lib.hid (G3.out.next hB); have KX4 := Lib.hid (block_keep hB KX3.out)
        clear hB K3 G3 KX3 hne
        obtain ⟨b, hb⟩ : ∃ b, b = hbit q.salt x.id := ⟨_, rfl⟩
        rw [← hb] at hg12 HR
        have hcell : w'.cell? ⟨g12, 0, none⟩ = some (.bool b) := (cell_of_row _ _ _ _ _ _ hg12).trans rfl
        have HCL := Lib.hid hcell
        clear hb hcell hg12
        go_wp2_with (first | (at_builtin; refine wpList_append_bol rfl (.tmp 24) (.tmp 32) rfl 0 (.slice xb q.bits.length cb) q.bits rfl K4.out.bits g12 b rfl HCL.out (by omega) (Nat.zero_le _) (fun v' w5 ho hgrow hat => ?_); obtain ⟨x5, c5, e5⟩ := ho.shape; rw [List.length_append, List.length_singleton] at e5; subst e5; have HGR := Lib.hid hgrow; have HO := Lib.hid ho; have HAT := Lib.hid hat; clear ho hgrow hat) | (refine st_one rfl 81 (.tmp 35) (.tmp 33) rfl g 7 328 (syS (q.sy (.slice xb q.bits.length cb) vr)) 153 (.slice xb q.bits.length cb) (.slice x5 (q.bits.length + 1) c5) rfl rfl (K4.out.bits_blk HGR.out) rfl (sy_o _).2.2.2.2.2.2.2.1 bools_info rfl (fun w6 h1 h2 h3 h4 => ?_); obtain ⟨k5, k6, k7, k8⟩ := K4.out.bits_next G4.out KX4.out HGR.out HO.out HAT.out h1 (Gr.of_st h2 h4); have K5 := Lib.hid k5; have G5 := Lib.hid k6; have DEF5 := Lib.hid k7; have KX5 := Lib.hid k8; clear h1 h2 h3 h4 k5 k6 k7 k8 HGR HO HAT))
        clear K4 G4 KX4 DEF HCL
        obtain ⟨q5, hq5⟩ : ∃ q5, q5 = { q with bits := q.bits ++ [b] } := ⟨_, rfl⟩
        rw [← hq5] at K5 HR
        have hqn5 : q5.need < 2 ^ 256 := by rw [hq5]; exact hqn
        clear hq5 hqn
        have cc := Lib.hid fun W => cmp_any x.work q5.need hx hqn5 W
        by_cases hw : q5.need ≤ x.work
        · have hc : 0 ≤ cmpn x.work q5.need := by unfold cmpn; split <;> (try split) <;> omega
          have hRq : R = { q5 with phase := 2, last := q5.start } := by rw [HR.out, cntF, if_pos hw]
          clear HR
          refine wp_region_by [Is (.pointer (some ⟨gx, 103, none⟩)), Is (nv x.work), Is (.pointer (some ⟨g, 0, none⟩)), Is (.pointer (some ⟨g, 0, none⟩)), Is (.pointer (some ⟨g, 106, none⟩)), Is (nv q5.need), Is (.int .i64 (cmpn x.work q5.need)), Is (.bool true)] [[], [(0, some 36)], [], [(2, some 38)], [(3, some 39)], [(4, some 40)], [(1, some 37), (5, some 41)], [(6, some 42)]] [(0, some 36), (1, some 37), (2, some 38), (3, some 39), (4, some 40), (5, some 41), (6, some 42), (7, some 43)] [0, 1, 0, 4, 12, 28, 63, 127]
            (by kernel_rfl) (by kernel_rfl) (by kernel_rfl) (by kernel_rfl) ⟨Is.kept _, Is.kept _, Is.kept _, Is.kept _, Is.kept _, Is.kept _, Is.kept _, Is.kept _, trivial⟩ ⟨?_, ?_, ?_, ?_, ?_, ?_, ?_, ?_, trivial⟩ ?_
          · as_aux_lemma =>
            refine fun w' hB => ?_
            show wpList _ _ _ _ _ _
            go_wp2_with fail
            exact ⟨.pointer (some ⟨gx, 103, none⟩), by first | rfl | (go_simp; done), rfl, Below.refl _ _⟩
          · as_aux_lemma =>
            refine fun w' hB v0 h0 => ?_
            obtain rfl := h0
            show wpList _ _ _ _ _ _
            go_wp2_with (first | refine wpList_load_nr rfl (.tmp 36) rfl gx 103 x.work rfl (nd_work (block_keep hB KX5.out)) ?_)
            exact ⟨nv x.work, rfl, rfl, Below.refl _ _⟩
          · as_aux_lemma =>
            refine fun w' hB => ?_
            show wpList _ _ _ _ _ _
            go_wp2_with fail
            exact ⟨.pointer (some ⟨g, 0, none⟩), by first | rfl | (go_simp; done), rfl, Below.refl _ _⟩
          · as_aux_lemma =>
            refine fun w' hB v2 h2 => ?_
            obtain rfl := h2
            show wpList _ _ _ _ _ _
            go_wp2_with fail
            exact ⟨.pointer (some ⟨g, 0, none⟩), by first | rfl | (go_simp; done), rfl, Below.refl _ _⟩
          · as_aux_lemma =>
            refine fun w' hB v3 h3 => ?_
            obtain rfl := h3
            show wpList _ _ _ _ _ _
            go_wp2_with fail
            exact ⟨.pointer (some ⟨g, 106, none⟩), by first | rfl | (go_simp; done), rfl, Below.refl _ _⟩
          · as_aux_lemma =>
            refine fun w' hB v4 h4 => ?_
            obtain rfl := h4
            show wpList _ _ _ _ _ _
            go_wp2_with (first | refine wpList_load_nr rfl (.tmp 40) rfl g 106 q5.need rfl (K5.out.keep hB).need ?_)
            exact ⟨nv q5.need, rfl, rfl, Below.refl _ _⟩
          · as_aux_lemma =>
            refine fun w' hB v1 h1 v5 h5 => ?_
            obtain rfl := h1
            obtain rfl := h5
            show wpList _ _ _ _ _ _
            go_wp2_with fail
            refine (cc.out w').mono ?_
            rintro e w2 ⟨rfl, hb2⟩
            go_wp2_with fail
            exact ⟨.int .i64 (cmpn x.work q5.need), by first | rfl | (go_simp; done), rfl, hb2⟩
          · as_aux_lemma =>
            refine fun w' hB v6 h6 => ?_
            obtain rfl := h6
            show wpList _ _ _ _ _ _
            go_wp2_with fail
            exact ⟨.bool true, by first | rfl | (go_simp; done), rfl, Below.refl _ _⟩
          · refine fun w' hB v0 h0 v1 h1 v2 h2 v3 h3 v4 h4 v5 h5 v6 h6 v7 h7 => ?_
            obtain rfl := h7
            simp only [onP]
            go_simp
            clear h0 h1 h2 h3 h4 h5 h6
            have K4 := Lib.hid (K5.out.keep hB); have G4 := Lib.hid (G5.out.next hB)
            clear hB K5 KX5 G5 cc
            go_wp2_with (first | refine ld_nd rfl (.tmp 48) rfl g 110 q5.start rfl K4.out.start ?_ | (refine st_one rfl 3 (.tmp 51) (.const (.int .i64 2)) rfl g 4 218 (syS (q5.sy (.slice x5 (q.bits.length + 1) c5) vr)) 153 _ (.int .i64 2) rfl rfl K4.out.blk rfl (sy_o _).2.2.2.2.1 int_info rfl (fun w5 h1 h2 h3 h4 => ?_); have G5 := Lib.hid (G4.out.trans (Gr.of_st h2 h4) (fun _ _ e => .inl e)); have K5 : Hid (PsIs w5 g (.slice x5 (q.bits.length + 1) c5) vr { q5 with phase := 2 }) := Lib.hid (K4.out.to h1 (Gr.of_st h2 h4) rfl rfl); clear h1 h2 h3 h4) | (refine st_seg rfl 69 (.tmp 53) (.tmp 49) rfl g 5 219 (syS (Ps.sy { q5 with phase := 2 } (.slice x5 (q.bits.length + 1) c5) vr)) 153 (ndL q5.last) (ndL q5.start) rfl rfl K5.out.blk rfl (sy_o _).2.2.2.2.2.1 (by rw [ndL_len, ndL_len]) (by rw [ndL_len]; exact nd_info) (nd1 _) (fun w6 h1 h2 h3 h4 => ?_); have G6 := Lib.hid (G5.out.trans (Gr.of_st h2 h4) (fun _ _ e => .inl e)); have K6 : Hid (PsIs w6 g (.slice x5 (q.bits.length + 1) c5) vr { q5 with phase := 2, last := q5.start }) := Lib.hid (K5.out.to h1 (Gr.of_st h2 h4) rfl rfl); clear h1 h2 h3 h4))
            exact bodyPost_end (v := .tuple #[]) (by simp [results]) rfl ⟨⟨_, rfl⟩, (.slice x5 (q.bits.length + 1) c5), vr, hRq ▸ K6.out, G6.out, DEF5.out⟩
        · have hc : ¬ 0 ≤ cmpn x.work q5.need := by unfold cmpn; rw [if_pos (by omega)]; omega
          have hRq : R = q5 := by rw [HR.out, cntF, if_neg hw]
          clear HR
          refine wp_region_by [Is (.pointer (some ⟨gx, 103, none⟩)), Is (nv x.work), Is (.pointer (some ⟨g, 0, none⟩)), Is (.pointer (some ⟨g, 0, none⟩)), Is (.pointer (some ⟨g, 106, none⟩)), Is (nv q5.need), Is (.int .i64 (cmpn x.work q5.need)), Is (.bool false)] [[], [(0, some 36)], [], [(2, some 38)], [(3, some 39)], [(4, some 40)], [(1, some 37), (5, some 41)], [(6, some 42)]] [(0, some 36), (1, some 37), (2, some 38), (3, some 39), (4, some 40), (5, some 41), (6, some 42), (7, some 43)] [0, 1, 0, 4, 12, 28, 63, 127]
            (by kernel_rfl) (by kernel_rfl) (by kernel_rfl) (by kernel_rfl) ⟨Is.kept _, Is.kept _, Is.kept _, Is.kept _, Is.kept _, Is.kept _, Is.kept _, Is.kept _, trivial⟩ ⟨?_, ?_, ?_, ?_, ?_, ?_, ?_, ?_, trivial⟩ ?_
          · as_aux_lemma =>
            refine fun w' hB => ?_
            show wpList _ _ _ _ _ _
            go_wp2_with fail
            exact ⟨.pointer (some ⟨gx, 103, none⟩), by first | rfl | (go_simp; done), rfl, Below.refl _ _⟩
          · as_aux_lemma =>
            refine fun w' hB v0 h0 => ?_
            obtain rfl := h0
            show wpList _ _ _ _ _ _
            go_wp2_with (first | refine wpList_load_nr rfl (.tmp 36) rfl gx 103 x.work rfl (nd_work (block_keep hB KX5.out)) ?_)
            exact ⟨nv x.work, rfl, rfl, Below.refl _ _⟩
          · as_aux_lemma =>
            refine fun w' hB => ?_
            show wpList _ _ _ _ _ _
            go_wp2_with fail
            exact ⟨.pointer (some ⟨g, 0, none⟩), by first | rfl | (go_simp; done), rfl, Below.refl _ _⟩
          · as_aux_lemma =>
            refine fun w' hB v2 h2 => ?_
            obtain rfl := h2
            show wpList _ _ _ _ _ _
            go_wp2_with fail
            exact ⟨.pointer (some ⟨g, 0, none⟩), by first | rfl | (go_simp; done), rfl, Below.refl _ _⟩
          · as_aux_lemma =>
            refine fun w' hB v3 h3 => ?_
            obtain rfl := h3
            show wpList _ _ _ _ _ _
            go_wp2_with fail
            exact ⟨.pointer (some ⟨g, 106, none⟩), by first | rfl | (go_simp; done), rfl, Below.refl _ _⟩
          · as_aux_lemma =>
            refine fun w' hB v4 h4 => ?_
            obtain rfl := h4
            show wpList _ _ _ _ _ _
            go_wp2_with (first | refine wpList_load_nr rfl (.tmp 40) rfl g 106 q5.need rfl (K5.out.keep hB).need ?_)
            exact ⟨nv q5.need, rfl, rfl, Below.refl _ _⟩
          · as_aux_lemma =>
            refine fun w' hB v1 h1 v5 h5 => ?_
            obtain rfl := h1
            obtain rfl := h5
            show wpList _ _ _ _ _ _
            go_wp2_with fail
            refine (cc.out w').mono ?_
            rintro e w2 ⟨rfl, hb2⟩
            go_wp2_with fail
            exact ⟨.int .i64 (cmpn x.work q5.need), by first | rfl | (go_simp; done), rfl, hb2⟩
          · as_aux_lemma =>
            refine fun w' hB v6 h6 => ?_
            obtain rfl := h6
            show wpList _ _ _ _ _ _
            go_wp2_with fail
            exact ⟨.bool false, by first | rfl | (go_simp; done), rfl, Below.refl _ _⟩
          · refine fun w' hB v0 h0 v1 h1 v2 h2 v3 h3 v4 h4 v5 h5 v6 h6 v7 h7 => ?_
            obtain rfl := h7
            simp only [onP]
            go_simp
            clear h0 h1 h2 h3 h4 h5 h6
            have K4 := Lib.hid (K5.out.keep hB); have G4 := Lib.hid (G5.out.next hB)
            clear hB K5 KX5 G5 cc
            go_wp2_with fail
            exact bodyPost_end (v := .tuple #[]) (by simp [results]) rfl ⟨⟨_, rfl⟩, (.slice x5 (q.bits.length + 1) c5), vr, hRq ▸ K4.out, G4.out, DEF5.out⟩
  · rw [decide_eq_false hm]
    rw [if_neg hm] at HR
    go_wp2_with fail
    have cc := Lib.hid fun W => cmp_any x.work q.need hx hqn W
    by_cases hw : q.need ≤ x.work
    · have hc : 0 ≤ cmpn x.work q.need := by unfold cmpn; split <;> (try split) <;> omega
      have hRq : R = { q with phase := 2, last := q.start } := by rw [HR.out, cntF, if_pos hw]
      clear HR
      refine wp_region_by [Is (.pointer (some ⟨gx, 103, none⟩)), Is (nv x.work), Is (.pointer (some ⟨g, 0, none⟩)), Is (.pointer (some ⟨g, 0, none⟩)), Is (.pointer (some ⟨g, 106, none⟩)), Is (nv q.need), Is (.int .i64 (cmpn x.work q.need)), Is (.bool true)] [[], [(0, some 36)], [], [(2, some 38)], [(3, some 39)], [(4, some 40)], [(1, some 37), (5, some 41)], [(6, some 42)]] [(0, some 36), (1, some 37), (2, some 38), (3, some 39), (4, some 40), (5, some 41), (6, some 42), (7, some 43)] [0, 1, 0, 4, 12, 28, 63, 127]
        (by kernel_rfl) (by kernel_rfl) (by kernel_rfl) (by kernel_rfl) ⟨Is.kept _, Is.kept _, Is.kept _, Is.kept _, Is.kept _, Is.kept _, Is.kept _, Is.kept _, trivial⟩ ⟨?_, ?_, ?_, ?_, ?_, ?_, ?_, ?_, trivial⟩ ?_
      · as_aux_lemma =>
        refine fun w' hB => ?_
        show wpList _ _ _ _ _ _
        go_wp2_with fail
        exact ⟨.pointer (some ⟨gx, 103, none⟩), by first | rfl | (go_simp; done), rfl, Below.refl _ _⟩
      · as_aux_lemma =>
        refine fun w' hB v0 h0 => ?_
        obtain rfl := h0
        show wpList _ _ _ _ _ _
        go_wp2_with (first | refine wpList_load_nr rfl (.tmp 36) rfl gx 103 x.work rfl (nd_work (block_keep hB KX3.out)) ?_)
        exact ⟨nv x.work, rfl, rfl, Below.refl _ _⟩
      · as_aux_lemma =>
        refine fun w' hB => ?_
        show wpList _ _ _ _ _ _
        go_wp2_with fail
        exact ⟨.pointer (some ⟨g, 0, none⟩), by first | rfl | (go_simp; done), rfl, Below.refl _ _⟩
      · as_aux_lemma =>
        refine fun w' hB v2 h2 => ?_
        obtain rfl := h2
        show wpList _ _ _ _ _ _
        go_wp2_with fail
        exact ⟨.pointer (some ⟨g, 0, none⟩), by first | rfl | (go_simp; done), rfl, Below.refl _ _⟩
      · as_aux_lemma =>
        refine fun w' hB v3 h3 => ?_
        obtain rfl := h3
        show wpList _ _ _ _ _ _
        go_wp2_with fail
        exact ⟨.pointer (some ⟨g, 106, none⟩), by first | rfl | (go_simp; done), rfl, Below.refl _ _⟩
      · as_aux_lemma =>
        refine fun w' hB v4 h4 => ?_
        obtain rfl := h4
        show wpList _ _ _ _ _ _
        go_wp2_with (first | refine wpList_load_nr rfl (.tmp 40) rfl g 106 q.need rfl (K3.out.keep hB).need ?_)
        exact ⟨nv q.need, rfl, rfl, Below.refl _ _⟩
      · as_aux_lemma =>
        refine fun w' hB v1 h1 v5 h5 => ?_
        obtain rfl := h1
        obtain rfl := h5
        show wpList _ _ _ _ _ _
        go_wp2_with fail
        refine (cc.out w').mono ?_
        rintro e w2 ⟨rfl, hb2⟩
        go_wp2_with fail
        exact ⟨.int .i64 (cmpn x.work q.need), by first | rfl | (go_simp; done), rfl, hb2⟩
      · as_aux_lemma =>
        refine fun w' hB v6 h6 => ?_
        obtain rfl := h6
        show wpList _ _ _ _ _ _
        go_wp2_with fail
        exact ⟨.bool true, by first | rfl | (go_simp; done), rfl, Below.refl _ _⟩
      · refine fun w' hB v0 h0 v1 h1 v2 h2 v3 h3 v4 h4 v5 h5 v6 h6 v7 h7 => ?_
        obtain rfl := h7
        simp only [onP]
        go_simp
        clear h0 h1 h2 h3 h4 h5 h6
        have K4 := Lib.hid (K3.out.keep hB); have G4 := Lib.hid (G3.out.next hB)
        clear hB K3 KX3 G3 cc
        go_wp2_with (first | refine ld_nd rfl (.tmp 48) rfl g 110 q.start rfl K4.out.start ?_ | (refine st_one rfl 3 (.tmp 51) (.const (.int .i64 2)) rfl g 4 218 (syS (q.sy vb vr)) 153 _ (.int .i64 2) rfl rfl K4.out.blk rfl (sy_o _).2.2.2.2.1 int_info rfl (fun w5 h1 h2 h3 h4 => ?_); have G5 := Lib.hid (G4.out.trans (Gr.of_st h2 h4) (fun _ _ e => .inl e)); have K5 : Hid (PsIs w5 g vb vr { q with phase := 2 }) := Lib.hid (K4.out.to h1 (Gr.of_st h2 h4) rfl rfl); clear h1 h2 h3 h4) | (refine st_seg rfl 69 (.tmp 53) (.tmp 49) rfl g 5 219 (syS (Ps.sy { q with phase := 2 } vb vr)) 153 (ndL q.last) (ndL q.start) rfl rfl K5.out.blk rfl (sy_o _).2.2.2.2.2.1 (by rw [ndL_len, ndL_len]) (by rw [ndL_len]; exact nd_info) (nd1 _) (fun w6 h1 h2 h3 h4 => ?_); have G6 := Lib.hid (G5.out.trans (Gr.of_st h2 h4) (fun _ _ e => .inl e)); have K6 : Hid (PsIs w6 g vb vr { q with phase := 2, last := q.start }) := Lib.hid (K5.out.to h1 (Gr.of_st h2 h4) rfl rfl); clear h1 h2 h3 h4))
        exact bodyPost_end (v := .tuple #[]) (by simp [results]) rfl ⟨⟨_, rfl⟩, vb, vr, hRq ▸ K6.out, G6.out, DEF.out⟩
    · have hc : ¬ 0 ≤ cmpn x.work q.need := by unfold cmpn; rw [if_pos (by omega)]; omega
      have hRq : R = q := by rw [HR.out, cntF, if_neg hw]
      clear HR
      refine wp_region_by [Is (.pointer (some ⟨gx, 103, none⟩)), Is (nv x.work), Is (.pointer (some ⟨g, 0, none⟩)), Is (.pointer (some ⟨g, 0, none⟩)), Is (.pointer (some ⟨g, 106, none⟩)), Is (nv q.need), Is (.int .i64 (cmpn x.work q.need)), Is (.bool false)] [[], [(0, some 36)], [], [(2, some 38)], [(3, some 39)], [(4, some 40)], [(1, some 37), (5, some 41)], [(6, some 42)]] [(0, some 36), (1, some 37), (2, some 38), (3, some 39), (4, some 40), (5, some 41), (6, some 42), (7, some 43)] [0, 1, 0, 4, 12, 28, 63, 127]
        (by kernel_rfl) (by kernel_rfl) (by kernel_rfl) (by kernel_rfl) ⟨Is.kept _, Is.kept _, Is.kept _, Is.kept _, Is.kept _, Is.kept _, Is.kept _, Is.kept _, trivial⟩ ⟨?_, ?_, ?_, ?_, ?_, ?_, ?_, ?_, trivial⟩ ?_
      · as_aux_lemma =>
        refine fun w' hB => ?_
        show wpList _ _ _ _ _ _
        go_wp2_with fail
        exact ⟨.pointer (some ⟨gx, 103, none⟩), by first | rfl | (go_simp; done), rfl, Below.refl _ _⟩
      · as_aux_lemma =>
        refine fun w' hB v0 h0 => ?_
        obtain rfl := h0
        show wpList _ _ _ _ _ _
        go_wp2_with (first | refine wpList_load_nr rfl (.tmp 36) rfl gx 103 x.work rfl (nd_work (block_keep hB KX3.out)) ?_)
        exact ⟨nv x.work, rfl, rfl, Below.refl _ _⟩
      · as_aux_lemma =>
        refine fun w' hB => ?_
        show wpList _ _ _ _ _ _
        go_wp2_with fail
        exact ⟨.pointer (some ⟨g, 0, none⟩), by first | rfl | (go_simp; done), rfl, Below.refl _ _⟩
      · as_aux_lemma =>
        refine fun w' hB v2 h2 => ?_
        obtain rfl := h2
        show wpList _ _ _ _ _ _
        go_wp2_with fail
        exact ⟨.pointer (some ⟨g, 0, none⟩), by first | rfl | (go_simp; done), rfl, Below.refl _ _⟩
      · as_aux_lemma =>
        refine fun w' hB v3 h3 => ?_
        obtain rfl := h3
        show wpList _ _ _ _ _ _
        go_wp2_with fail
        exact ⟨.pointer (some ⟨g, 106, none⟩), by first | rfl | (go_simp; done), rfl, Below.refl _ _⟩
      · as_aux_lemma =>
        refine fun w' hB v4 h4 => ?_
        obtain rfl := h4
        show wpList _ _ _ _ _ _
        go_wp2_with (first | refine wpList_load_nr rfl (.tmp 40) rfl g 106 q.need rfl (K3.out.keep hB).need ?_)
        exact ⟨nv q.need, rfl, rfl, Below.refl _ _⟩
      · as_aux_lemma =>
        refine fun w' hB v1 h1 v5 h5 => ?_
        obtain rfl := h1
        obtain rfl := h5
        show wpList _ _ _ _ _ _
        go_wp2_with fail
        refine (cc.out w').mono ?_
        rintro e w2 ⟨rfl, hb2⟩
        go_wp2_with fail
        exact ⟨.int .i64 (cmpn x.work q.need), by first | rfl | (go_simp; done), rfl, hb2⟩
      · as_aux_lemma =>
        refine fun w' hB v6 h6 => ?_
        obtain rfl := h6
        show wpList _ _ _ _ _ _
        go_wp2_with fail
        exact ⟨.bool false, by first | rfl | (go_simp; done), rfl, Below.refl _ _⟩
      · refine fun w' hB v0 h0 v1 h1 v2 h2 v3 h3 v4 h4 v5 h5 v6 h6 v7 h7 => ?_
        obtain rfl := h7
        simp only [onP]
        go_simp
        clear h0 h1 h2 h3 h4 h5 h6
        have K4 := Lib.hid (K3.out.keep hB); have G4 := Lib.hid (G3.out.next hB)
        clear hB K3 KX3 G3 cc
        go_wp2_with fail
        exact bodyPost_end (v := .tuple #[]) (by simp [results]) rfl ⟨⟨_, rfl⟩, vb, vr, hRq ▸ K4.out, G4.out, DEF.out⟩
end Go.Proofs.Ytnbppbnjkmopeaa
namespace Go.Proofs.Ytnbppbnjkmopeaa
open Go.RowKit

theorem OwnsH.shape {w : World} {base : Nat} {v : Value} {l : List Hd} (h : OwnsH w base v l) : ∃ x cap, v = .slice x l.length cap := by
  rcases h.2 with ⟨rfl, hq⟩ | ⟨g, cap, cur, rfl, _⟩
  · exact ⟨_, _, by rw [hq]⟩
  · exact ⟨_, _, rfl⟩
theorem PsIs.ready_blk {w w5 : World} {g : Nat} {vb vr : Value} {q : Ps} (h : PsIs w g vb vr q) (hgrow : w.grownBy w5 vr.ownBlock) : w5.heap[g]? = some (syblk (q.sy vb vr)) :=
  (hgrow.block g (block_lt h.blk) (fun e => h.nr e.symm)).trans h.blk
theorem PsIs.ready_next {w0 w w5 w6 : World} {g gx : Nat} {vb vr v' : Value} {q : Ps} {l : List Hd} {x : Nd} (h : PsIs w g vb vr q) (hG : Gr (psD g vb vr) w0 w) (hX : w.heap[gx]? = some (ndblk x)) (hgrow : w.grownBy w5 vr.ownBlock) (ho : OwnsH w5 0 v' l) (hat : v'.ownBlock = vr.ownBlock ∨ v'.ownBlock = some w.heap.size)
    (h1 : w6.heap[g]? = some (syblk (Ps.sy { q with ready := l } vb v'))) (hg : Gr (fun k => k = g) w5 w6) : PsIs w6 g vb v' { q with ready := l } ∧ Gr (psD g vb vr) w0 w6 ∧ (∀ k, psD g vb v' k → psD g vb vr k ∨ w0.heap.size ≤ k) ∧ w6.heap[gx]? = some (ndblk x) := by
  have hz := block_lt h.blk
  have hvg : v'.ownBlock ≠ some g := fun e => by
    rcases hat with ha | ha
    · exact h.nr (ha ▸ e)
    · rw [ha] at e; have := Option.some.inj e; omega
  have k2 : Gr (psD g vb vr) w w6 := ((Gr.of_grown hgrow).mono (fun _ _ e => .inr (.inr e))).trans hg (fun _ _ e => .inl e)
  refine ⟨⟨h1, (h.bits.gr (Gr.of_grown hgrow) (fun k hk e => ?_)).gr hg (fun k hk e => h.nb (e ▸ hk)), ho.gr hg (fun k hk e => hvg (e ▸ hk))⟩, hG.trans k2 (fun _ _ e => e), fun k hk => ?_, k2.keep hX fun e => ?_⟩
  · rcases own_types h.bits h.ready (by decide) with e1 | e1
    · rw [e1] at hk; cases hk
    · exact e1 (hk.trans e.symm)
  · rcases hk with hk | hk | hk
    · exact .inl (.inl hk)
    · exact .inl (.inr (.inl hk))
    · rcases hat with ha | ha
      · exact .inl (.inr (.inr (ha ▸ hk)))
      · rw [ha] at hk; have := Option.some.inj hk; have := hG.size; exact .inr (by omega)
  · rcases e with e | e | e
    · have := h.blk
      rw [← e, hX] at this
      simp only [Option.some.injEq, ndblk, syblk, Obj.cells.injEq] at this
      exact absurd this.2.1 (by decide)
    · exact own_ne_obj h.bits hX (by decide) e
    · exact own_ne_obj h.ready hX (by decide) e
abbrev Ps.up (q : Ps) : Ps := { q with at' := q.at' + 1 }
def agF (q : Ps) (x : Nd) : Ps := if q.need ≤ x.work then { q with ready := q.ready ++ [x.h], phase := 3 } else { q with ready := q.ready ++ [x.h] }
def againP (p : Ps) (x : Nd) (k : Nat) : Ps := if k % 4 = p.salt % 256 % 4 ∧ p.at' < p.bits.length then (if p.bits.getD p.at' false = hbit p.salt x.id then agF { p with last := x, at' := p.at' + 1 } x else failP { p with last := x } 150) else agF { p with last := x } x

set_option maxRecDepth 100000 in
set_option maxHeartbeats 4000000 in
theorem again_any (g : Nat) (vb vr : Value) (p : Ps) (x : Nd) (k : Nat) (hk : x.height = k) (hkl : k < 9223372036854775808) (hx : x.work < 2 ^ 256) (hn : p.need < 2 ^ 256) (hbl : p.bits.length ≤ 256) (hal : p.at' ≤ 256) (hrl : p.ready.length ≤ 900000) (w : World) (h : PsIs w g vb vr p) :
    Calls Try.prog 89 #[.pointer (some ⟨g, 0, none⟩), ndv x] w fun e w' => (∃ v, e = .returned v) ∧ PsTo w w' g vb vr (againP p x k) := by
  have hD0 : g < w.heap.size := block_lt h.blk
  have K1 := Lib.hid (h.keep (below_alloc (Below.refl w.heap.size w) (ndblk x)))
  have KX := Lib.hid (heap_new w (ndblk x))
  have G1 := Lib.hid (Gr.of_below (psD g vb vr) (below_alloc (Below.refl w.heap.size w) (ndblk x)))
  have hgx : g ≠ w.heap.size := by omega
  obtain ⟨R, hR⟩ : ∃ R, R = againP p x k := ⟨_, rfl⟩
  rw [← hR]
  obtain ⟨q, hq⟩ : ∃ q : Ps, q = { p with last := x } := ⟨_, rfl⟩
  have HR : Hid (R = if k % 4 = q.salt % 256 % 4 ∧ q.at' < q.bits.length then (if q.bits.getD q.at' false = hbit q.salt x.id then agF { q with at' := q.at' + 1 } x else failP q 150) else agF q x) := Lib.hid (by rw [hR, hq]; rfl)
  have hqn : q.need < 2 ^ 256 := by rw [hq]; exact hn
  have hql : q.bits.length ≤ 256 := by rw [hq]; exact hbl
  have hqa : q.at' ≤ 256 := by rw [hq]; exact hal
  have hqr : q.ready.length ≤ 900000 := by rw [hq]; exact hrl
  have HQ := Lib.hid hq
  have HH := Lib.hid hk
  clear hq hR hn hbl h hk hal hrl
  go_enter Try.func89, Try.ntmps89
  go_wp2_with (first | refine ld_nd rfl (.tmp 3) rfl w.heap.size 0 x rfl (nd_whole KX.out) ?_ | (refine st_seg rfl 69 (.tmp 7) (.tmp 5) rfl g 5 219 (syS (p.sy vb vr)) 153 (ndL p.last) (ndL x) rfl rfl K1.out.blk rfl (sy_o _).2.2.2.2.2.1 (by rw [ndL_len, ndL_len]) (by rw [ndL_len]; exact nd_info) (nd1 x) (fun w2 h1 h2 h3 h4 => ?_); have K2 : Hid (PsIs w2 g vb vr q) := Lib.hid (HQ.out ▸ K1.out.to h1 (Gr.of_st h2 h4) rfl rfl); have KX2 := Lib.hid ((h2 _ hgx.symm).trans KX.out); have G2 : Hid (Gr (psD g vb vr) w w2) := Lib.hid (G1.out.trans (Gr.of_st h2 h4) (fun _ _ e => .inl e)); clear h1 h2 h3 h4))
  obtain ⟨gx, hgx2⟩ : ∃ gx, gx = w.heap.size := ⟨_, rfl⟩
  rw [← hgx2] at KX2 hgx
  rw [← hgx2]
  have HC : Hid (∀ V : World, V.heap[gx]? = some (ndblk x) → V.cell? ⟨gx, 102, none⟩ = some (.int .i64 k)) := Lib.hid fun V hV => HH.out ▸ nd_height hV
  have cm := Lib.hid fun (W : World) (hW : PsIs W g vb vr q) => marked_any g (q.sy vb vr) k hkl W hW.blk
  rw [show (q.sy vb vr).salt = q.salt from rfl] at cm
  clear K1 KX G1 hgx2 HQ HH
  obtain ⟨xb, cb, rfl⟩ := K2.out.bits.shape
  obtain ⟨xr, cr, rfl⟩ := K2.out.ready.shape
  by_cases hm : k % 4 = q.salt % 256 % 4
  · rw [decide_eq_true hm] at cm
    by_cases hlt : q.at' < q.bits.length
    · rw [if_pos ⟨hm, hlt⟩] at HR
      refine wp_region_by [Is (.pointer (some ⟨g, 0, none⟩)), Is (.pointer (some ⟨gx, 102, none⟩)), Is (.int .i64 k), Is (.bool true), Is (.bool true), Is (.pointer (some ⟨g, 0, none⟩)), Is (.pointer (some ⟨g, 0, none⟩)), Is (.pointer (some ⟨g, 327, none⟩)), Is (.int .i64 q.at'), Is (.pointer (some ⟨g, 0, none⟩)), Is (.pointer (some ⟨g, 0, none⟩)), Is (.pointer (some ⟨g, 328, none⟩)), Is ((.slice xb q.bits.length cb)), Is (.int .i64 q.bits.length), Is (.bool true), Is (.bool true)] [[], [], [(1, some 9)], [(0, some 8), (2, some 10)], [(3, some 11)], [(4, some 12)], [(4, some 12), (5, some 13)], [(4, some 12), (6, some 14)], [(4, some 12), (7, some 15)], [(4, some 12)], [(4, some 12), (9, some 17)], [(4, some 12), (10, some 18)], [(4, some 12), (11, some 19)], [(4, some 12), (12, some 20)], [(4, some 12), (8, some 16), (13, some 21)], [(4, some 12), (14, some 22)]] [(0, some 8), (1, some 9), (2, some 10), (3, some 11), (4, some 12), (5, some 13), (6, some 14), (7, some 15), (8, some 16), (9, some 17), (10, some 18), (11, some 19), (12, some 20), (13, some 21), (14, some 22), (15, some 23)] [0, 0, 2, 7, 15, 31, 63, 127, 255, 31, 543, 1567, 3615, 7711, 16383, 32767]
        (by kernel_rfl) (by kernel_rfl) (by kernel_rfl) (by kernel_rfl) ⟨Is.kept _, Is.kept _, Is.kept _, Is.kept _, Is.kept _, Is.kept _, Is.kept _, Is.kept _, Is.kept _, Is.kept _, Is.kept _, Is.kept _, Is.kept _, Is.kept _, Is.kept _, Is.kept _, trivial⟩ ⟨?_, ?_, ?_, ?_, ?_, ?_, ?_, ?_, ?_, ?_, ?_, ?_, ?_, ?_, ?_, ?_, trivial⟩ ?_
      · as_aux_lemma =>
        refine fun w' hB => ?_
        show wpList _ _ _ _ _ _
        go_wp2_with fail
        exact ⟨.pointer (some ⟨g, 0, none⟩), by first | rfl | (go_simp; done), rfl, Below.refl _ _⟩
      · as_aux_lemma =>
        refine fun w' hB => ?_
        show wpList _ _ _ _ _ _
        go_wp2_with fail
        exact ⟨.pointer (some ⟨gx, 102, none⟩), by first | rfl | (go_simp; done), rfl, Below.refl _ _⟩
      · as_aux_lemma =>
        refine fun w' hB v1 h1 => ?_
        obtain rfl := h1
        show wpList _ _ _ _ _ _
        have c := HC.out _ (block_keep hB KX2.out)
        go_wp2_with fail
        exact ⟨_, rfl, rfl, Below.refl _ _⟩
      · as_aux_lemma =>
        refine fun w' hB v0 h0 v2 h2 => ?_
        obtain rfl := h0
        obtain rfl := h2
        show wpList _ _ _ _ _ _
        go_wp2_with fail
        refine ((cm.out w' (K2.out.keep hB))).mono ?_
        rintro e w2 ⟨rfl, hb2⟩
        go_wp2_with fail
        exact ⟨.bool true, by first | rfl | (go_simp; done), rfl, hb2⟩
      · as_aux_lemma =>
        refine fun w' hB v3 h3 => ?_
        obtain rfl := h3
        show wpList _ _ _ _ _ _
        go_wp2_with fail
        exact ⟨.bool true, by first | rfl | (go_simp; done), rfl, Below.refl _ _⟩
      · as_aux_lemma =>
        refine fun w' hB v4 h4 => ?_
        obtain rfl := h4
        show wpList _ _ _ _ _ _
        go_wp2_with fail
        exact ⟨.pointer (some ⟨g, 0, none⟩), by first | rfl | (go_simp; done), rfl, Below.refl _ _⟩
      · as_aux_lemma =>
        refine fun w' hB v4 h4 v5 h5 => ?_
        obtain rfl := h4
        obtain rfl := h5
        show wpList _ _ _ _ _ _
        go_wp2_with fail
        exact ⟨.pointer (some ⟨g, 0, none⟩), by first | rfl | (go_simp; done), rfl, Below.refl _ _⟩
      · as_aux_lemma =>
        refine fun w' hB v4 h4 v6 h6 => ?_
        obtain rfl := h4
        obtain rfl := h6
        show wpList _ _ _ _ _ _
        go_wp2_with fail
        exact ⟨.pointer (some ⟨g, 327, none⟩), by first | rfl | (go_simp; done), rfl, Below.refl _ _⟩
      · as_aux_lemma =>
        refine fun w' hB v4 h4 v7 h7 => ?_
        obtain rfl := h4
        obtain rfl := h7
        show wpList _ _ _ _ _ _
        have c := (K2.out.keep hB).atC
        go_wp2_with fail
        exact ⟨_, rfl, rfl, Below.refl _ _⟩
      · as_aux_lemma =>
        refine fun w' hB v4 h4 => ?_
        obtain rfl := h4
        show wpList _ _ _ _ _ _
        go_wp2_with fail
        exact ⟨.pointer (some ⟨g, 0, none⟩), by first | rfl | (go_simp; done), rfl, Below.refl _ _⟩
      · as_aux_lemma =>
        refine fun w' hB v4 h4 v9 h9 => ?_
        obtain rfl := h4
        obtain rfl := h9
        show wpList _ _ _ _ _ _
        go_wp2_with fail
        exact ⟨.pointer (some ⟨g, 0, none⟩), by first | rfl | (go_simp; done), rfl, Below.refl _ _⟩
      · as_aux_lemma =>
        refine fun w' hB v4 h4 v10 h10 => ?_
        obtain rfl := h4
        obtain rfl := h10
        show wpList _ _ _ _ _ _
        go_wp2_with fail
        exact ⟨.pointer (some ⟨g, 328, none⟩), by first | rfl | (go_simp; done), rfl, Below.refl _ _⟩
      · as_aux_lemma =>
        refine fun w' hB v4 h4 v11 h11 => ?_
        obtain rfl := h4
        obtain rfl := h11
        show wpList _ _ _ _ _ _
        have c := (K2.out.keep hB).bitsC
        go_wp2_with fail
        exact ⟨_, rfl, rfl, Below.refl _ _⟩
      · as_aux_lemma =>
        refine fun w' hB v4 h4 v12 h12 => ?_
        obtain rfl := h4
        obtain rfl := h12
        show wpList _ _ _ _ _ _
        go_wp2_with fail
        exact ⟨.int .i64 q.bits.length, by first | rfl | (go_simp; done), rfl, Below.refl _ _⟩
      · as_aux_lemma =>
        refine fun w' hB v4 h4 v8 h8 v13 h13 => ?_
        obtain rfl := h4
        obtain rfl := h8
        obtain rfl := h13
        show wpList _ _ _ _ _ _
        go_wp2_with fail
        exact ⟨.bool true, by first | rfl | (go_simp; done), rfl, Below.refl _ _⟩
      · as_aux_lemma =>
        refine fun w' hB v4 h4 v14 h14 => ?_
        obtain rfl := h4
        obtain rfl := h14
        show wpList _ _ _ _ _ _
        go_wp2_with fail
        exact ⟨.bool true, by first | rfl | (go_simp; done), rfl, Below.refl _ _⟩
      · refine fun w' hB v0 h0 v1 h1 v2 h2 v3 h3 v4 h4 v5 h5 v6 h6 v7 h7 v8 h8 v9 h9 v10 h10 v11 h11 v12 h12 v13 h13 v14 h14 v15 h15 => ?_
        obtain rfl := h15
        simp only [onP]
        go_simp
        clear h0 h1 h2 h3 h4 h5 h6 h7 h8 h9 h10 h11 h12 h13 h14
        have K3 := Lib.hid (K2.out.keep hB); have G3 := Lib.hid (G2.out.next hB); have KX3 := Lib.hid (block_keep hB KX2.out)
        clear hB K2 G2 KX2 cm HC
        go_wp2_with fail
        obtain ⟨bt, hbt⟩ : ∃ b, q.bits[q.at']? = some b := ⟨_, List.getElem?_eq_getElem hlt⟩
        obtain ⟨gb, cb2, eb, hgb, hcb⟩ := K3.out.bits.at q.at' bt hbt
        have exb : xb = some ⟨gb, 0, none⟩ := by
          have := eb
          simp only [Value.slice.injEq, true_and] at this
          exact this.1
        subst exb
        clear eb
        have HCB := Lib.hid hcb
        rw [List.getD_eq_getElem?_getD, hbt, Option.getD_some] at HR
        obtain ⟨hb, ehb⟩ : ∃ b, b = hbit q.salt x.id := ⟨_, rfl⟩
        have cbt := Lib.hid fun W => bit_any q.salt x.id W
        rw [← ehb] at HR cbt
        clear ehb hbt hcb
        by_cases hne : bt = hb
        · rw [if_pos hne] at HR
          subst hne
          refine wp_region_by [Is (.pointer (some ⟨g, 0, none⟩)), Is (.pointer (some ⟨g, 0, none⟩)), Is (.pointer (some ⟨g, 328, none⟩)), Is ((.slice (some ⟨gb, 0, none⟩) q.bits.length cb)), Is (.pointer (some ⟨g, 0, none⟩)), Is (.pointer (some ⟨g, 0, none⟩)), Is (.pointer (some ⟨g, 327, none⟩)), Is (.int .i64 q.at'), Is (.pointer (some ⟨gb, q.at', none⟩)), Is (.bool bt), Is (.pointer (some ⟨g, 0, none⟩)), Is (.pointer (some ⟨g, 0, none⟩)), Is (.pointer (some ⟨g, 74, none⟩)), Is (iv q.salt), Is (.pointer (some ⟨gx, 68, none⟩)), Is (iv x.id), Is (.bool bt), Is (.bool false)] [[], [(0, some 24)], [(1, some 25)], [(2, some 26)], [], [(4, some 28)], [(5, some 29)], [(6, some 30)], [(3, some 27), (7, some 31)], [(8, some 32)], [], [(10, some 34)], [(11, some 35)], [(12, some 36)], [], [(14, some 38)], [(13, some 37), (15, some 39)], [(9, some 33), (16, some 40)]] [(0, some 24), (1, some 25), (2, some 26), (3, some 27), (4, some 28), (5, some 29), (6, some 30), (7, some 31), (8, some 32), (9, some 33), (10, some 34), (11, some 35), (12, some 36), (13, some 37), (14, some 38), (15, some 39), (16, some 40), (17, some 41)] [0, 1, 3, 7, 0, 16, 48, 112, 255, 511, 0, 1024, 3072, 7168, 0, 16384, 64512, 131071]
            (by kernel_rfl) (by kernel_rfl) (by kernel_rfl) (by kernel_rfl) ⟨Is.kept _, Is.kept _, Is.kept _, Is.kept _, Is.kept _, Is.kept _, Is.kept _, Is.kept _, Is.kept _, Is.kept _, Is.kept _, Is.kept _, Is.kept _, Is.kept _, Is.kept _, Is.kept _, Is.kept _, Is.kept _, trivial⟩ ⟨?_, ?_, ?_, ?_, ?_, ?_, ?_, ?_, ?_, ?_, ?_, ?_, ?_, ?_, ?_, ?_, ?_, ?_, trivial⟩ ?_
          · as_aux_lemma =>
            refine fun w' hB => ?_
            show wpList _ _ _ _ _ _
            go_wp2_with fail
            exact ⟨.pointer (some ⟨g, 0, none⟩), by first | rfl | (go_simp; done), rfl, Below.refl _ _⟩
          · as_aux_lemma =>
            refine fun w' hB v0 h0 => ?_
            obtain rfl := h0
            show wpList _ _ _ _ _ _
            go_wp2_with fail
            exact ⟨.pointer (some ⟨g, 0, none⟩), by first | rfl | (go_simp; done), rfl, Below.refl _ _⟩
          · as_aux_lemma =>
            refine fun w' hB v1 h1 => ?_
            obtain rfl := h1
            show wpList _ _ _ _ _ _
            go_wp2_with fail
            exact ⟨.pointer (some ⟨g, 328, none⟩), by first | rfl | (go_simp; done), rfl, Below.refl _ _⟩
          · as_aux_lemma =>
            refine fun w' hB v2 h2 => ?_
            obtain rfl := h2
            show wpList _ _ _ _ _ _
            have c := (K3.out.keep hB).bitsC
            go_wp2_with fail
            exact ⟨_, rfl, rfl, Below.refl _ _⟩
          · as_aux_lemma =>
            refine fun w' hB => ?_
            show wpList _ _ _ _ _ _
            go_wp2_with fail
            exact ⟨.pointer (some ⟨g, 0, none⟩), by first | rfl | (go_simp; done), rfl, Below.refl _ _⟩
          · as_aux_lemma =>
            refine fun w' hB v4 h4 => ?_
            obtain rfl := h4
            show wpList _ _ _ _ _ _
            go_wp2_with fail
            exact ⟨.pointer (some ⟨g, 0, none⟩), by first | rfl | (go_simp; done), rfl, Below.refl _ _⟩
          · as_aux_lemma =>
            refine fun w' hB v5 h5 => ?_
            obtain rfl := h5
            show wpList _ _ _ _ _ _
            go_wp2_with fail
            exact ⟨.pointer (some ⟨g, 327, none⟩), by first | rfl | (go_simp; done), rfl, Below.refl _ _⟩
          · as_aux_lemma =>
            refine fun w' hB v6 h6 => ?_
            obtain rfl := h6
            show wpList _ _ _ _ _ _
            have c := (K3.out.keep hB).atC
            go_wp2_with fail
            exact ⟨_, rfl, rfl, Below.refl _ _⟩
          · as_aux_lemma =>
            refine fun w' hB v3 h3 v7 h7 => ?_
            obtain rfl := h3
            obtain rfl := h7
            show wpList _ _ _ _ _ _
            go_wp2_with fail
            exact ⟨.pointer (some ⟨gb, q.at', none⟩), by first | rfl | (go_simp; done), rfl, Below.refl _ _⟩
          · as_aux_lemma =>
            refine fun w' hB v8 h8 => ?_
            obtain rfl := h8
            show wpList _ _ _ _ _ _
            have c : w'.cell? ⟨gb, q.at', none⟩ = some (.bool bt) := (World.cell?_of_block (hB.block gb hgb)).trans HCB.out
            go_wp2_with fail
            exact ⟨_, rfl, rfl, Below.refl _ _⟩
          · as_aux_lemma =>
            refine fun w' hB => ?_
            show wpList _ _ _ _ _ _
            go_wp2_with fail
            exact ⟨.pointer (some ⟨g, 0, none⟩), by first | rfl | (go_simp; done), rfl, Below.refl _ _⟩
          · as_aux_lemma =>
            refine fun w' hB v10 h10 => ?_
            obtain rfl := h10
            show wpList _ _ _ _ _ _
            go_wp2_with fail
            exact ⟨.pointer (some ⟨g, 0, none⟩), by first | rfl | (go_simp; done), rfl, Below.refl _ _⟩
          · as_aux_lemma =>
            refine fun w' hB v11 h11 => ?_
            obtain rfl := h11
            show wpList _ _ _ _ _ _
            go_wp2_with fail
            exact ⟨.pointer (some ⟨g, 74, none⟩), by first | rfl | (go_simp; done), rfl, Below.refl _ _⟩
          · as_aux_lemma =>
            refine fun w' hB v12 h12 => ?_
            obtain rfl := h12
            show wpList _ _ _ _ _ _
            go_wp2_with (first | refine ld_id rfl (.tmp 36) rfl g 74 q.salt rfl (K3.out.keep hB).saltR ?_)
            exact ⟨_, rfl, rfl, Below.refl _ _⟩
          · as_aux_lemma =>
            refine fun w' hB => ?_
            show wpList _ _ _ _ _ _
            go_wp2_with fail
            exact ⟨.pointer (some ⟨gx, 68, none⟩), by first | rfl | (go_simp; done), rfl, Below.refl _ _⟩
          · as_aux_lemma =>
            refine fun w' hB v14 h14 => ?_
            obtain rfl := h14
            show wpList _ _ _ _ _ _
            go_wp2_with (first | refine ld_id rfl (.tmp 38) rfl gx 68 x.id rfl (nd_id (block_keep hB KX3.out)) ?_)
            exact ⟨_, rfl, rfl, Below.refl _ _⟩
          · as_aux_lemma =>
            refine fun w' hB v13 h13 v15 h15 => ?_
            obtain rfl := h13
            obtain rfl := h15
            show wpList _ _ _ _ _ _
            go_wp2_with fail
            refine (cbt.out w').mono ?_
            rintro e w2 ⟨rfl, hb2⟩
            go_wp2_with fail
            exact ⟨.bool bt, by first | rfl | (go_simp; done), rfl, hb2⟩
          · as_aux_lemma =>
            refine fun w' hB v9 h9 v16 h16 => ?_
            obtain rfl := h9
            obtain rfl := h16
            show wpList _ _ _ _ _ _
            go_wp2_with fail
            exact ⟨.bool false, by cases bt <;> rfl, rfl, Below.refl _ _⟩
          · refine fun w' hB v0 h0 v1 h1 v2 h2 v3 h3 v4 h4 v5 h5 v6 h6 v7 h7 v8 h8 v9 h9 v10 h10 v11 h11 v12 h12 v13 h13 v14 h14 v15 h15 v16 h16 v17 h17 => ?_
            obtain rfl := h17
            simp only [onP]
            go_simp
            clear h0 h1 h2 h3 h4 h5 h6 h7 h8 h9 h10 h11 h12 h13 h14 h15 h16
            have K4 := Lib.hid (K3.out.keep hB); have G4 := Lib.hid (G3.out.next hB); have KX4 := Lib.hid (block_keep hB KX3.out)
            clear hB K3 G3 KX3 HCB hgb cbt
            have c327 := K4.out.atC
            have HR : Hid (R = agF q.up x) := HR
            go_wp2_with (first | (refine st_one rfl 3 (.tmp 50) (.tmp 48) rfl g 6 327 (syS (q.sy (.slice (some ⟨gb, 0, none⟩) q.bits.length cb) (.slice xr q.ready.length cr))) 153 (.int .i64 q.at') (.int .i64 (q.at' + 1 : Nat)) rfl rfl K4.out.blk rfl (sy_o _).2.2.2.2.2.2.1 int_info rfl (fun w5 h1 h2 h3 h4 => ?_); have KX5 := Lib.hid ((h2 _ hgx.symm).trans KX4.out); have G5 := Lib.hid (G4.out.trans (Gr.of_st h2 h4) (fun _ _ e => .inl e)); have K5 : Hid (PsIs w5 g (.slice (some ⟨gb, 0, none⟩) q.bits.length cb) (.slice xr q.ready.length cr) q.up) := Lib.hid (K4.out.to h1 (Gr.of_st h2 h4) rfl rfl); clear h1 h2 h3 h4 c327))
            clear K4 G4 KX4
            refine wp_region_z 8 [0] (fun j => decide (j = 7) || false) [Is (.pointer (some ⟨g, 0, none⟩)), Is (.pointer (some ⟨g, 0, none⟩)), Is (.pointer (some ⟨g, 0, none⟩)), Is (.pointer (some ⟨g, 329, none⟩)), Is ((.slice xr q.ready.length cr)), Is (.pointer (some ⟨gx, 0, none⟩)), Is (hdv x.h), RowOf (hdsL [x.h]).toArray 26 1 1] [[], [], [(1, some 52)], [(2, some 53)], [(3, some 54)], [], [(5, some 56)], [(6, some 57)], [(4, some 55), (7, some 58)], [(0, some 51)], [(9, some 60)], [(8, some 59), (10, some 61)]] [(0, some 51), (1, some 52), (2, some 53), (3, some 54), (4, some 55), (5, some 56), (6, some 57), (7, some 58)] [0, 0, 2, 6, 14, 0, 32, 96, 254, 511, 1023, 2047]
              (by kernel_rfl) (by kernel_rfl) (by kernel_rfl) (by kernel_rfl) (by kernel_rfl) ⟨Is.kept _, Is.kept _, Is.kept _, Is.kept _, Is.kept _, Is.kept _, Is.kept _, RowOf.kept _ _ _ _, trivial⟩ ⟨?_, trivial⟩ ⟨?_, ?_, ?_, ?_, ?_, ?_, ?_, ?_, trivial⟩ ?_
            · as_aux_lemma =>
              refine fun w' hB => (show onP _ w' [] _ _ from ?_)
              skip
              exact ⟨_, .pointer (some ⟨g, 0, none⟩), rfl, Or.inl ⟨by rfl, fun w => by go_simp⟩⟩
            · as_aux_lemma =>
              refine fun w' hB => ?_
              show wpList _ _ _ _ _ _
              go_wp2_with fail
              exact ⟨.pointer (some ⟨g, 0, none⟩), by first | rfl | (go_simp; done), rfl, Below.refl _ _, fun h => absurd h (by decide)⟩
            · as_aux_lemma =>
              refine fun w' hB => ?_
              show wpList _ _ _ _ _ _
              go_wp2_with fail
              exact ⟨.pointer (some ⟨g, 0, none⟩), by first | rfl | (go_simp; done), rfl, Below.refl _ _, fun h => absurd h (by decide)⟩
            · as_aux_lemma =>
              refine fun w' hB v1 h1 => ?_
              obtain rfl := h1
              show wpList _ _ _ _ _ _
              go_wp2_with fail
              exact ⟨.pointer (some ⟨g, 0, none⟩), by first | rfl | (go_simp; done), rfl, Below.refl _ _, fun h => absurd h (by decide)⟩
            · as_aux_lemma =>
              refine fun w' hB v2 h2 => ?_
              obtain rfl := h2
              show wpList _ _ _ _ _ _
              go_wp2_with fail
              exact ⟨.pointer (some ⟨g, 329, none⟩), by first | rfl | (go_simp; done), rfl, Below.refl _ _, fun h => absurd h (by decide)⟩
            · as_aux_lemma =>
              refine fun w' hB v3 h3 => ?_
              obtain rfl := h3
              show wpList _ _ _ _ _ _
              have c := (K5.out.keep hB).readyC
              go_wp2_with fail
              exact ⟨_, rfl, rfl, Below.refl _ _, fun h => absurd h (by decide)⟩
            · as_aux_lemma =>
              refine fun w' hB => ?_
              show wpList _ _ _ _ _ _
              go_wp2_with fail
              exact ⟨.pointer (some ⟨gx, 0, none⟩), by first | rfl | (go_simp; done), rfl, Below.refl _ _, fun h => absurd h (by decide)⟩
            · as_aux_lemma =>
              refine fun w' hB v5 h5 => ?_
              obtain rfl := h5
              show wpList _ _ _ _ _ _
              go_wp2_with (first | refine ld_hd rfl (.tmp 56) rfl gx 0 x.h rfl (nd_hd (block_keep hB KX5.out)) ?_)
              exact ⟨_, rfl, rfl, Below.refl _ _, fun h => absurd h (by decide)⟩
            · as_aux_lemma =>
              refine fun w' hB v6 h6 => ?_
              obtain rfl := h6
              show wpList _ _ _ _ _ _
              go_wp2_with (first | refine wpList_bs_hd rfl (.tmp 57) x.h rfl rfl ?_)
              exact ⟨_, rfl, ⟨_, rfl, heap_new _ _⟩, below_alloc (Below.refl _ _) _, fun _ => ⟨_, rfl, Nat.le_refl _, by simp⟩⟩
            · refine fun w' G hB hN1 hN2 v0 h0 v1 h1 v2 h2 v3 h3 v4 h4 v5 h5 v6 h6 v7 h7 => ?_
              replace h0 := h0.1
              replace h1 := h1.1
              replace h2 := h2.1
              replace h3 := h3.1
              replace h4 := h4.1
              replace h5 := h5.1
              replace h6 := h6.1
              obtain ⟨h7, hG7⟩ := h7; replace hG7 := hG7 (by decide)
              have hW7 := hN1 7 (by decide) (by decide)
              clear hN1 hN2
              obtain rfl := h0
              obtain rfl := h4
              obtain ⟨g7, rfl, hg7⟩ := h7
              obtain ⟨gn7, en7, hge7, hlt7⟩ := hW7
              obtain rfl := Option.some.inj (hG7.trans en7)
              dsimp only at hge7 hlt7
              clear en7
              simp only [onP, List.drop_succ_cons, List.drop_zero]
              go_simp
              clear h1 h2 h3 h5 h6
              have K6 := Lib.hid (K5.out.keep hB); have G6 := Lib.hid (G5.out.next hB); have KX6 := Lib.hid (block_keep hB KX5.out)
              have HCL : Hid (HdsAt w' g7 0 [x.h]) := Lib.hid fun j v hv => by rw [Nat.zero_add, cell_of_row _ _ _ _ _ _ hg7, List.getElem?_toArray]; exact hv
              clear hB K5 G5 KX5 hg7
              go_wp2_with (first | (at_builtin; refine wpList_append_hds rfl (.tmp 55) (.tmp 58) rfl 0 (.slice xr q.up.ready.length cr) q.up.ready rfl K6.out.ready [x.h] (some ⟨g7, 0, none⟩) 1 rfl (fun e => by cases e) (fun ad e => by cases e; exact ⟨rfl, HCL.out⟩) (by have := (show q.up.ready.length ≤ 900000 from hqr); simp at this ⊢; omega) (Nat.zero_le _) (fun v' w5 ho hgrow hat => ?_); obtain ⟨x5, c5, e5⟩ := ho.shape; rw [List.length_append, List.length_singleton] at e5; subst e5; have HGR := Lib.hid hgrow; have HO := Lib.hid ho; have HAT := Lib.hid hat; clear ho hgrow hat) | (refine st_one rfl 66 (.tmp 61) (.tmp 59) rfl g 8 329 (syS (q.up.sy (.slice (some ⟨gb, 0, none⟩) q.bits.length cb) (.slice xr q.up.ready.length cr))) 153 (.slice xr q.up.ready.length cr) (.slice x5 (q.up.ready.length + 1) c5) rfl rfl (K6.out.ready_blk HGR.out) rfl (sy_o _).2.2.2.2.2.2.2.2.1 hds_info rfl (fun w6 h1 h2 h3 h4 => ?_); obtain ⟨k5, k6, k7, k8⟩ := K6.out.ready_next G6.out KX6.out HGR.out HO.out HAT.out h1 (Gr.of_st h2 h4); have K7 := Lib.hid k5; have G7 := Lib.hid k6; have DEF7 := Lib.hid k7; have KX7 := Lib.hid k8; clear h1 h2 h3 h4 k5 k6 k7 k8 HGR HO HAT))
              clear K6 G6 KX6 HCL
              obtain ⟨q7, hq7⟩ : ∃ q7, q7 = { q.up with ready := q.up.ready ++ [x.h] } := ⟨_, rfl⟩
              rw [← hq7] at K7
              have hn7 : q7.need < 2 ^ 256 := by rw [hq7]; exact hqn
              have HR7 : Hid (R = if q7.need ≤ x.work then { q7 with phase := 3 } else q7) := Lib.hid (by rw [HR.out, hq7]; rfl)
              clear hq7 HR
              have cc := Lib.hid fun W => cmp_any x.work q7.need hx hn7 W
              by_cases hw : q7.need ≤ x.work
              · have hc : 0 ≤ cmpn x.work q7.need := by unfold cmpn; split <;> (try split) <;> omega
                have hRq : R = { q7 with phase := 3 } := by rw [HR7.out, if_pos hw]
                clear HR7
                refine wp_region_by [Is (.pointer (some ⟨gx, 103, none⟩)), Is (nv x.work), Is (.pointer (some ⟨g, 0, none⟩)), Is (.pointer (some ⟨g, 0, none⟩)), Is (.pointer (some ⟨g, 106, none⟩)), Is (nv q7.need), Is (.int .i64 (cmpn x.work q7.need)), Is (.bool true)] [[], [(0, some 62)], [], [(2, some 64)], [(3, some 65)], [(4, some 66)], [(1, some 63), (5, some 67)], [(6, some 68)]] [(0, some 62), (1, some 63), (2, some 64), (3, some 65), (4, some 66), (5, some 67), (6, some 68), (7, some 69)] [0, 1, 0, 4, 12, 28, 63, 127]
                  (by kernel_rfl) (by kernel_rfl) (by kernel_rfl) (by kernel_rfl) ⟨Is.kept _, Is.kept _, Is.kept _, Is.kept _, Is.kept _, Is.kept _, Is.kept _, Is.kept _, trivial⟩ ⟨?_, ?_, ?_, ?_, ?_, ?_, ?_, ?_, trivial⟩ ?_
                · as_aux_lemma =>
                  refine fun w' hB => ?_
                  show wpList _ _ _ _ _ _
                  go_wp2_with fail
                  exact ⟨.pointer (some ⟨gx, 103, none⟩), by first | rfl | (go_simp; done), rfl, Below.refl _ _⟩
                · as_aux_lemma =>
                  refine fun w' hB v0 h0 => ?_
                  obtain rfl := h0
                  show wpList _ _ _ _ _ _
                  go_wp2_with (first | refine wpList_load_nr rfl (.tmp 62) rfl gx 103 x.work rfl (nd_work (block_keep hB KX7.out)) ?_)
                  exact ⟨nv x.work, rfl, rfl, Below.refl _ _⟩
                · as_aux_lemma =>
                  refine fun w' hB => ?_
                  show wpList _ _ _ _ _ _
                  go_wp2_with fail
                  exact ⟨.pointer (some ⟨g, 0, none⟩), by first | rfl | (go_simp; done), rfl, Below.refl _ _⟩
                · as_aux_lemma =>
                  refine fun w' hB v2 h2 => ?_
                  obtain rfl := h2
                  show wpList _ _ _ _ _ _
                  go_wp2_with fail
                  exact ⟨.pointer (some ⟨g, 0, none⟩), by first | rfl | (go_simp; done), rfl, Below.refl _ _⟩
                · as_aux_lemma =>
                  refine fun w' hB v3 h3 => ?_
                  obtain rfl := h3
                  show wpList _ _ _ _ _ _
                  go_wp2_with fail
                  exact ⟨.pointer (some ⟨g, 106, none⟩), by first | rfl | (go_simp; done), rfl, Below.refl _ _⟩
                · as_aux_lemma =>
                  refine fun w' hB v4 h4 => ?_
                  obtain rfl := h4
                  show wpList _ _ _ _ _ _
                  go_wp2_with (first | refine wpList_load_nr rfl (.tmp 66) rfl g 106 q7.need rfl (K7.out.keep hB).need ?_)
                  exact ⟨nv q7.need, rfl, rfl, Below.refl _ _⟩
                · as_aux_lemma =>
                  refine fun w' hB v1 h1 v5 h5 => ?_
                  obtain rfl := h1
                  obtain rfl := h5
                  show wpList _ _ _ _ _ _
                  go_wp2_with fail
                  refine (cc.out w').mono ?_
                  rintro e w2 ⟨rfl, hb2⟩
                  go_wp2_with fail
                  exact ⟨.int .i64 (cmpn x.work q7.need), by first | rfl | (go_simp; done), rfl, hb2⟩
                · as_aux_lemma =>
                  refine fun w' hB v6 h6 => ?_
                  obtain rfl := h6
                  show wpList _ _ _ _ _ _
                  go_wp2_with fail
                  exact ⟨.bool true, by first | rfl | (go_simp; done), rfl, Below.refl _ _⟩
                · refine fun w' hB v0 h0 v1 h1 v2 h2 v3 h3 v4 h4 v5 h5 v6 h6 v7 h7 => ?_
                  obtain rfl := h7
                  simp only [onP]
                  go_simp
                  clear h0 h1 h2 h3 h4 h5 h6
                  have K8 := Lib.hid (K7.out.keep hB); have G8 := Lib.hid (G7.out.next hB)
                  clear hB K7 KX7 G7 cc
                  go_wp2_with (first | (refine st_one rfl 3 (.tmp 72) (.const (.int .i64 3)) rfl g 4 218 (syS (q7.sy (.slice (some ⟨gb, 0, none⟩) q.bits.length cb) (.slice x5 (q.up.ready.length + 1) c5))) 153 (.int .i64 q7.phase) (.int .i64 3) rfl rfl K8.out.blk rfl (sy_o _).2.2.2.2.1 int_info rfl (fun w9 h1 h2 h3 h4 => ?_); have G9 := Lib.hid (G8.out.trans (Gr.of_st h2 h4) (fun _ _ e => .inl e)); have K9 : Hid (PsIs w9 g (.slice (some ⟨gb, 0, none⟩) q.bits.length cb) (.slice x5 (q.up.ready.length + 1) c5) { q7 with phase := 3 }) := Lib.hid (K8.out.to h1 (Gr.of_st h2 h4) rfl rfl); clear h1 h2 h3 h4))
                  exact bodyPost_end (v := .tuple #[]) (by simp [results]) rfl ⟨⟨_, rfl⟩, _, _, hRq ▸ K9.out, G9.out, DEF7.out⟩
              · have hc : ¬ 0 ≤ cmpn x.work q7.need := by unfold cmpn; rw [if_pos (by omega)]; omega
                have hRq : R = q7 := by rw [HR7.out, if_neg hw]
                clear HR7
                refine wp_region_by [Is (.pointer (some ⟨gx, 103, none⟩)), Is (nv x.work), Is (.pointer (some ⟨g, 0, none⟩)), Is (.pointer (some ⟨g, 0, none⟩)), Is (.pointer (some ⟨g, 106, none⟩)), Is (nv q7.need), Is (.int .i64 (cmpn x.work q7.need)), Is (.bool false)] [[], [(0, some 62)], [], [(2, some 64)], [(3, some 65)], [(4, some 66)], [(1, some 63), (5, some 67)], [(6, some 68)]] [(0, some 62), (1, some 63), (2, some 64), (3, some 65), (4, some 66), (5, some 67), (6, some 68), (7, some 69)] [0, 1, 0, 4, 12, 28, 63, 127]
                  (by kernel_rfl) (by kernel_rfl) (by kernel_rfl) (by kernel_rfl) ⟨Is.kept _, Is.kept _, Is.kept _, Is.kept _, Is.kept _, Is.kept _, Is.kept _, Is.kept _, trivial⟩ ⟨?_, ?_, ?_, ?_, ?_, ?_, ?_, ?_, trivial⟩ ?_
                · as_aux_lemma =>
                  refine fun w' hB => ?_
                  show wpList _ _ _ _ _ _
                  go_wp2_with fail
                  exact ⟨.pointer (some ⟨gx, 103, none⟩), by first | rfl | (go_simp; done), rfl, Below.refl _ _⟩
                · as_aux_lemma =>
                  refine fun w' hB v0 h0 => ?_
                  obtain rfl := h0
                  show wpList _ _ _ _ _ _
                  go_wp2_with (first | refine wpList_load_nr rfl (.tmp 62) rfl gx 103 x.work rfl (nd_work (block_keep hB KX7.out)) ?_)
                  exact ⟨nv x.work, rfl, rfl, Below.refl _ _⟩
                · as_aux_lemma =>
                  refine fun w' hB => ?_
                  show wpList _ _ _ _ _ _
                  go_wp2_with fail
                  exact ⟨.pointer (some ⟨g, 0, none⟩), by first | rfl | (go_simp; done), rfl, Below.refl _ _⟩
                · as_aux_lemma =>
                  refine fun w' hB v2 h2 => ?_
                  obtain rfl := h2
                  show wpList _ _ _ _ _ _
                  go_wp2_with fail
                  exact ⟨.pointer (some ⟨g, 0, none⟩), by first | rfl | (go_simp; done), rfl, Below.refl _ _⟩
                · as_aux_lemma =>
                  refine fun w' hB v3 h3 => ?_
                  obtain rfl := h3
                  show wpList _ _ _ _ _ _
                  go_wp2_with fail
                  exact ⟨.pointer (some ⟨g, 106, none⟩), by first | rfl | (go_simp; done), rfl, Below.refl _ _⟩
                · as_aux_lemma =>
                  refine fun w' hB v4 h4 => ?_
                  obtain rfl := h4
                  show wpList _ _ _ _ _ _
                  go_wp2_with (first | refine wpList_load_nr rfl (.tmp 66) rfl g 106 q7.need rfl (K7.out.keep hB).need ?_)
                  exact ⟨nv q7.need, rfl, rfl, Below.refl _ _⟩
                · as_aux_lemma =>
                  refine fun w' hB v1 h1 v5 h5 => ?_
                  obtain rfl := h1
                  obtain rfl := h5
                  show wpList _ _ _ _ _ _
                  go_wp2_with fail
                  refine (cc.out w').mono ?_
                  rintro e w2 ⟨rfl, hb2⟩
                  go_wp2_with fail
                  exact ⟨.int .i64 (cmpn x.work q7.need), by first | rfl | (go_simp; done), rfl, hb2⟩
                · as_aux_lemma =>
                  refine fun w' hB v6 h6 => ?_
                  obtain rfl := h6
                  show wpList _ _ _ _ _ _
                  go_wp2_with fail
                  exact ⟨.bool false, by first | rfl | (go_simp; done), rfl, Below.refl _ _⟩
                · refine fun w' hB v0 h0 v1 h1 v2 h2 v3 h3 v4 h4 v5 h5 v6 h6 v7 h7 => ?_
                  obtain rfl := h7
                  simp only [onP]
                  go_simp
                  clear h0 h1 h2 h3 h4 h5 h6
                  have K8 := Lib.hid (K7.out.keep hB); have G8 := Lib.hid (G7.out.next hB)
                  clear hB K7 KX7 G7 cc
                  go_wp2_with fail
                  exact bodyPost_end (v := .tuple #[]) (by simp [results]) rfl ⟨⟨_, rfl⟩, _, _, hRq ▸ K8.out, G8.out, DEF7.out⟩
        · rw [if_neg hne] at HR
          refine wp_region_by [Is (.pointer (some ⟨g, 0, none⟩)), Is (.pointer (some ⟨g, 0, none⟩)), Is (.pointer (some ⟨g, 328, none⟩)), Is ((.slice (some ⟨gb, 0, none⟩) q.bits.length cb)), Is (.pointer (some ⟨g, 0, none⟩)), Is (.pointer (some ⟨g, 0, none⟩)), Is (.pointer (some ⟨g, 327, none⟩)), Is (.int .i64 q.at'), Is (.pointer (some ⟨gb, q.at', none⟩)), Is (.bool bt), Is (.pointer (some ⟨g, 0, none⟩)), Is (.pointer (some ⟨g, 0, none⟩)), Is (.pointer (some ⟨g, 74, none⟩)), Is (iv q.salt), Is (.pointer (some ⟨gx, 68, none⟩)), Is (iv x.id), Is (.bool hb), Is (.bool true)] [[], [(0, some 24)], [(1, some 25)], [(2, some 26)], [], [(4, some 28)], [(5, some 29)], [(6, some 30)], [(3, some 27), (7, some 31)], [(8, some 32)], [], [(10, some 34)], [(11, some 35)], [(12, some 36)], [], [(14, some 38)], [(13, some 37), (15, some 39)], [(9, some 33), (16, some 40)]] [(0, some 24), (1, some 25), (2, some 26), (3, some 27), (4, some 28), (5, some 29), (6, some 30), (7, some 31), (8, some 32), (9, some 33), (10, some 34), (11, some 35), (12, some 36), (13, some 37), (14, some 38), (15, some 39), (16, some 40), (17, some 41)] [0, 1, 3, 7, 0, 16, 48, 112, 255, 511, 0, 1024, 3072, 7168, 0, 16384, 64512, 131071]
            (by kernel_rfl) (by kernel_rfl) (by kernel_rfl) (by kernel_rfl) ⟨Is.kept _, Is.kept _, Is.kept _, Is.kept _, Is.kept _, Is.kept _, Is.kept _, Is.kept _, Is.kept _, Is.kept _, Is.kept _, Is.kept _, Is.kept _, Is.kept _, Is.kept _, Is.kept _, Is.kept _, Is.kept _, trivial⟩ ⟨?_, ?_, ?_, ?_, ?_, ?_, ?_, ?_, ?_, ?_, ?_, ?_, ?_, ?_, ?_, ?_, ?_, ?_, trivial⟩ ?_
          · as_aux_lemma =>
            refine fun w' hB => ?_
            show wpList _ _ _ _ _ _
            go_wp2_with fail
            exact ⟨.pointer (some ⟨g, 0, none⟩), by first | rfl | (go_simp; done), rfl, Below.refl _ _⟩
          · as_aux_lemma =>
            refine fun w' hB v0 h0 => ?_
            obtain rfl := h0
            show wpList _ _ _ _ _ _
            go_wp2_with fail
            exact ⟨.pointer (some ⟨g, 0, none⟩), by first | rfl | (go_simp; done), rfl, Below.refl _ _⟩
          · as_aux_lemma =>
            refine fun w' hB v1 h1 => ?_
            obtain rfl := h1
            show wpList _ _ _ _ _ _
            go_wp2_with fail
            exact ⟨.pointer (some ⟨g, 328, none⟩), by first | rfl | (go_simp; done), rfl, Below.refl _ _⟩
          · as_aux_lemma =>
            refine fun w' hB v2 h2 => ?_
            obtain rfl := h2
            show wpList _ _ _ _ _ _
            have c := (K3.out.keep hB).bitsC
            go_wp2_with fail
            exact ⟨_, rfl, rfl, Below.refl _ _⟩
          · as_aux_lemma =>
            refine fun w' hB => ?_
            show wpList _ _ _ _ _ _
            go_wp2_with fail
            exact ⟨.pointer (some ⟨g, 0, none⟩), by first | rfl | (go_simp; done), rfl, Below.refl _ _⟩
          · as_aux_lemma =>
            refine fun w' hB v4 h4 => ?_
            obtain rfl := h4
            show wpList _ _ _ _ _ _
            go_wp2_with fail
            exact ⟨.pointer (some ⟨g, 0, none⟩), by first | rfl | (go_simp; done), rfl, Below.refl _ _⟩
          · as_aux_lemma =>
            refine fun w' hB v5 h5 => ?_
            obtain rfl := h5
            show wpList _ _ _ _ _ _
            go_wp2_with fail
            exact ⟨.pointer (some ⟨g, 327, none⟩), by first | rfl | (go_simp; done), rfl, Below.refl _ _⟩
          · as_aux_lemma =>
            refine fun w' hB v6 h6 => ?_
            obtain rfl := h6
            show wpList _ _ _ _ _ _
            have c := (K3.out.keep hB).atC
            go_wp2_with fail
            exact ⟨_, rfl, rfl, Below.refl _ _⟩
          · as_aux_lemma =>
            refine fun w' hB v3 h3 v7 h7 => ?_
            obtain rfl := h3
            obtain rfl := h7
            show wpList _ _ _ _ _ _
            go_wp2_with fail
            exact ⟨.pointer (some ⟨gb, q.at', none⟩), by first | rfl | (go_simp; done), rfl, Below.refl _ _⟩
          · as_aux_lemma =>
            refine fun w' hB v8 h8 => ?_
            obtain rfl := h8
            show wpList _ _ _ _ _ _
            have c : w'.cell? ⟨gb, q.at', none⟩ = some (.bool bt) := (World.cell?_of_block (hB.block gb hgb)).trans HCB.out
            go_wp2_with fail
            exact ⟨_, rfl, rfl, Below.refl _ _⟩
          · as_aux_lemma =>
            refine fun w' hB => ?_
            show wpList _ _ _ _ _ _
            go_wp2_with fail
            exact ⟨.pointer (some ⟨g, 0, none⟩), by first | rfl | (go_simp; done), rfl, Below.refl _ _⟩
          · as_aux_lemma =>
            refine fun w' hB v10 h10 => ?_
            obtain rfl := h10
            show wpList _ _ _ _ _ _
            go_wp2_with fail
            exact ⟨.pointer (some ⟨g, 0, none⟩), by first | rfl | (go_simp; done), rfl, Below.refl _ _⟩
          · as_aux_lemma =>
            refine fun w' hB v11 h11 => ?_
            obtain rfl := h11
            show wpList _ _ _ _ _ _
            go_wp2_with fail
            exact ⟨.pointer (some ⟨g, 74, none⟩), by first | rfl | (go_simp; done), rfl, Below.refl _ _⟩
          · as_aux_lemma =>
            refine fun w' hB v12 h12 => ?_
            obtain rfl := h12
            show wpList _ _ _ _ _ _
            go_wp2_with (first | refine ld_id rfl (.tmp 36) rfl g 74 q.salt rfl (K3.out.keep hB).saltR ?_)
            exact ⟨_, rfl, rfl, Below.refl _ _⟩
          · as_aux_lemma =>
            refine fun w' hB => ?_
            show wpList _ _ _ _ _ _
            go_wp2_with fail
            exact ⟨.pointer (some ⟨gx, 68, none⟩), by first | rfl | (go_simp; done), rfl, Below.refl _ _⟩
          · as_aux_lemma =>
            refine fun w' hB v14 h14 => ?_
            obtain rfl := h14
            show wpList _ _ _ _ _ _
            go_wp2_with (first | refine ld_id rfl (.tmp 38) rfl gx 68 x.id rfl (nd_id (block_keep hB KX3.out)) ?_)
            exact ⟨_, rfl, rfl, Below.refl _ _⟩
          · as_aux_lemma =>
            refine fun w' hB v13 h13 v15 h15 => ?_
            obtain rfl := h13
            obtain rfl := h15
            show wpList _ _ _ _ _ _
            go_wp2_with fail
            refine (cbt.out w').mono ?_
            rintro e w2 ⟨rfl, hb2⟩
            go_wp2_with fail
            exact ⟨.bool hb, by first | rfl | (go_simp; done), rfl, hb2⟩
          · as_aux_lemma =>
            refine fun w' hB v9 h9 v16 h16 => ?_
            obtain rfl := h9
            obtain rfl := h16
            show wpList _ _ _ _ _ _
            go_wp2_with fail
            exact ⟨.bool true, by cases bt <;> cases hb <;> first | rfl | exact absurd rfl hne, rfl, Below.refl _ _⟩
          · refine fun w' hB v0 h0 v1 h1 v2 h2 v3 h3 v4 h4 v5 h5 v6 h6 v7 h7 v8 h8 v9 h9 v10 h10 v11 h11 v12 h12 v13 h13 v14 h14 v15 h15 v16 h16 v17 h17 => ?_
            obtain rfl := h17
            simp only [onP]
            go_simp
            clear h0 h1 h2 h3 h4 h5 h6 h7 h8 h9 h10 h11 h12 h13 h14 h15 h16
            have K4 := Lib.hid (K3.out.keep hB); have G4 := Lib.hid (G3.out.next hB)
            clear hB K3 G3 KX3 HCB hgb cbt
            go_wp2_with fail
            refine (psfail_any g _ _ q 150 _ K4.out).mono ?_
            rintro e w4 ⟨⟨v, rfl⟩, hP, hG⟩
            have KF := Lib.hid hP; have GF := Lib.hid (G4.out.trans hG (fun _ _ e => .inl e))
            clear hP hG
            go_wp2_with fail
            exact bodyPost_ret (v := .tuple #[]) (by simp [results]) rfl ⟨⟨_, rfl⟩, _, _, HR.out ▸ KF.out, GF.out, fun k hk => .inl (by rcases hk with hk | hk | hk; exact .inl hk; cases hk; cases hk)⟩
    · rw [if_neg (fun e => hlt e.2)] at HR
      refine wp_region_by [Is (.pointer (some ⟨g, 0, none⟩)), Is (.pointer (some ⟨gx, 102, none⟩)), Is (.int .i64 k), Is (.bool true), Is (.bool true), Is (.pointer (some ⟨g, 0, none⟩)), Is (.pointer (some ⟨g, 0, none⟩)), Is (.pointer (some ⟨g, 327, none⟩)), Is (.int .i64 q.at'), Is (.pointer (some ⟨g, 0, none⟩)), Is (.pointer (some ⟨g, 0, none⟩)), Is (.pointer (some ⟨g, 328, none⟩)), Is ((.slice xb q.bits.length cb)), Is (.int .i64 q.bits.length), Is (.bool false), Is (.bool false)] [[], [], [(1, some 9)], [(0, some 8), (2, some 10)], [(3, some 11)], [(4, some 12)], [(4, some 12), (5, some 13)], [(4, some 12), (6, some 14)], [(4, some 12), (7, some 15)], [(4, some 12)], [(4, some 12), (9, some 17)], [(4, some 12), (10, some 18)], [(4, some 12), (11, some 19)], [(4, some 12), (12, some 20)], [(4, some 12), (8, some 16), (13, some 21)], [(4, some 12), (14, some 22)]] [(0, some 8), (1, some 9), (2, some 10), (3, some 11), (4, some 12), (5, some 13), (6, some 14), (7, some 15), (8, some 16), (9, some 17), (10, some 18), (11, some 19), (12, some 20), (13, some 21), (14, some 22), (15, some 23)] [0, 0, 2, 7, 15, 31, 63, 127, 255, 31, 543, 1567, 3615, 7711, 16383, 32767]
        (by kernel_rfl) (by kernel_rfl) (by kernel_rfl) (by kernel_rfl) ⟨Is.kept _, Is.kept _, Is.kept _, Is.kept _, Is.kept _, Is.kept _, Is.kept _, Is.kept _, Is.kept _, Is.kept _, Is.kept _, Is.kept _, Is.kept _, Is.kept _, Is.kept _, Is.kept _, trivial⟩ ⟨?_, ?_, ?_, ?_, ?_, ?_, ?_, ?_, ?_, ?_, ?_, ?_, ?_, ?_, ?_, ?_, trivial⟩ ?_
      · as_aux_lemma =>
        refine fun w' hB => ?_
        show wpList _ _ _ _ _ _
        go_wp2_with fail
        exact ⟨.pointer (some ⟨g, 0, none⟩), by first | rfl | (go_simp; done), rfl, Below.refl _ _⟩
      · as_aux_lemma =>
        refine fun w' hB => ?_
        show wpList _ _ _ _ _ _
        go_wp2_with fail
        exact ⟨.pointer (some ⟨gx, 102, none⟩), by first | rfl | (go_simp; done), rfl, Below.refl _ _⟩
      · as_aux_lemma =>
        refine fun w' hB v1 h1 => ?_
        obtain rfl := h1
        show wpList _ _ _ _ _ _
        have c := HC.out _ (block_keep hB KX2.out)
        go_wp2_with fail
        exact ⟨_, rfl, rfl, Below.refl _ _⟩
      · as_aux_lemma =>
        refine fun w' hB v0 h0 v2 h2 => ?_
        obtain rfl := h0
        obtain rfl := h2
        show wpList _ _ _ _ _ _
        go_wp2_with fail
        refine ((cm.out w' (K2.out.keep hB))).mono ?_
        rintro e w2 ⟨rfl, hb2⟩
        go_wp2_with fail
        exact ⟨.bool true, by first | rfl | (go_simp; done), rfl, hb2⟩
      · as_aux_lemma =>
        refine fun w' hB v3 h3 => ?_
        obtain rfl := h3
        show wpList _ _ _ _ _ _
        go_wp2_with fail
        exact ⟨.bool true, by first | rfl | (go_simp; done), rfl, Below.refl _ _⟩
      · as_aux_lemma =>
        refine fun w' hB v4 h4 => ?_
        obtain rfl := h4
        show wpList _ _ _ _ _ _
        go_wp2_with fail
        exact ⟨.pointer (some ⟨g, 0, none⟩), by first | rfl | (go_simp; done), rfl, Below.refl _ _⟩
      · as_aux_lemma =>
        refine fun w' hB v4 h4 v5 h5 => ?_
        obtain rfl := h4
        obtain rfl := h5
        show wpList _ _ _ _ _ _
        go_wp2_with fail
        exact ⟨.pointer (some ⟨g, 0, none⟩), by first | rfl | (go_simp; done), rfl, Below.refl _ _⟩
      · as_aux_lemma =>
        refine fun w' hB v4 h4 v6 h6 => ?_
        obtain rfl := h4
        obtain rfl := h6
        show wpList _ _ _ _ _ _
        go_wp2_with fail
        exact ⟨.pointer (some ⟨g, 327, none⟩), by first | rfl | (go_simp; done), rfl, Below.refl _ _⟩
      · as_aux_lemma =>
        refine fun w' hB v4 h4 v7 h7 => ?_
        obtain rfl := h4
        obtain rfl := h7
        show wpList _ _ _ _ _ _
        have c := (K2.out.keep hB).atC
        go_wp2_with fail
        exact ⟨_, rfl, rfl, Below.refl _ _⟩
      · as_aux_lemma =>
        refine fun w' hB v4 h4 => ?_
        obtain rfl := h4
        show wpList _ _ _ _ _ _
        go_wp2_with fail
        exact ⟨.pointer (some ⟨g, 0, none⟩), by first | rfl | (go_simp; done), rfl, Below.refl _ _⟩
      · as_aux_lemma =>
        refine fun w' hB v4 h4 v9 h9 => ?_
        obtain rfl := h4
        obtain rfl := h9
        show wpList _ _ _ _ _ _
        go_wp2_with fail
        exact ⟨.pointer (some ⟨g, 0, none⟩), by first | rfl | (go_simp; done), rfl, Below.refl _ _⟩
      · as_aux_lemma =>
        refine fun w' hB v4 h4 v10 h10 => ?_
        obtain rfl := h4
        obtain rfl := h10
        show wpList _ _ _ _ _ _
        go_wp2_with fail
        exact ⟨.pointer (some ⟨g, 328, none⟩), by first | rfl | (go_simp; done), rfl, Below.refl _ _⟩
      · as_aux_lemma =>
        refine fun w' hB v4 h4 v11 h11 => ?_
        obtain rfl := h4
        obtain rfl := h11
        show wpList _ _ _ _ _ _
        have c := (K2.out.keep hB).bitsC
        go_wp2_with fail
        exact ⟨_, rfl, rfl, Below.refl _ _⟩
      · as_aux_lemma =>
        refine fun w' hB v4 h4 v12 h12 => ?_
        obtain rfl := h4
        obtain rfl := h12
        show wpList _ _ _ _ _ _
        go_wp2_with fail
        exact ⟨.int .i64 q.bits.length, by first | rfl | (go_simp; done), rfl, Below.refl _ _⟩
      · as_aux_lemma =>
        refine fun w' hB v4 h4 v8 h8 v13 h13 => ?_
        obtain rfl := h4
        obtain rfl := h8
        obtain rfl := h13
        show wpList _ _ _ _ _ _
        go_wp2_with fail
        exact ⟨.bool false, by first | rfl | (go_simp; done), rfl, Below.refl _ _⟩
      · as_aux_lemma =>
        refine fun w' hB v4 h4 v14 h14 => ?_
        obtain rfl := h4
        obtain rfl := h14
        show wpList _ _ _ _ _ _
        go_wp2_with fail
        exact ⟨.bool false, by first | rfl | (go_simp; done), rfl, Below.refl _ _⟩
      · refine fun w' hB v0 h0 v1 h1 v2 h2 v3 h3 v4 h4 v5 h5 v6 h6 v7 h7 v8 h8 v9 h9 v10 h10 v11 h11 v12 h12 v13 h13 v14 h14 v15 h15 => ?_
        obtain rfl := h15
        simp only [onP]
        go_simp
        clear h0 h1 h2 h3 h4 h5 h6 h7 h8 h9 h10 h11 h12 h13 h14
        have K3 := Lib.hid (K2.out.keep hB); have G3 := Lib.hid (G2.out.next hB); have KX3 := Lib.hid (block_keep hB KX2.out)
        clear hB K2 G2 KX2 cm HC
        go_wp2_with fail
        refine wp_region_z 8 [0] (fun j => decide (j = 7) || false) [Is (.pointer (some ⟨g, 0, none⟩)), Is (.pointer (some ⟨g, 0, none⟩)), Is (.pointer (some ⟨g, 0, none⟩)), Is (.pointer (some ⟨g, 329, none⟩)), Is ((.slice xr q.ready.length cr)), Is (.pointer (some ⟨gx, 0, none⟩)), Is (hdv x.h), RowOf (hdsL [x.h]).toArray 26 1 1] [[], [], [(1, some 52)], [(2, some 53)], [(3, some 54)], [], [(5, some 56)], [(6, some 57)], [(4, some 55), (7, some 58)], [(0, some 51)], [(9, some 60)], [(8, some 59), (10, some 61)]] [(0, some 51), (1, some 52), (2, some 53), (3, some 54), (4, some 55), (5, some 56), (6, some 57), (7, some 58)] [0, 0, 2, 6, 14, 0, 32, 96, 254, 511, 1023, 2047]
          (by kernel_rfl) (by kernel_rfl) (by kernel_rfl) (by kernel_rfl) (by kernel_rfl) ⟨Is.kept _, Is.kept _, Is.kept _, Is.kept _, Is.kept _, Is.kept _, Is.kept _, RowOf.kept _ _ _ _, trivial⟩ ⟨?_, trivial⟩ ⟨?_, ?_, ?_, ?_, ?_, ?_, ?_, ?_, trivial⟩ ?_
        · as_aux_lemma =>
          refine fun w' hB => (show onP _ w' [] _ _ from ?_)
          skip
          exact ⟨_, .pointer (some ⟨g, 0, none⟩), rfl, Or.inl ⟨by rfl, fun w => by go_simp⟩⟩
        · as_aux_lemma =>
          refine fun w' hB => ?_
          show wpList _ _ _ _ _ _
          go_wp2_with fail
          exact ⟨.pointer (some ⟨g, 0, none⟩), by first | rfl | (go_simp; done), rfl, Below.refl _ _, fun h => absurd h (by decide)⟩
        · as_aux_lemma =>
          refine fun w' hB => ?_
          show wpList _ _ _ _ _ _
          go_wp2_with fail
          exact ⟨.pointer (some ⟨g, 0, none⟩), by first | rfl | (go_simp; done), rfl, Below.refl _ _, fun h => absurd h (by decide)⟩
        · as_aux_lemma =>
          refine fun w' hB v1 h1 => ?_
          obtain rfl := h1
          show wpList _ _ _ _ _ _
          go_wp2_with fail
          exact ⟨.pointer (some ⟨g, 0, none⟩), by first | rfl | (go_simp; done), rfl, Below.refl _ _, fun h => absurd h (by decide)⟩
        · as_aux_lemma =>
          refine fun w' hB v2 h2 => ?_
          obtain rfl := h2
          show wpList _ _ _ _ _ _
          go_wp2_with fail
          exact ⟨.pointer (some ⟨g, 329, none⟩), by first | rfl | (go_simp; done), rfl, Below.refl _ _, fun h => absurd h (by decide)⟩
        · as_aux_lemma =>
          refine fun w' hB v3 h3 => ?_
          obtain rfl := h3
          show wpList _ _ _ _ _ _
          have c := (K3.out.keep hB).readyC
          go_wp2_with fail
          exact ⟨_, rfl, rfl, Below.refl _ _, fun h => absurd h (by decide)⟩
        · as_aux_lemma =>
          refine fun w' hB => ?_
          show wpList _ _ _ _ _ _
          go_wp2_with fail
          exact ⟨.pointer (some ⟨gx, 0, none⟩), by first | rfl | (go_simp; done), rfl, Below.refl _ _, fun h => absurd h (by decide)⟩
        · as_aux_lemma =>
          refine fun w' hB v5 h5 => ?_
          obtain rfl := h5
          show wpList _ _ _ _ _ _
          go_wp2_with (first | refine ld_hd rfl (.tmp 56) rfl gx 0 x.h rfl (nd_hd (block_keep hB KX3.out)) ?_)
          exact ⟨_, rfl, rfl, Below.refl _ _, fun h => absurd h (by decide)⟩
        · as_aux_lemma =>
          refine fun w' hB v6 h6 => ?_
          obtain rfl := h6
          show wpList _ _ _ _ _ _
          go_wp2_with (first | refine wpList_bs_hd rfl (.tmp 57) x.h rfl rfl ?_)
          exact ⟨_, rfl, ⟨_, rfl, heap_new _ _⟩, below_alloc (Below.refl _ _) _, fun _ => ⟨_, rfl, Nat.le_refl _, by simp⟩⟩
        · refine fun w' G hB hN1 hN2 v0 h0 v1 h1 v2 h2 v3 h3 v4 h4 v5 h5 v6 h6 v7 h7 => ?_
          replace h0 := h0.1
          replace h1 := h1.1
          replace h2 := h2.1
          replace h3 := h3.1
          replace h4 := h4.1
          replace h5 := h5.1
          replace h6 := h6.1
          obtain ⟨h7, hG7⟩ := h7; replace hG7 := hG7 (by decide)
          have hW7 := hN1 7 (by decide) (by decide)
          clear hN1 hN2
          obtain rfl := h0
          obtain rfl := h4
          obtain ⟨g7, rfl, hg7⟩ := h7
          obtain ⟨gn7, en7, hge7, hlt7⟩ := hW7
          obtain rfl := Option.some.inj (hG7.trans en7)
          dsimp only at hge7 hlt7
          clear en7
          simp only [onP, List.drop_succ_cons, List.drop_zero]
          go_simp
          clear h1 h2 h3 h5 h6
          have K6 := Lib.hid (K3.out.keep hB); have G6 := Lib.hid (G3.out.next hB); have KX6 := Lib.hid (block_keep hB KX3.out)
          have HCL : Hid (HdsAt w' g7 0 [x.h]) := Lib.hid fun j v hv => by rw [Nat.zero_add, cell_of_row _ _ _ _ _ _ hg7, List.getElem?_toArray]; exact hv
          clear hB K3 G3 KX3 hg7
          go_wp2_with (first | (at_builtin; refine wpList_append_hds rfl (.tmp 55) (.tmp 58) rfl 0 (.slice xr q.ready.length cr) q.ready rfl K6.out.ready [x.h] (some ⟨g7, 0, none⟩) 1 rfl (fun e => by cases e) (fun ad e => by cases e; exact ⟨rfl, HCL.out⟩) (by have := (show q.ready.length ≤ 900000 from hqr); simp at this ⊢; omega) (Nat.zero_le _) (fun v' w5 ho hgrow hat => ?_); obtain ⟨x5, c5, e5⟩ := ho.shape; rw [List.length_append, List.length_singleton] at e5; subst e5; have HGR := Lib.hid hgrow; have HO := Lib.hid ho; have HAT := Lib.hid hat; clear ho hgrow hat) | (refine st_one rfl 66 (.tmp 61) (.tmp 59) rfl g 8 329 (syS (q.sy (.slice xb q.bits.length cb) (.slice xr q.ready.length cr))) 153 (.slice xr q.ready.length cr) (.slice x5 (q.ready.length + 1) c5) rfl rfl (K6.out.ready_blk HGR.out) rfl (sy_o _).2.2.2.2.2.2.2.2.1 hds_info rfl (fun w6 h1 h2 h3 h4 => ?_); obtain ⟨k5, k6, k7, k8⟩ := K6.out.ready_next G6.out KX6.out HGR.out HO.out HAT.out h1 (Gr.of_st h2 h4); have K7 := Lib.hid k5; have G7 := Lib.hid k6; have DEF7 := Lib.hid k7; have KX7 := Lib.hid k8; clear h1 h2 h3 h4 k5 k6 k7 k8 HGR HO HAT))
          clear K6 G6 KX6 HCL
          obtain ⟨q7, hq7⟩ : ∃ q7, q7 = { q with ready := q.ready ++ [x.h] } := ⟨_, rfl⟩
          rw [← hq7] at K7
          have hn7 : q7.need < 2 ^ 256 := by rw [hq7]; exact hqn
          have HR7 : Hid (R = if q7.need ≤ x.work then { q7 with phase := 3 } else q7) := Lib.hid (by rw [HR.out, hq7]; rfl)
          clear hq7 HR
          have cc := Lib.hid fun W => cmp_any x.work q7.need hx hn7 W
          by_cases hw : q7.need ≤ x.work
          · have hc : 0 ≤ cmpn x.work q7.need := by unfold cmpn; split <;> (try split) <;> omega
            have hRq : R = { q7 with phase := 3 } := by rw [HR7.out, if_pos hw]
            clear HR7
            refine wp_region_by [Is (.pointer (some ⟨gx, 103, none⟩)), Is (nv x.work), Is (.pointer (some ⟨g, 0, none⟩)), Is (.pointer (some ⟨g, 0, none⟩)), Is (.pointer (some ⟨g, 106, none⟩)), Is (nv q7.need), Is (.int .i64 (cmpn x.work q7.need)), Is (.bool true)] [[], [(0, some 62)], [], [(2, some 64)], [(3, some 65)], [(4, some 66)], [(1, some 63), (5, some 67)], [(6, some 68)]] [(0, some 62), (1, some 63), (2, some 64), (3, some 65), (4, some 66), (5, some 67), (6, some 68), (7, some 69)] [0, 1, 0, 4, 12, 28, 63, 127]
              (by kernel_rfl) (by kernel_rfl) (by kernel_rfl) (by kernel_rfl) ⟨Is.kept _, Is.kept _, Is.kept _, Is.kept _, Is.kept _, Is.kept _, Is.kept _, Is.kept _, trivial⟩ ⟨?_, ?_, ?_, ?_, ?_, ?_, ?_, ?_, trivial⟩ ?_
            · as_aux_lemma =>
              refine fun w' hB => ?_
              show wpList _ _ _ _ _ _
              go_wp2_with fail
              exact ⟨.pointer (some ⟨gx, 103, none⟩), by first | rfl | (go_simp; done), rfl, Below.refl _ _⟩
            · as_aux_lemma =>
              refine fun w' hB v0 h0 => ?_
              obtain rfl := h0
              show wpList _ _ _ _ _ _
              go_wp2_with (first | refine wpList_load_nr rfl (.tmp 62) rfl gx 103 x.work rfl (nd_work (block_keep hB KX7.out)) ?_)
              exact ⟨nv x.work, rfl, rfl, Below.refl _ _⟩
            · as_aux_lemma =>
              refine fun w' hB => ?_
              show wpList _ _ _ _ _ _
              go_wp2_with fail
              exact ⟨.pointer (some ⟨g, 0, none⟩), by first | rfl | (go_simp; done), rfl, Below.refl _ _⟩
            · as_aux_lemma =>
              refine fun w' hB v2 h2 => ?_
              obtain rfl := h2
              show wpList _ _ _ _ _ _
              go_wp2_with fail
              exact ⟨.pointer (some ⟨g, 0, none⟩), by first | rfl | (go_simp; done), rfl, Below.refl _ _⟩
            · as_aux_lemma =>
              refine fun w' hB v3 h3 => ?_
              obtain rfl := h3
              show wpList _ _ _ _ _ _
              go_wp2_with fail
              exact ⟨.pointer (some ⟨g, 106, none⟩), by first | rfl | (go_simp; done), rfl, Below.refl _ _⟩
            · as_aux_lemma =>
              refine fun w' hB v4 h4 => ?_
              obtain rfl := h4
              show wpList _ _ _ _ _ _
              go_wp2_with (first | refine wpList_load_nr rfl (.tmp 66) rfl g 106 q7.need rfl (K7.out.keep hB).need ?_)
              exact ⟨nv q7.need, rfl, rfl, Below.refl _ _⟩
            · as_aux_lemma =>
              refine fun w' hB v1 h1 v5 h5 => ?_
              obtain rfl := h1
              obtain rfl := h5
              show wpList _ _ _ _ _ _
              go_wp2_with fail
              refine (cc.out w').mono ?_
              rintro e w2 ⟨rfl, hb2⟩
              go_wp2_with fail
              exact ⟨.int .i64 (cmpn x.work q7.need), by first | rfl | (go_simp; done), rfl, hb2⟩
            · as_aux_lemma =>
              refine fun w' hB v6 h6 => ?_
              obtain rfl := h6
              show wpList _ _ _ _ _ _
              go_wp2_with fail
              exact ⟨.bool true, by first | rfl | (go_simp; done), rfl, Below.refl _ _⟩
            · refine fun w' hB v0 h0 v1 h1 v2 h2 v3 h3 v4 h4 v5 h5 v6 h6 v7 h7 => ?_
              obtain rfl := h7
              simp only [onP]
              go_simp
              clear h0 h1 h2 h3 h4 h5 h6
              have K8 := Lib.hid (K7.out.keep hB); have G8 := Lib.hid (G7.out.next hB)
              clear hB K7 KX7 G7 cc
              go_wp2_with (first | (refine st_one rfl 3 (.tmp 72) (.const (.int .i64 3)) rfl g 4 218 (syS (q7.sy (.slice xb q.bits.length cb) (.slice x5 (q.ready.length + 1) c5))) 153 (.int .i64 q7.phase) (.int .i64 3) rfl rfl K8.out.blk rfl (sy_o _).2.2.2.2.1 int_info rfl (fun w9 h1 h2 h3 h4 => ?_); have G9 := Lib.hid (G8.out.trans (Gr.of_st h2 h4) (fun _ _ e => .inl e)); have K9 : Hid (PsIs w9 g (.slice xb q.bits.length cb) (.slice x5 (q.ready.length + 1) c5) { q7 with phase := 3 }) := Lib.hid (K8.out.to h1 (Gr.of_st h2 h4) rfl rfl); clear h1 h2 h3 h4))
              exact bodyPost_end (v := .tuple #[]) (by simp [results]) rfl ⟨⟨_, rfl⟩, _, _, hRq ▸ K9.out, G9.out, DEF7.out⟩
          · have hc : ¬ 0 ≤ cmpn x.work q7.need := by unfold cmpn; rw [if_pos (by omega)]; omega
            have hRq : R = q7 := by rw [HR7.out, if_neg hw]
            clear HR7
            refine wp_region_by [Is (.pointer (some ⟨gx, 103, none⟩)), Is (nv x.work), Is (.pointer (some ⟨g, 0, none⟩)), Is (.pointer (some ⟨g, 0, none⟩)), Is (.pointer (some ⟨g, 106, none⟩)), Is (nv q7.need), Is (.int .i64 (cmpn x.work q7.need)), Is (.bool false)] [[], [(0, some 62)], [], [(2, some 64)], [(3, some 65)], [(4, some 66)], [(1, some 63), (5, some 67)], [(6, some 68)]] [(0, some 62), (1, some 63), (2, some 64), (3, some 65), (4, some 66), (5, some 67), (6, some 68), (7, some 69)] [0, 1, 0, 4, 12, 28, 63, 127]
              (by kernel_rfl) (by kernel_rfl) (by kernel_rfl) (by kernel_rfl) ⟨Is.kept _, Is.kept _, Is.kept _, Is.kept _, Is.kept _, Is.kept _, Is.kept _, Is.kept _, trivial⟩ ⟨?_, ?_, ?_, ?_, ?_, ?_, ?_, ?_, trivial⟩ ?_
            · as_aux_lemma =>
              refine fun w' hB => ?_
              show wpList _ _ _ _ _ _
              go_wp2_with fail
              exact ⟨.pointer (some ⟨gx, 103, none⟩), by first | rfl | (go_simp; done), rfl, Below.refl _ _⟩
            · as_aux_lemma =>
              refine fun w' hB v0 h0 => ?_
              obtain rfl := h0
              show wpList _ _ _ _ _ _
              go_wp2_with (first | refine wpList_load_nr rfl (.tmp 62) rfl gx 103 x.work rfl (nd_work (block_keep hB KX7.out)) ?_)
              exact ⟨nv x.work, rfl, rfl, Below.refl _ _⟩
            · as_aux_lemma =>
              refine fun w' hB => ?_
              show wpList _ _ _ _ _ _
              go_wp2_with fail
              exact ⟨.pointer (some ⟨g, 0, none⟩), by first | rfl | (go_simp; done), rfl, Below.refl _ _⟩
            · as_aux_lemma =>
              refine fun w' hB v2 h2 => ?_
              obtain rfl := h2
              show wpList _ _ _ _ _ _
              go_wp2_with fail
              exact ⟨.pointer (some ⟨g, 0, none⟩), by first | rfl | (go_simp; done), rfl, Below.refl _ _⟩
            · as_aux_lemma =>
              refine fun w' hB v3 h3 => ?_
              obtain rfl := h3
              show wpList _ _ _ _ _ _
              go_wp2_with fail
              exact ⟨.pointer (some ⟨g, 106, none⟩), by first | rfl | (go_simp; done), rfl, Below.refl _ _⟩
            · as_aux_lemma =>
              refine fun w' hB v4 h4 => ?_
              obtain rfl := h4
              show wpList _ _ _ _ _ _
              go_wp2_with (first | refine wpList_load_nr rfl (.tmp 66) rfl g 106 q7.need rfl (K7.out.keep hB).need ?_)
              exact ⟨nv q7.need, rfl, rfl, Below.refl _ _⟩
            · as_aux_lemma =>
              refine fun w' hB v1 h1 v5 h5 => ?_
              obtain rfl := h1
              obtain rfl := h5
              show wpList _ _ _ _ _ _
              go_wp2_with fail
              refine (cc.out w').mono ?_
              rintro e w2 ⟨rfl, hb2⟩
              go_wp2_with fail
              exact ⟨.int .i64 (cmpn x.work q7.need), by first | rfl | (go_simp; done), rfl, hb2⟩
            · as_aux_lemma =>
              refine fun w' hB v6 h6 => ?_
              obtain rfl := h6
              show wpList _ _ _ _ _ _
              go_wp2_with fail
              exact ⟨.bool false, by first | rfl | (go_simp; done), rfl, Below.refl _ _⟩
            · refine fun w' hB v0 h0 v1 h1 v2 h2 v3 h3 v4 h4 v5 h5 v6 h6 v7 h7 => ?_
              obtain rfl := h7
              simp only [onP]
              go_simp
              clear h0 h1 h2 h3 h4 h5 h6
              have K8 := Lib.hid (K7.out.keep hB); have G8 := Lib.hid (G7.out.next hB)
              clear hB K7 KX7 G7 cc
              go_wp2_with fail
              exact bodyPost_end (v := .tuple #[]) (by simp [results]) rfl ⟨⟨_, rfl⟩, _, _, hRq ▸ K8.out, G8.out, DEF7.out⟩
  · rw [decide_eq_false hm] at cm
    rw [if_neg (fun e => hm e.1)] at HR
    refine wp_region_by [Is (.pointer (some ⟨g, 0, none⟩)), Is (.pointer (some ⟨gx, 102, none⟩)), Is (.int .i64 k), Is (.bool false), Is (.bool false), Is (undef), Is (undef), Is (undef), Is (undef), Is (undef), Is (undef), Is (undef), Is (undef), Is (undef), Is (undef), Is (.bool false)] [[], [], [(1, some 9)], [(0, some 8), (2, some 10)], [(3, some 11)], [(4, some 12)], [(4, some 12), (5, some 13)], [(4, some 12), (6, some 14)], [(4, some 12), (7, some 15)], [(4, some 12)], [(4, some 12), (9, some 17)], [(4, some 12), (10, some 18)], [(4, some 12), (11, some 19)], [(4, some 12), (12, some 20)], [(4, some 12), (8, some 16), (13, some 21)], [(4, some 12), (14, some 22)]] [(0, some 8), (1, some 9), (2, some 10), (3, some 11), (4, some 12), (5, some 13), (6, some 14), (7, some 15), (8, some 16), (9, some 17), (10, some 18), (11, some 19), (12, some 20), (13, some 21), (14, some 22), (15, some 23)] [0, 0, 2, 7, 15, 31, 63, 127, 255, 31, 543, 1567, 3615, 7711, 16383, 32767]
      (by kernel_rfl) (by kernel_rfl) (by kernel_rfl) (by kernel_rfl) ⟨Is.kept _, Is.kept _, Is.kept _, Is.kept _, Is.kept _, Is.kept _, Is.kept _, Is.kept _, Is.kept _, Is.kept _, Is.kept _, Is.kept _, Is.kept _, Is.kept _, Is.kept _, Is.kept _, trivial⟩ ⟨?_, ?_, ?_, ?_, ?_, ?_, ?_, ?_, ?_, ?_, ?_, ?_, ?_, ?_, ?_, ?_, trivial⟩ ?_
    · as_aux_lemma =>
      refine fun w' hB => ?_
      show wpList _ _ _ _ _ _
      go_wp2_with fail
      exact ⟨.pointer (some ⟨g, 0, none⟩), by first | rfl | (go_simp; done), rfl, Below.refl _ _⟩
    · as_aux_lemma =>
      refine fun w' hB => ?_
      show wpList _ _ _ _ _ _
      go_wp2_with fail
      exact ⟨.pointer (some ⟨gx, 102, none⟩), by first | rfl | (go_simp; done), rfl, Below.refl _ _⟩
    · as_aux_lemma =>
      refine fun w' hB v1 h1 => ?_
      obtain rfl := h1
      show wpList _ _ _ _ _ _
      have c := HC.out _ (block_keep hB KX2.out)
      go_wp2_with fail
      exact ⟨_, rfl, rfl, Below.refl _ _⟩
    · as_aux_lemma =>
      refine fun w' hB v0 h0 v2 h2 => ?_
      obtain rfl := h0
      obtain rfl := h2
      show wpList _ _ _ _ _ _
      go_wp2_with fail
      refine ((cm.out w' (K2.out.keep hB))).mono ?_
      rintro e w2 ⟨rfl, hb2⟩
      go_wp2_with fail
      exact ⟨.bool false, by first | rfl | (go_simp; done), rfl, hb2⟩
    · as_aux_lemma =>
      refine fun w' hB v3 h3 => ?_
      obtain rfl := h3
      show wpList _ _ _ _ _ _
      go_wp2_with fail
      exact ⟨.bool false, by first | rfl | (go_simp; done), rfl, Below.refl _ _⟩
    · as_aux_lemma =>
      refine fun w' hB v4 h4 => ?_
      obtain rfl := h4
      show wpList _ _ _ _ _ _
      refine wpList_skip (by rfl) ?_
      go_wp2_with fail
      exact ⟨undef, by first | rfl | (go_simp; done), rfl, Below.refl _ _⟩
    · as_aux_lemma =>
      refine fun w' hB v4 h4 v5 h5 => ?_
      obtain rfl := h4
      obtain rfl := h5
      show wpList _ _ _ _ _ _
      refine wpList_skip (by rfl) ?_
      go_wp2_with fail
      exact ⟨undef, by first | rfl | (go_simp; done), rfl, Below.refl _ _⟩
    · as_aux_lemma =>
      refine fun w' hB v4 h4 v6 h6 => ?_
      obtain rfl := h4
      obtain rfl := h6
      show wpList _ _ _ _ _ _
      refine wpList_skip (by rfl) ?_
      go_wp2_with fail
      exact ⟨undef, by first | rfl | (go_simp; done), rfl, Below.refl _ _⟩
    · as_aux_lemma =>
      refine fun w' hB v4 h4 v7 h7 => ?_
      obtain rfl := h4
      obtain rfl := h7
      show wpList _ _ _ _ _ _
      refine wpList_skip (by rfl) ?_
      go_wp2_with fail
      exact ⟨undef, by first | rfl | (go_simp; done), rfl, Below.refl _ _⟩
    · as_aux_lemma =>
      refine fun w' hB v4 h4 => ?_
      obtain rfl := h4
      show wpList _ _ _ _ _ _
      refine wpList_skip (by rfl) ?_
      go_wp2_with fail
      exact ⟨undef, by first | rfl | (go_simp; done), rfl, Below.refl _ _⟩
    · as_aux_lemma =>
      refine fun w' hB v4 h4 v9 h9 => ?_
      obtain rfl := h4
      obtain rfl := h9
      show wpList _ _ _ _ _ _
      refine wpList_skip (by rfl) ?_
      go_wp2_with fail
      exact ⟨undef, by first | rfl | (go_simp; done), rfl, Below.refl _ _⟩
    · as_aux_lemma =>
      refine fun w' hB v4 h4 v10 h10 => ?_
      obtain rfl := h4
      obtain rfl := h10
      show wpList _ _ _ _ _ _
      refine wpList_skip (by rfl) ?_
      go_wp2_with fail
      exact ⟨undef, by first | rfl | (go_simp; done), rfl, Below.refl _ _⟩
    · as_aux_lemma =>
      refine fun w' hB v4 h4 v11 h11 => ?_
      obtain rfl := h4
      obtain rfl := h11
      show wpList _ _ _ _ _ _
      refine wpList_skip (by rfl) ?_
      go_wp2_with fail
      exact ⟨undef, by first | rfl | (go_simp; done), rfl, Below.refl _ _⟩
    · as_aux_lemma =>
      refine fun w' hB v4 h4 v12 h12 => ?_
      obtain rfl := h4
      obtain rfl := h12
      show wpList _ _ _ _ _ _
      refine wpList_skip (by rfl) ?_
      go_wp2_with fail
      exact ⟨undef, by first | rfl | (go_simp; done), rfl, Below.refl _ _⟩
    · as_aux_lemma =>
      refine fun w' hB v4 h4 v8 h8 v13 h13 => ?_
      obtain rfl := h4
      obtain rfl := h8
      obtain rfl := h13
      show wpList _ _ _ _ _ _
      refine wpList_skip (by rfl) ?_
      go_wp2_with fail
      exact ⟨undef, by first | rfl | (go_simp; done), rfl, Below.refl _ _⟩
    · as_aux_lemma =>
      refine fun w' hB v4 h4 v14 h14 => ?_
      obtain rfl := h4
      obtain rfl := h14
      show wpList _ _ _ _ _ _
      go_wp2_with fail
      exact ⟨.bool false, by first | rfl | (go_simp; done), rfl, Below.refl _ _⟩
    · refine fun w' hB v0 h0 v1 h1 v2 h2 v3 h3 v4 h4 v5 h5 v6 h6 v7 h7 v8 h8 v9 h9 v10 h10 v11 h11 v12 h12 v13 h13 v14 h14 v15 h15 => ?_
      obtain rfl := h15
      simp only [onP]
      go_simp
      clear h0 h1 h2 h3 h4 h5 h6 h7 h8 h9 h10 h11 h12 h13 h14
      have K3 := Lib.hid (K2.out.keep hB); have G3 := Lib.hid (G2.out.next hB); have KX3 := Lib.hid (block_keep hB KX2.out)
      clear hB K2 G2 KX2 cm HC
      go_wp2_with fail
      refine wp_region_z 8 [0] (fun j => decide (j = 7) || false) [Is (.pointer (some ⟨g, 0, none⟩)), Is (.pointer (some ⟨g, 0, none⟩)), Is (.pointer (some ⟨g, 0, none⟩)), Is (.pointer (some ⟨g, 329, none⟩)), Is ((.slice xr q.ready.length cr)), Is (.pointer (some ⟨gx, 0, none⟩)), Is (hdv x.h), RowOf (hdsL [x.h]).toArray 26 1 1] [[], [], [(1, some 52)], [(2, some 53)], [(3, some 54)], [], [(5, some 56)], [(6, some 57)], [(4, some 55), (7, some 58)], [(0, some 51)], [(9, some 60)], [(8, some 59), (10, some 61)]] [(0, some 51), (1, some 52), (2, some 53), (3, some 54), (4, some 55), (5, some 56), (6, some 57), (7, some 58)] [0, 0, 2, 6, 14, 0, 32, 96, 254, 511, 1023, 2047]
        (by kernel_rfl) (by kernel_rfl) (by kernel_rfl) (by kernel_rfl) (by kernel_rfl) ⟨Is.kept _, Is.kept _, Is.kept _, Is.kept _, Is.kept _, Is.kept _, Is.kept _, RowOf.kept _ _ _ _, trivial⟩ ⟨?_, trivial⟩ ⟨?_, ?_, ?_, ?_, ?_, ?_, ?_, ?_, trivial⟩ ?_
      · as_aux_lemma =>
        refine fun w' hB => (show onP _ w' [] _ _ from ?_)
        skip
        exact ⟨_, .pointer (some ⟨g, 0, none⟩), rfl, Or.inl ⟨by rfl, fun w => by go_simp⟩⟩
      · as_aux_lemma =>
        refine fun w' hB => ?_
        show wpList _ _ _ _ _ _
        go_wp2_with fail
        exact ⟨.pointer (some ⟨g, 0, none⟩), by first | rfl | (go_simp; done), rfl, Below.refl _ _, fun h => absurd h (by decide)⟩
      · as_aux_lemma =>
        refine fun w' hB => ?_
        show wpList _ _ _ _ _ _
        go_wp2_with fail
        exact ⟨.pointer (some ⟨g, 0, none⟩), by first | rfl | (go_simp; done), rfl, Below.refl _ _, fun h => absurd h (by decide)⟩
      · as_aux_lemma =>
        refine fun w' hB v1 h1 => ?_
        obtain rfl := h1
        show wpList _ _ _ _ _ _
        go_wp2_with fail
        exact ⟨.pointer (some ⟨g, 0, none⟩), by first | rfl | (go_simp; done), rfl, Below.refl _ _, fun h => absurd h (by decide)⟩
      · as_aux_lemma =>
        refine fun w' hB v2 h2 => ?_
        obtain rfl := h2
        show wpList _ _ _ _ _ _
        go_wp2_with fail
        exact ⟨.pointer (some ⟨g, 329, none⟩), by first | rfl | (go_simp; done), rfl, Below.refl _ _, fun h => absurd h (by decide)⟩
      · as_aux_lemma =>
        refine fun w' hB v3 h3 => ?_
        obtain rfl := h3
        show wpList _ _ _ _ _ _
        have c := (K3.out.keep hB).readyC
        go_wp2_with fail
        exact ⟨_, rfl, rfl, Below.refl _ _, fun h => absurd h (by decide)⟩
      · as_aux_lemma =>
        refine fun w' hB => ?_
        show wpList _ _ _ _ _ _
        go_wp2_with fail
        exact ⟨.pointer (some ⟨gx, 0, none⟩), by first | rfl | (go_simp; done), rfl, Below.refl _ _, fun h => absurd h (by decide)⟩
      · as_aux_lemma =>
        refine fun w' hB v5 h5 => ?_
        obtain rfl := h5
        show wpList _ _ _ _ _ _
        go_wp2_with (first | refine ld_hd rfl (.tmp 56) rfl gx 0 x.h rfl (nd_hd (block_keep hB KX3.out)) ?_)
        exact ⟨_, rfl, rfl, Below.refl _ _, fun h => absurd h (by decide)⟩
      · as_aux_lemma =>
        refine fun w' hB v6 h6 => ?_
        obtain rfl := h6
        show wpList _ _ _ _ _ _
        go_wp2_with (first | refine wpList_bs_hd rfl (.tmp 57) x.h rfl rfl ?_)
        exact ⟨_, rfl, ⟨_, rfl, heap_new _ _⟩, below_alloc (Below.refl _ _) _, fun _ => ⟨_, rfl, Nat.le_refl _, by simp⟩⟩
      · refine fun w' G hB hN1 hN2 v0 h0 v1 h1 v2 h2 v3 h3 v4 h4 v5 h5 v6 h6 v7 h7 => ?_
        replace h0 := h0.1
        replace h1 := h1.1
        replace h2 := h2.1
        replace h3 := h3.1
        replace h4 := h4.1
        replace h5 := h5.1
        replace h6 := h6.1
        obtain ⟨h7, hG7⟩ := h7; replace hG7 := hG7 (by decide)
        have hW7 := hN1 7 (by decide) (by decide)
        clear hN1 hN2
        obtain rfl := h0
        obtain rfl := h4
        obtain ⟨g7, rfl, hg7⟩ := h7
        obtain ⟨gn7, en7, hge7, hlt7⟩ := hW7
        obtain rfl := Option.some.inj (hG7.trans en7)
        dsimp only at hge7 hlt7
        clear en7
        simp only [onP, List.drop_succ_cons, List.drop_zero]
        go_simp
        clear h1 h2 h3 h5 h6
        have K6 := Lib.hid (K3.out.keep hB); have G6 := Lib.hid (G3.out.next hB); have KX6 := Lib.hid (block_keep hB KX3.out)
        have HCL : Hid (HdsAt w' g7 0 [x.h]) := Lib.hid fun j v hv => by rw [Nat.zero_add, cell_of_row _ _ _ _ _ _ hg7, List.getElem?_toArray]; exact hv
        clear hB K3 G3 KX3 hg7
        go_wp2_with (first | (at_builtin; refine wpList_append_hds rfl (.tmp 55) (.tmp 58) rfl 0 (.slice xr q.ready.length cr) q.ready rfl K6.out.ready [x.h] (some ⟨g7, 0, none⟩) 1 rfl (fun e => by cases e) (fun ad e => by cases e; exact ⟨rfl, HCL.out⟩) (by have := (show q.ready.length ≤ 900000 from hqr); simp at this ⊢; omega) (Nat.zero_le _) (fun v' w5 ho hgrow hat => ?_); obtain ⟨x5, c5, e5⟩ := ho.shape; rw [List.length_append, List.length_singleton] at e5; subst e5; have HGR := Lib.hid hgrow; have HO := Lib.hid ho; have HAT := Lib.hid hat; clear ho hgrow hat) | (refine st_one rfl 66 (.tmp 61) (.tmp 59) rfl g 8 329 (syS (q.sy (.slice xb q.bits.length cb) (.slice xr q.ready.length cr))) 153 (.slice xr q.ready.length cr) (.slice x5 (q.ready.length + 1) c5) rfl rfl (K6.out.ready_blk HGR.out) rfl (sy_o _).2.2.2.2.2.2.2.2.1 hds_info rfl (fun w6 h1 h2 h3 h4 => ?_); obtain ⟨k5, k6, k7, k8⟩ := K6.out.ready_next G6.out KX6.out HGR.out HO.out HAT.out h1 (Gr.of_st h2 h4); have K7 := Lib.hid k5; have G7 := Lib.hid k6; have DEF7 := Lib.hid k7; have KX7 := Lib.hid k8; clear h1 h2 h3 h4 k5 k6 k7 k8 HGR HO HAT))
        clear K6 G6 KX6 HCL
        obtain ⟨q7, hq7⟩ : ∃ q7, q7 = { q with ready := q.ready ++ [x.h] } := ⟨_, rfl⟩
        rw [← hq7] at K7
        have hn7 : q7.need < 2 ^ 256 := by rw [hq7]; exact hqn
        have HR7 : Hid (R = if q7.need ≤ x.work then { q7 with phase := 3 } else q7) := Lib.hid (by rw [HR.out, hq7]; rfl)
        clear hq7 HR
        have cc := Lib.hid fun W => cmp_any x.work q7.need hx hn7 W
        by_cases hw : q7.need ≤ x.work
        · have hc : 0 ≤ cmpn x.work q7.need := by unfold cmpn; split <;> (try split) <;> omega
          have hRq : R = { q7 with phase := 3 } := by rw [HR7.out, if_pos hw]
          clear HR7
          refine wp_region_by [Is (.pointer (some ⟨gx, 103, none⟩)), Is (nv x.work), Is (.pointer (some ⟨g, 0, none⟩)), Is (.pointer (some ⟨g, 0, none⟩)), Is (.pointer (some ⟨g, 106, none⟩)), Is (nv q7.need), Is (.int .i64 (cmpn x.work q7.need)), Is (.bool true)] [[], [(0, some 62)], [], [(2, some 64)], [(3, some 65)], [(4, some 66)], [(1, some 63), (5, some 67)], [(6, some 68)]] [(0, some 62), (1, some 63), (2, some 64), (3, some 65), (4, some 66), (5, some 67), (6, some 68), (7, some 69)] [0, 1, 0, 4, 12, 28, 63, 127]
            (by kernel_rfl) (by kernel_rfl) (by kernel_rfl) (by kernel_rfl) ⟨Is.kept _, Is.kept _, Is.kept _, Is.kept _, Is.kept _, Is.kept _, Is.kept _, Is.kept _, trivial⟩ ⟨?_, ?_, ?_, ?_, ?_, ?_, ?_, ?_, trivial⟩ ?_
          · as_aux_lemma =>
            refine fun w' hB => ?_
            show wpList _ _ _ _ _ _
            go_wp2_with fail
            exact ⟨.pointer (some ⟨gx, 103, none⟩), by first | rfl | (go_simp; done), rfl, Below.refl _ _⟩
          · as_aux_lemma =>
            refine fun w' hB v0 h0 => ?_
            obtain rfl := h0
            show wpList _ _ _ _ _ _
            go_wp2_with (first | refine wpList_load_nr rfl (.tmp 62) rfl gx 103 x.work rfl (nd_work (block_keep hB KX7.out)) ?_)
            exact ⟨nv x.work, rfl, rfl, Below.refl _ _⟩
          · as_aux_lemma =>
            refine fun w' hB => ?_
            show wpList _ _ _ _ _ _
            go_wp2_with fail
            exact ⟨.pointer (some ⟨g, 0, none⟩), by first | rfl | (go_simp; done), rfl, Below.refl _ _⟩
          · as_aux_lemma =>
            refine fun w' hB v2 h2 => ?_
            obtain rfl := h2
            show wpList _ _ _ _ _ _
            go_wp2_with fail
            exact ⟨.pointer (some ⟨g, 0, none⟩), by first | rfl | (go_simp; done), rfl, Below.refl _ _⟩
          · as_aux_lemma =>
            refine fun w' hB v3 h3 => ?_
            obtain rfl := h3
            show wpList _ _ _ _ _ _
            go_wp2_with fail
            exact ⟨.pointer (some ⟨g, 106, none⟩), by first | rfl | (go_simp; done), rfl, Below.refl _ _⟩
          · as_aux_lemma =>
            refine fun w' hB v4 h4 => ?_
            obtain rfl := h4
            show wpList _ _ _ _ _ _
            go_wp2_with (first | refine wpList_load_nr rfl (.tmp 66) rfl g 106 q7.need rfl (K7.out.keep hB).need ?_)
            exact ⟨nv q7.need, rfl, rfl, Below.refl _ _⟩
          · as_aux_lemma =>
            refine fun w' hB v1 h1 v5 h5 => ?_
            obtain rfl := h1
            obtain rfl := h5
            show wpList _ _ _ _ _ _
            go_wp2_with fail
            refine (cc.out w').mono ?_
            rintro e w2 ⟨rfl, hb2⟩
            go_wp2_with fail
            exact ⟨.int .i64 (cmpn x.work q7.need), by first | rfl | (go_simp; done), rfl, hb2⟩
          · as_aux_lemma =>
            refine fun w' hB v6 h6 => ?_
            obtain rfl := h6
            show wpList _ _ _ _ _ _
            go_wp2_with fail
            exact ⟨.bool true, by first | rfl | (go_simp; done), rfl, Below.refl _ _⟩
          · refine fun w' hB v0 h0 v1 h1 v2 h2 v3 h3 v4 h4 v5 h5 v6 h6 v7 h7 => ?_
            obtain rfl := h7
            simp only [onP]
            go_simp
            clear h0 h1 h2 h3 h4 h5 h6
            have K8 := Lib.hid (K7.out.keep hB); have G8 := Lib.hid (G7.out.next hB)
            clear hB K7 KX7 G7 cc
            go_wp2_with (first | (refine st_one rfl 3 (.tmp 72) (.const (.int .i64 3)) rfl g 4 218 (syS (q7.sy (.slice xb q.bits.length cb) (.slice x5 (q.ready.length + 1) c5))) 153 (.int .i64 q7.phase) (.int .i64 3) rfl rfl K8.out.blk rfl (sy_o _).2.2.2.2.1 int_info rfl (fun w9 h1 h2 h3 h4 => ?_); have G9 := Lib.hid (G8.out.trans (Gr.of_st h2 h4) (fun _ _ e => .inl e)); have K9 : Hid (PsIs w9 g (.slice xb q.bits.length cb) (.slice x5 (q.ready.length + 1) c5) { q7 with phase := 3 }) := Lib.hid (K8.out.to h1 (Gr.of_st h2 h4) rfl rfl); clear h1 h2 h3 h4))
            exact bodyPost_end (v := .tuple #[]) (by simp [results]) rfl ⟨⟨_, rfl⟩, _, _, hRq ▸ K9.out, G9.out, DEF7.out⟩
        · have hc : ¬ 0 ≤ cmpn x.work q7.need := by unfold cmpn; rw [if_pos (by omega)]; omega
          have hRq : R = q7 := by rw [HR7.out, if_neg hw]
          clear HR7
          refine wp_region_by [Is (.pointer (some ⟨gx, 103, none⟩)), Is (nv x.work), Is (.pointer (some ⟨g, 0, none⟩)), Is (.pointer (some ⟨g, 0, none⟩)), Is (.pointer (some ⟨g, 106, none⟩)), Is (nv q7.need), Is (.int .i64 (cmpn x.work q7.need)), Is (.bool false)] [[], [(0, some 62)], [], [(2, some 64)], [(3, some 65)], [(4, some 66)], [(1, some 63), (5, some 67)], [(6, some 68)]] [(0, some 62), (1, some 63), (2, some 64), (3, some 65), (4, some 66), (5, some 67), (6, some 68), (7, some 69)] [0, 1, 0, 4, 12, 28, 63, 127]
            (by kernel_rfl) (by kernel_rfl) (by kernel_rfl) (by kernel_rfl) ⟨Is.kept _, Is.kept _, Is.kept _, Is.kept _, Is.kept _, Is.kept _, Is.kept _, Is.kept _, trivial⟩ ⟨?_, ?_, ?_, ?_, ?_, ?_, ?_, ?_, trivial⟩ ?_
          · as_aux_lemma =>
            refine fun w' hB => ?_
            show wpList _ _ _ _ _ _
            go_wp2_with fail
            exact ⟨.pointer (some ⟨gx, 103, none⟩), by first | rfl | (go_simp; done), rfl, Below.refl _ _⟩
          · as_aux_lemma =>
            refine fun w' hB v0 h0 => ?_
            obtain rfl := h0
            show wpList _ _ _ _ _ _
            go_wp2_with (first | refine wpList_load_nr rfl (.tmp 62) rfl gx 103 x.work rfl (nd_work (block_keep hB KX7.out)) ?_)
            exact ⟨nv x.work, rfl, rfl, Below.refl _ _⟩
          · as_aux_lemma =>
            refine fun w' hB => ?_
            show wpList _ _ _ _ _ _
            go_wp2_with fail
            exact ⟨.pointer (some ⟨g, 0, none⟩), by first | rfl | (go_simp; done), rfl, Below.refl _ _⟩
          · as_aux_lemma =>
            refine fun w' hB v2 h2 => ?_
            obtain rfl := h2
            show wpList _ _ _ _ _ _
            go_wp2_with fail
            exact ⟨.pointer (some ⟨g, 0, none⟩), by first | rfl | (go_simp; done), rfl, Below.refl _ _⟩
          · as_aux_lemma =>
            refine fun w' hB v3 h3 => ?_
            obtain rfl := h3
            show wpList _ _ _ _ _ _
            go_wp2_with fail
            exact ⟨.pointer (some ⟨g, 106, none⟩), by first | rfl | (go_simp; done), rfl, Below.refl _ _⟩
          · as_aux_lemma =>
            refine fun w' hB v4 h4 => ?_
            obtain rfl := h4
            show wpList _ _ _ _ _ _
            go_wp2_with (first | refine wpList_load_nr rfl (.tmp 66) rfl g 106 q7.need rfl (K7.out.keep hB).need ?_)
            exact ⟨nv q7.need, rfl, rfl, Below.refl _ _⟩
          · as_aux_lemma =>
            refine fun w' hB v1 h1 v5 h5 => ?_
            obtain rfl := h1
            obtain rfl := h5
            show wpList _ _ _ _ _ _
            go_wp2_with fail
            refine (cc.out w').mono ?_
            rintro e w2 ⟨rfl, hb2⟩
            go_wp2_with fail
            exact ⟨.int .i64 (cmpn x.work q7.need), by first | rfl | (go_simp; done), rfl, hb2⟩
          · as_aux_lemma =>
            refine fun w' hB v6 h6 => ?_
            obtain rfl := h6
            show wpList _ _ _ _ _ _
            go_wp2_with fail
            exact ⟨.bool false, by first | rfl | (go_simp; done), rfl, Below.refl _ _⟩
          · refine fun w' hB v0 h0 v1 h1 v2 h2 v3 h3 v4 h4 v5 h5 v6 h6 v7 h7 => ?_
            obtain rfl := h7
            simp only [onP]
            go_simp
            clear h0 h1 h2 h3 h4 h5 h6
            have K8 := Lib.hid (K7.out.keep hB); have G8 := Lib.hid (G7.out.next hB)
            clear hB K7 KX7 G7 cc
            go_wp2_with fail
            exact bodyPost_end (v := .tuple #[]) (by simp [results]) rfl ⟨⟨_, rfl⟩, _, _, hRq ▸ K8.out, G8.out, DEF7.out⟩
end Go.Proofs.Ytnbppbnjkmopeaa
namespace Go.Proofs.Ytnbppbnjkmopeaa
open Go.RowKit

theorem nxN_lt (t k s l : Nat) (hl : l < 2 ^ 256) : nxN t k s l < 2 ^ 256 := by
  unfold nxN
  split
  · split
    · exact hl
    · omega
  · omega
/-- bits.Next, its answer as a pair -/
def nexP (b : Nat) (took should : Int) (l : Nat) : Nat × Bool := if (tgt b).2 = true ∧ 1 ≤ should ∧ should ≤ 1099511627776 then (sht (nxN (tgt b).1 (spn took should) should.toNat l), true) else (0, false)
/-- what presync.May answers where the bits may change -/
def mayQ (r : Rl) (was now : Nat) : Bool :=
  let s := r.every * r.spacing
  let lo := nexP was 0 s (tgt r.limit).1
  let hi := nexP was (4 * s) s (tgt r.limit).1
  lo.2 && hi.2 && (tgt hi.1).2 && (tgt now).2 && (!(tgt lo.1).2 || decide ((tgt lo.1).1 ≤ (tgt now).1)) && decide ((tgt now).1 ≤ (tgt hi.1).1)
def mayP (r : Rl) (k was now : Nat) : Bool := if r.every = 0 ∨ (k : Int) % r.every ≠ 0 then decide (was = now) else mayQ r was now

set_option maxRecDepth 100000 in
set_option maxHeartbeats 4000000 in
theorem may_any (r : Rl) (hl : r.limit < 4294967296) (he0 : 0 ≤ r.every) (he1 : r.every ≤ 1000) (hs0 : 1 ≤ r.spacing) (hs1 : r.spacing ≤ 1048576) (k : Nat) (hk : k < 9223372036854775808) (was now : Nat) (hwas : was < 4294967296) (hnow : now < 4294967296) (w : World) :
    Calls Try.prog 43 #[rlv r, .int .i64 (k : Int), .int .u32 (was : Int), .int .u32 (now : Int)] w fun e w' => e = .returned (.bool (mayP r k was now)) ∧ Below w.heap.size w w' := by
  have KR := Lib.hid (heap_new w (rlblk r))
  have B := Lib.hid (below_alloc (Below.refl w.heap.size w) (rlblk r))
  have HC : Hid (∀ V : World, V.heap[w.heap.size]? = some (rlblk r) → V.cell? ⟨w.heap.size, 0, none⟩ = some (.int .u32 r.limit) ∧ V.cell? ⟨w.heap.size, 1, none⟩ = some (.int .i64 r.every) ∧ V.cell? ⟨w.heap.size, 2, none⟩ = some (.int .i64 r.spacing)) :=
    Lib.hid fun V hV => ⟨seg_cell (S := rlS r) (k := 0) hV rfl rfl, seg_cell (S := rlS r) (k := 1) hV rfl rfl, seg_cell (S := rlS r) (k := 2) hV rfl rfl⟩
  obtain ⟨E, hE⟩ : ∃ E : Nat, r.every = E := ⟨r.every.toNat, by omega⟩
  obtain ⟨S, hS⟩ : ∃ S : Nat, r.spacing = S := ⟨r.spacing.toNat, by omega⟩
  rw [hE] at HC he0 he1
  rw [hS] at HC hs0 hs1
  have c0 : (w.alloc (.cells (rlL r).toArray 62)).cell? ⟨w.heap.size, 0, none⟩ = some (.int .u32 r.limit) := (HC.out _ KR.out).1
  have c1 : (w.alloc (.cells (rlL r).toArray 62)).cell? ⟨w.heap.size, 1, none⟩ = some (.int .i64 (E : Int)) := (HC.out _ KR.out).2.1
  have c2 : (w.alloc (.cells (rlL r).toArray 62)).cell? ⟨w.heap.size, 2, none⟩ = some (.int .i64 (S : Int)) := (HC.out _ KR.out).2.2
  have hE0 : E ≤ 1000 := by omega
  have hS0 : 1 ≤ S := by omega
  have hS1 : S ≤ 1048576 := by omega
  clear he0 he1 hs0 hs1
  have HE := Lib.hid hE; have HS := Lib.hid hS
  obtain ⟨R, hR⟩ : ∃ R, R = mayP r k was now := ⟨_, rfl⟩
  rw [← hR]
  rw [mayP, hE] at hR
  have HR := Lib.hid hR
  clear hR hE hS
  go_enter Try.func43, Try.ntmps43
  by_cases p1 : E = 0
  · subst p1
    have hR : R = decide (was = now) := by rw [HR.out, if_pos (.inl rfl)]
    clear HR HC HE HS
    go_wp2_with fail
    go_ret
    refine ⟨congrArg (fun b => Ending.returned (.bool b)) ?_, B.out⟩
    rw [hR, Bool.eq_iff_iff, beq_iff_eq, decide_eq_true_eq]
    omega
  · have EME : Hid ((k : Int) % (E : Int) = ((k % E : Nat) : Int)) := Lib.hid (by simp)
    go_upto_if 31 with fail
    by_cases p2 : k % E = 0
    · have hR : R = mayQ r was now := by rw [HR.out, EME.out, p2, if_neg (by simp; omega)]
      have e31 : (((E : Int) == 0) || ((k : Int) % (E : Int) != 0)) = false := by
        rw [EME.out, p2]; simp; omega
      rw [e31]
      obtain ⟨T, hT⟩ : ∃ T, T = E * S := ⟨_, rfl⟩
      have hT0 : 1 ≤ T := by rw [hT]; exact Nat.mul_pos (Nat.pos_of_ne_zero p1) hS0
      clear HR e31 p1 p2 EME
      have hT1 : T ≤ 1048576000 := by rw [hT]; exact Nat.mul_le_mul hE0 hS1
      have HT := Lib.hid (show (E : Int) * (S : Int) = T by rw [hT]; simp)
      clear hT
      go_wp2_with fail
      rw [HT.out, show wrap64 (T : Int) = (T : Int) from by unfold wrap64; omega]
      have ct0 := Lib.hid fun W => target_any r.limit hl W
      have HL := Lib.hid (tgt_lt r.limit)
      have hRQ := Lib.hid hR
      clear hR c0 c1 c2
      obtain ⟨L, hL⟩ : ∃ L, L = (tgt r.limit).1 := ⟨_, rfl⟩
      rw [← hL] at HL ct0
      have HLE := Lib.hid hL
      clear hL
      refine (ct0.out _).mono ?_
      rintro e w1 ⟨rfl, hb⟩
      have K1 := Lib.hid (keep_alloc (nblk L) (block_keep hb KR.out)); have B1 := Lib.hid (below_alloc (below_next B.out hb) (nblk L)); have KL := Lib.hid (heap_new w1 (nblk L))
      clear hb KR B ct0
      obtain ⟨V1, hV1⟩ : ∃ V, V = nexP was 0 T L := ⟨_, rfl⟩
      have cn1 : Hid (∀ W, Calls Try.prog 90 #[.int .u32 was, .int .i64 0, .int .i64 T, nv L] W fun e w' => e = .returned (.tuple #[.int .u32 V1.1, .bool V1.2]) ∧ Below W.heap.size W w') := Lib.hid fun W => by
        have := next_any was hwas 0 T L HL.out (by decide) (by simp [Lit.wf, IntKind.min, IntKind.max, IntKind.signed, IntKind.bits]; omega) W
        rw [Int.toNat_natCast] at this
        rw [hV1, nexP, Int.toNat_natCast]
        split at this <;> rename_i hc <;> (first | rw [if_pos hc] | rw [if_neg hc]) <;> exact this
      have hV1l : V1.1 < 4294967296 := by
        rw [hV1, nexP]
        split
        · exact sht_lt _ (nxN_lt _ _ _ _ HL.out)
        · simp
      obtain ⟨V2, hV2⟩ : ∃ V, V = nexP was (4 * T) T L := ⟨_, rfl⟩
      have cn2 : Hid (∀ W, Calls Try.prog 90 #[.int .u32 was, .int .i64 (4 * T), .int .i64 T, nv L] W fun e w' => e = .returned (.tuple #[.int .u32 V2.1, .bool V2.2]) ∧ Below W.heap.size W w') := Lib.hid fun W => by
        have := next_any was hwas (4 * T) T L HL.out (by simp [Lit.wf, IntKind.min, IntKind.max, IntKind.signed, IntKind.bits]; omega) (by simp [Lit.wf, IntKind.min, IntKind.max, IntKind.signed, IntKind.bits]; omega) W
        rw [Int.toNat_natCast] at this
        rw [hV2, nexP, Int.toNat_natCast]
        split at this <;> rename_i hc <;> (first | rw [if_pos hc] | rw [if_neg hc]) <;> exact this
      have hV2l : V2.1 < 4294967296 := by
        rw [hV2, nexP]
        split
        · exact sht_lt _ (nxN_lt _ _ _ _ HL.out)
        · simp
      have HQ : Hid (R = (V1.2 && V2.2 && (tgt V2.1).2 && (tgt now).2 && (!(tgt V1.1).2 || decide ((tgt V1.1).1 ≤ (tgt now).1)) && decide ((tgt now).1 ≤ (tgt V2.1).1))) := Lib.hid (by
        rw [hRQ.out, mayQ, HE.out, HS.out, HT.out, ← HLE.out, hV1, hV2])
      clear hRQ HE HS HT HLE
      have HV1 := Lib.hid hV1; have HV2 := Lib.hid hV2; have HV1l := Lib.hid hV1l; have HV2l := Lib.hid hV2l
      clear hV1 hV2 hV1l hV2l
      obtain ⟨A1, B1'⟩ := V1
      obtain ⟨A2, B2'⟩ := V2
      go_wp2_with fail
      refine (cn1.out _).mono ?_
      rintro e w2 ⟨rfl, hb⟩
      have KL2 := Lib.hid (block_keep hb KL.out); have B2 := Lib.hid (below_next B1.out hb)
      clear hb K1 B1 KL cn1
      go_wp2_with (first | refine wpList_load_nv rfl (.tmp 10) rfl w1.heap.size L rfl KL2.out ?_)
      refine (cn2.out _).mono ?_
      rintro e w3 ⟨rfl, hb⟩
      have B3 := Lib.hid (below_next B2.out hb)
      clear hb KL2 B2 cn2
      clear HV1 HV2
      have t1 := Lib.hid fun W => target_any A1 HV1l.out W
      have t2 := Lib.hid fun W => target_any A2 HV2l.out W
      have t3 := Lib.hid fun W => target_any now hnow W
      have HX := Lib.hid (tgt_lt A1); have HY := Lib.hid (tgt_lt A2); have HZ := Lib.hid (tgt_lt now)
      obtain ⟨X, hX⟩ : ∃ X, X = (tgt A1).1 := ⟨_, rfl⟩
      obtain ⟨Y, hY⟩ : ∃ X, X = (tgt A2).1 := ⟨_, rfl⟩
      obtain ⟨Z, hZ⟩ : ∃ X, X = (tgt now).1 := ⟨_, rfl⟩
      obtain ⟨cX, hcX⟩ : ∃ X, X = (tgt A1).2 := ⟨_, rfl⟩
      obtain ⟨cY, hcY⟩ : ∃ X, X = (tgt A2).2 := ⟨_, rfl⟩
      obtain ⟨cZ, hcZ⟩ : ∃ X, X = (tgt now).2 := ⟨_, rfl⟩
      rw [← hX, ← hcX] at t1; rw [← hY, ← hcY] at t2; rw [← hZ, ← hcZ] at t3
      rw [← hX] at HX; rw [← hY] at HY; rw [← hZ] at HZ
      rw [← hX, ← hY, ← hZ, ← hcX, ← hcY, ← hcZ] at HQ
      clear hX hY hZ hcX hcY hcZ HV1l HV2l
      go_wp2_with fail
      refine (t1.out _).mono ?_
      rintro e w4 ⟨rfl, hb⟩
      have B4 := Lib.hid (below_alloc (below_next B3.out hb) (nblk X)); have KX := Lib.hid (heap_new w4 (nblk X))
      clear hb B3 t1
      go_wp2_with fail
      refine (t2.out _).mono ?_
      rintro e w5 ⟨rfl, hb⟩
      have B5 := Lib.hid (below_alloc (below_next B4.out hb) (nblk Y)); have KX2 := Lib.hid (keep_alloc (nblk Y) (block_keep hb KX.out)); have KY := Lib.hid (heap_new w5 (nblk Y))
      clear hb B4 t2 KX
      go_wp2_with fail
      refine (t3.out _).mono ?_
      rintro e w6 ⟨rfl, hb⟩
      have B6 := Lib.hid (below_alloc (below_next B5.out hb) (nblk Z)); have KX3 := Lib.hid (keep_alloc (nblk Z) (block_keep hb KX2.out)); have KY2 := Lib.hid (keep_alloc (nblk Z) (block_keep hb KY.out)); have KZ := Lib.hid (heap_new w6 (nblk Z))
      clear hb B5 t3 KX2 KY
      have cXZ := Lib.hid fun W => cmp_any Z X HZ.out HX.out W
      have cZY := Lib.hid fun W => cmp_any Z Y HZ.out HY.out W
      have hbad : Hid (B1' = false ∨ B2' = false ∨ cY = false ∨ cZ = false → R = false) := Lib.hid fun h => by
        rw [HQ.out]; rcases h with rfl | rfl | rfl | rfl <;> simp
      cases B1'
      · have hR := hbad.out (.inl rfl)
        clear hbad HQ
        subst hR
        go_wp2_with fail
        go_ret
        exact ⟨rfl, B6.out⟩
      cases B2'
      · have hR := hbad.out (.inr (.inl rfl))
        clear hbad HQ
        subst hR
        go_wp2_with fail
        go_ret
        exact ⟨rfl, B6.out⟩
      cases cY
      · have hR := hbad.out (.inr (.inr (.inl rfl)))
        clear hbad HQ
        subst hR
        go_wp2_with fail
        go_ret
        exact ⟨rfl, B6.out⟩
      cases cZ
      · have hR := hbad.out (.inr (.inr (.inr rfl)))
        clear hbad HQ
        subst hR
        go_wp2_with fail
        go_ret
        exact ⟨rfl, B6.out⟩
      clear hbad
      have hle : ∀ a b : Nat, decide (cmpn a b ≤ 0) = decide (a ≤ b) := fun a b => by
        rw [Bool.eq_iff_iff, decide_eq_true_eq, decide_eq_true_eq]; unfold cmpn; split <;> (try split) <;> omega
      have HLE2 := Lib.hid hle
      clear hle
      cases cX
      · have hR : R = decide (Z ≤ Y) := by rw [HQ.out]; simp
        have HR2 := Lib.hid hR
        clear HQ cXZ hR
        obtain ⟨X_0, X_1, X_2, X_3, X_f, X_z⟩ := cells4 KX3.out
        obtain ⟨Y_0, Y_1, Y_2, Y_3, Y_f, Y_z⟩ := cells4 KY2.out
        obtain ⟨Z_0, Z_1, Z_2, Z_3, Z_f, Z_z⟩ := cells4 KZ.out
        go_wp2_with fail
        refine (cZY.out _).mono ?_
        rintro e w7 ⟨rfl, hb⟩
        have B7 := Lib.hid (below_next B6.out hb)
        clear hb
        go_wp2_with fail
        go_ret
        refine ⟨congrArg (fun b => Ending.returned (.bool b)) ?_, B7.out⟩
        rw [HR2.out, HLE2.out]
      · by_cases hxz : X ≤ Z
        · have hc : 0 ≤ cmpn Z X := by unfold cmpn; split <;> (try split) <;> omega
          have hR : R = decide (Z ≤ Y) := by rw [HQ.out]; simp [hxz]
          have HR2 := Lib.hid hR
          clear HQ hR
          obtain ⟨X_0, X_1, X_2, X_3, X_f, X_z⟩ := cells4 KX3.out
          obtain ⟨Y_0, Y_1, Y_2, Y_3, Y_f, Y_z⟩ := cells4 KY2.out
          obtain ⟨Z_0, Z_1, Z_2, Z_3, Z_f, Z_z⟩ := cells4 KZ.out
          go_wp2_with fail
          refine (cXZ.out _).mono ?_
          rintro e w7 ⟨rfl, hb⟩
          have B7 := Lib.hid (below_next B6.out hb); have KZ2 := Lib.hid (block_keep hb KZ.out); have KY3 := Lib.hid (block_keep hb KY2.out); have KX4 := Lib.hid (block_keep hb KX3.out)
          clear hb B6 KZ KY2 KX3 X_0 X_1 X_2 X_3 X_f X_z Y_0 Y_1 Y_2 Y_3 Y_f Y_z Z_0 Z_1 Z_2 Z_3 Z_f Z_z
          obtain ⟨Y_0, Y_1, Y_2, Y_3, Y_f, Y_z⟩ := cells4 KY3.out
          obtain ⟨Z_0, Z_1, Z_2, Z_3, Z_f, Z_z⟩ := cells4 KZ2.out
          go_wp2_with fail
          refine (cZY.out _).mono ?_
          rintro e w8 ⟨rfl, hb⟩
          have B8 := Lib.hid (below_next B7.out hb)
          clear hb
          go_wp2_with fail
          go_ret
          refine ⟨congrArg (fun b => Ending.returned (.bool b)) ?_, B8.out⟩
          rw [HR2.out, HLE2.out]
        · have hc : ¬ 0 ≤ cmpn Z X := by unfold cmpn; rw [if_pos (by omega)]; omega
          have hR : R = false := by rw [HQ.out]; simp [hxz]
          clear HQ
          subst hR
          obtain ⟨X_0, X_1, X_2, X_3, X_f, X_z⟩ := cells4 KX3.out
          obtain ⟨Y_0, Y_1, Y_2, Y_3, Y_f, Y_z⟩ := cells4 KY2.out
          obtain ⟨Z_0, Z_1, Z_2, Z_3, Z_f, Z_z⟩ := cells4 KZ.out
          go_wp2_with fail
          refine (cXZ.out _).mono ?_
          rintro e w7 ⟨rfl, hb⟩
          have B7 := Lib.hid (below_next B6.out hb)
          clear hb
          go_wp2_with fail
          go_ret
          exact ⟨rfl, B7.out⟩
    · have hR : R = decide (was = now) := by rw [HR.out, EME.out, if_pos (.inr (by omega))]
      have e31 : (((E : Int) == 0) || ((k : Int) % (E : Int) != 0)) = true := by
        rw [EME.out]; simp; omega
      rw [e31]
      clear HR HC HE HS e31 EME
      go_wp2_with fail
      go_ret
      refine ⟨congrArg (fun b => Ending.returned (.bool b)) ?_, B.out⟩
      rw [hR, Bool.eq_iff_iff, beq_iff_eq, decide_eq_true_eq]
      omega
end Go.Proofs.Ytnbppbnjkmopeaa
namespace Go.Proofs.Ytnbppbnjkmopeaa
open Go.RowKit

/-- literals of a header in the tree -/
theorem bld_nd0 : Try.prog.built 69 [] = some (ndL nd0).toArray := by kernel_rfl
theorem bld_nd (h : Hd) (id : Nat) (k : Int) : Try.prog.built 69 [(0, hdv h), (1, iv id), (4, .int .i64 k)] = some (ndL ⟨h, id, 0, 0, k, 0, false⟩).toArray := by kernel_rfl
theorem bld_ndp (h : Hd) (id : Nat) (par : Int) : Try.prog.built 69 [(0, hdv h), (1, iv id), (2, .int .i64 par)] = some (ndL ⟨h, id, par, 0, 0, 0, false⟩).toArray := by kernel_rfl
/-- a header, in the tree's form, behind the last one of height k, or why not -/
def stepP (p : Ps) (h : Hd) (k : Nat) : Nd × Nat :=
  if h.p ≠ p.last.id then (nd0, 100) else if hpr h p.rules.limit ≠ 0 then (nd0, hpr h p.rules.limit) else if mayP p.rules (k + 1) p.last.h.b h.b = false then (nd0, 30)
  else (⟨h, hdid h, 0, 0, (k + 1 : Nat), (p.last.work + wrk (tgt h.b).1) % 2 ^ 256, false⟩, 0)
theorem PsIs.lastR {w : World} {g : Nat} {vb vr : Value} {p : Ps} (h : PsIs w g vb vr p) : w.rangeAt g 219 (ndL p.last) := seg_range (S := syS (p.sy vb vr)) (k := 5) h.blk rfl (sy_o _).2.2.2.2.2.1
theorem PsIs.rulesR {w : World} {g : Nat} {vb vr : Value} {p : Ps} (h : PsIs w g vb vr p) : w.rangeAt g 0 (rlL p.rules) := seg_range (S := syS (p.sy vb vr)) (k := 0) h.blk rfl (sy_o _).1
theorem PsIs.lastId {w : World} {g : Nat} {vb vr : Value} {p : Ps} (h : PsIs w g vb vr p) : w.rangeAt g 287 (ids p.last.id) := range_seg (S := ndS p.last) (k := 1) h.lastR rfl (nd_o1 _)
theorem PsIs.lastWork {w : World} {g : Nat} {vb vr : Value} {p : Ps} (h : PsIs w g vb vr p) : w.rangeAt g 322 (nvs p.last.work) := range_seg (S := ndS p.last) (k := 5) h.lastR rfl (nd_o5 _)
theorem PsIs.lastHeight {w : World} {g : Nat} {vb vr : Value} {p : Ps} (h : PsIs w g vb vr p) : w.cell? ⟨g, 321, none⟩ = some (.int .i64 p.last.height) := range_cell (S := ndS p.last) (k := 4) h.lastR rfl (nd_o4 _)
theorem PsIs.limitC {w : World} {g : Nat} {vb vr : Value} {p : Ps} (h : PsIs w g vb vr p) : w.cell? ⟨g, 0, none⟩ = some (.int .u32 p.rules.limit) := range_cell (S := rlS p.rules) (k := 0) h.rulesR rfl rfl
theorem PsIs.lastBits {w : World} {g : Nat} {vb vr : Value} {p : Ps} (h : PsIs w g vb vr p) : w.cell? ⟨g, 285, none⟩ = some (.int .u32 (p.last.h.b : Int)) := range_seg (S := ndS p.last) (k := 0) h.lastR rfl (nd_o0 _) 66 _ (hdcs_b p.last.h)
end Go.Proofs.Ytnbppbnjkmopeaa
