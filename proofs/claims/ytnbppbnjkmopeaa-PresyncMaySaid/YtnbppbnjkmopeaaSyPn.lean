/- The document's answer to how much work a chain must have. No condition. -/
import Derived.Test.YtnbppbnjkmopeaaSyPm
namespace Go.Proofs.Ytnbppbnjkmopeaa
open Go.RowKit

theorem wrk_dv (t : Nat) (h1 : 1 ≤ t) (h2 : t < 2 ^ 256) : wrk t = 2 ^ 256 / (t + 1) := by
  have e := Nat.div_eq_sub_div (a := 2 ^ 256) (b := t + 1) (by omega) (by omega)
  have h3 : 2 ^ 256 / (t + 1) ≤ 2 ^ 256 / 2 := Nat.div_le_div_left (by omega) (by omega)
  unfold wrk
  split
  · have : t + 1 = 2 ^ 256 := by omega
    rw [this, Nat.div_self (by omega)]
  · rw [e, show 2 ^ 256 - (t + 1) = 2 ^ 256 - 1 - t by omega] at *
    rw [Nat.mod_eq_of_lt (by omega)]

/-- four words of the document's -/
def wbk (n : Nat) : Obj := .cells (nvs n).toArray 46 (0, 0)
theorem wbk_there {w : World} {g n : Nat} (h : w.heap[g]? = some (wbk n)) : w.there g 0 4 := fun j hj => by
  refine ⟨?_, frozen_of_row _ _ _ _ _ h⟩
  rw [Nat.zero_add, cell_of_row _ _ _ _ _ _ h, List.getElem?_toArray, List.getElem?_eq_getElem (by rw [nvs_len]; exact hj)]; rfl
theorem wbk_info : (Try.prog.info? 46).map (·.size) = some 4 := by kernel_rfl
theorem wbk_row : (Try.prog.underlying 46).map (·.isRow) = some true := by kernel_rfl
theorem wpList_load_wb {ops : Array Oper} {rest : List Oper} {op : Oper} {a : Act} {w : World} {Q : Exit → Act → World → Prop} (hgd : op.guard = none) (x : Operand) (ho : op.op = .load 46 x)
    (g n : Nat) (hx : a.eval x = .pointer (some ⟨g, 0, none⟩)) (hb : w.heap[g]? = some (wbk n)) (h : wpList Try.prog ops Q rest (a.put op.dst (nv n)) w) : wpList Try.prog ops Q (op :: rest) a w := by
  obtain ⟨d, hu, hd⟩ := Option.map_eq_some_iff.1 wbk_row
  exact wpList_load_mid hgd 46 x ho g 0 hx (nvs n) d (fun j v hv => by rw [Nat.zero_add, cell_of_row _ _ _ _ _ _ hb, List.getElem?_toArray]; exact hv) hu hd wbk_info h
theorem wpList_store_wb {ops : Array Oper} {rest : List Oper} {op : Oper} {a : Act} {w : World} {Q : Exit → Act → World → Prop} (hgd : op.guard = none) (x y : Operand) (ho : op.op = .store 46 x y)
    (g m n : Nat) (hx : a.eval x = .pointer (some ⟨g, 0, none⟩)) (hy : a.eval y = nv n) (hb : w.heap[g]? = some (wbk m))
    (h : ∀ w', w'.heap[g]? = some (wbk n) → (∀ b, b ≠ g → w'.heap[b]? = w.heap[b]?) → w'.heap.size = w.heap.size → (∀ B u, B ≤ g → Below B u w → Below B u w') → wpList Try.prog ops Q rest (a.put op.dst undef) w') :
    wpList Try.prog ops Q (op :: rest) a w := by
  refine wpList_store_mid hgd 46 x y ho g 0 (nvs n).toArray hx hy (wbk_there hb) wbk_info (all_oneCell_toArray (nvs_one n)) (h _ ?_ (fun b hne => heap_setCells_far g _ _ _ b hne) (size_setCells_id g _ _ _) fun B u hB hu => below_setCells_id g hB _ _ _ hu)
  exact heap_setCells_row g 46 (nvs n) (nvs m) [] w rfl hb
/-- a row of so many bits of a number -/
def BitRow (n L : Nat) : Value → World → Prop := fun v w => ∃ b, BitsIs w b v n L
theorem BitRow.kept (n L : Nat) : Kept (BitRow n L) := fun _ _ _ hb ⟨b, h⟩ => ⟨b, h.keep hb⟩
/-- a row of a number's bits, all of them -/
def BitTo (n : Nat) : Value → World → Prop := fun v w => ∃ b T, BitsIs w b v n T ∧ n < 2 ^ T ∧ T ≤ 9000
theorem BitTo.kept (n : Nat) : Kept (BitTo n) := fun _ _ _ hb ⟨b, T, h, h2⟩ => ⟨b, T, h.keep hb, h2⟩

set_option maxRecDepth 100000 in
set_option maxHeartbeats 4000000 in
theorem refneed_any (r : Rl) (hl : r.limit < 4294967296) (htl : (tgt r.limit).2 = true) (hw0 : 0 ≤ r.work) (hw1 : r.work ≤ 1000) (w : World) :
    Calls Try.prog 45 #[rlv r] w fun e w' => ∃ v b, e = .returned v ∧ BitsIs w' b v (needN r) 256 ∧ Below w.heap.size w w' := by
  as_aux_lemma =>
  have KR := Lib.hid (heap_new w (rlblk r))
  have B := Lib.hid (below_alloc (Below.refl w.heap.size w) (rlblk r))
  obtain ⟨K, hK⟩ : ∃ K : Nat, r.work = K := ⟨r.work.toNat, by omega⟩
  have HC : Hid (∀ V : World, V.heap[w.heap.size]? = some (rlblk r) → V.cell? ⟨w.heap.size, 4, none⟩ = some (.int .i64 (K : Int))) :=
    Lib.hid fun V hV => by rw [← hK]; exact seg_cell (S := rlS r) (k := 4) hV rfl rfl
  have c0 : (w.alloc (.cells (rlL r).toArray 62)).cell? ⟨w.heap.size, 0, none⟩ = some (.int .u32 r.limit) := seg_cell (S := rlS r) (k := 0) KR.out rfl rfl
  have HN : Hid (needN r = if 2 ^ 256 ≤ wrk (tgt r.limit).1 * K then 2 ^ 256 - 1 else wrk (tgt r.limit).1 * K) := Lib.hid (by rw [needN, hK]; rfl)
  rw [hK] at hw1
  have hK1 : K ≤ 1000 := by omega
  have HKl := Lib.hid hK1
  clear hK hw0 hw1
  have ct := Lib.hid fun W => reftarget_any r.limit hl W
  have HT := Lib.hid (tgt_lt r.limit)
  have HT1 := Lib.hid (tgt_pos htl)
  have HTL := Lib.hid htl
  obtain ⟨R, hR⟩ : ∃ R, R = needN r := ⟨_, rfl⟩
  rw [← hR] at HN ⊢
  obtain ⟨t, ht⟩ : ∃ L, L = (tgt r.limit).1 := ⟨_, rfl⟩
  rw [← ht] at HT HT1 HN
  have HLE := Lib.hid ht
  obtain ⟨Q, hQ⟩ : ∃ Q, Q = 2 ^ 256 / (t + 1) := ⟨_, rfl⟩
  rw [wrk_dv t HT1.out HT.out, ← hQ] at HN
  obtain ⟨Z, hZ⟩ : ∃ Z, Z = 512 := ⟨_, rfl⟩
  have HZ := Lib.hid hZ
  have HZ1 : Hid (Z ≤ 10000) := Lib.hid (by omega)
  have HQ : Hid (Q < 2 ^ Z) := Lib.hid (by
    have h1 : Q ≤ 2 ^ 256 := by rw [hQ]; exact Nat.div_le_self _ _
    exact Nat.lt_of_le_of_lt h1 (Nat.pow_lt_pow_right (by omega) (by omega)))
  clear hZ
  have HK : Hid (K < 2 ^ 256) := Lib.hid (Nat.lt_of_le_of_lt hK1 (by decide))
  have cw := Lib.hid fun V b v (h : BitsIs V b v t 0) => h
  have HQE := Lib.hid hQ
  clear cw ht htl hR
  obtain ⟨P, hP⟩ : ∃ P, P = Q * K % 2 ^ 256 := ⟨_, rfl⟩
  obtain ⟨o, ho⟩ : ∃ o, o = decide (2 ^ 256 ≤ Q * K) := ⟨_, rfl⟩
  have HW : Hid (∀ b v T, Q * K < 2 ^ T → T ≤ 100000 → ∀ w', BitsIs w' b v (Q * K) T → Calls Try.prog 46 #[v] w' fun e w2 => e = .returned (.tuple #[nv P, .bool o]) ∧ Below w'.heap.size w' w2) := Lib.hid (by
    intro b v T h1 h2 w' h3
    rw [hP, ho]
    exact words_any b v _ T h1 h2 w' h3)
  have HP := Lib.hid hP; have HO := Lib.hid ho
  have HNV : Hid (nv K = .agg #[.int .u64 K, .int .u64 0, .int .u64 0, .int .u64 0]) := Lib.hid (by
    have h0 : lw K 0 = (K : Int) := by rw [lw_at0, Nat.mod_eq_of_lt (by omega)]
    have h1 : lw K 1 = 0 := by rw [lw_at1, Nat.div_eq_of_lt (by omega)]; rfl
    have h2 : lw K 2 = 0 := by rw [lw_at2, Nat.div_eq_of_lt (by omega)]; rfl
    have h3 : lw K 3 = 0 := by rw [lw_at3, Nat.div_eq_of_lt (by omega)]; rfl
    unfold nv
    rw [h0, h1, h2, h3])
  have HK64 : Hid (IntKind.u64.wrap (K : Int) = (K : Int)) := Lib.hid (IntWalk.u64_in _ (by omega))
  clear hP ho hQ hK1
  go_enter Try.func45, Try.ntmps45
  go_wp2_with fail
  refine (ct.out _).mono ?_
  rintro e w1 ⟨vL, kL, rfl, hvl, hb⟩
  rw [HTL.out] at hvl
  obtain ⟨hv1, hv2, hv3⟩ := hvl rfl
  rw [← HLE.out] at hv1 hv2
  have VL := Lib.hid hv1; have VL2 := Lib.hid hv2
  replace KR := Lib.hid (block_keep hb KR.out); replace B := Lib.hid (below_next B.out hb)
  rw [HTL.out]
  clear hb ct hvl hv1 hv2 c0
  go_wp2_with fail
  refine wp_region_z 13 [11] (fun j => decide (j = 12) || false) [Is (vL), (BitRow Q Z), Is (.pointer (some ⟨w.heap.size, 4, none⟩)), Is (.int .i64 (K : Int)), Is (.int .u64 (K : Int)), Is (nv K), (BitRow K 256), (BitTo (Q * K)), Is (.tuple #[nv P, .bool o]), Is (.tuple #[nv P, .bool o]), Is (nv P), Is (.bool o), BoxOf (wbk 0)] [[], [(0, some 15)], [], [(2, some 17)], [(3, some 18)], [(4, some 19)], [(5, some 20)], [(1, some 16), (6, some 21)], [(7, some 22)], [(8, some 23)], [(9, some 14)], [(9, some 14)], [], [(10, some 24), (12, some 5)], [(11, some 25)]] [(0, some 15), (1, some 16), (2, some 17), (3, some 18), (4, some 19), (5, some 20), (6, some 21), (7, some 22), (8, some 23), (9, some 14), (10, some 24), (11, some 25), (12, some 5)] [0, 1, 0, 4, 12, 28, 63, 127, 255, 511, 1023, 1023, 0, 6143, 16383]
    (by kernel_rfl) (by kernel_rfl) (by kernel_rfl) (by kernel_rfl) (by kernel_rfl) ⟨Is.kept _, (BitRow.kept _ _), Is.kept _, Is.kept _, Is.kept _, Is.kept _, (BitRow.kept _ _), (BitTo.kept _), Is.kept _, Is.kept _, Is.kept _, Is.kept _, BoxOf.kept _, trivial⟩ ⟨?_, trivial⟩ ⟨?_, ?_, ?_, ?_, ?_, ?_, ?_, ?_, ?_, ?_, ?_, ?_, ?_, trivial⟩ ?_
  · as_aux_lemma =>
    refine fun w' hB => (show onP _ w' [(9, some 14)] _ _ from ?_)
    refine fun v9 h9 => ?_
    obtain rfl := h9
    exact ⟨_, .bool o, rfl, Or.inl ⟨by rfl, fun w => by go_simp⟩⟩
  · as_aux_lemma =>
    refine fun w' hB => ?_
    show wpList _ _ _ _ _ _
    go_wp2_with fail
    exact ⟨vL, by first | rfl | (go_simp; done), rfl, Below.refl _ _, fun h => absurd h (by decide)⟩
  · as_aux_lemma =>
    refine fun w' hB v0 h0 => ?_
    obtain rfl := h0
    show wpList _ _ _ _ _ _
    go_wp2_with fail
    refine (refwork_any _ v0 t kL HT.out VL2.out (by omega) w' (VL.out.keep hB)).mono ?_
    rintro e w2 ⟨x, rfl, hx, hb2⟩
    rw [← HZ.out, ← HQE.out] at hx
    go_wp2_with fail
    exact ⟨_, rfl, ⟨_, hx⟩, hb2, fun h => absurd h (by decide)⟩
  · as_aux_lemma =>
    refine fun w' hB => ?_
    show wpList _ _ _ _ _ _
    go_wp2_with fail
    exact ⟨.pointer (some ⟨w.heap.size, 4, none⟩), by first | rfl | (go_simp; done), rfl, Below.refl _ _, fun h => absurd h (by decide)⟩
  · as_aux_lemma =>
    refine fun w' hB v2 h2 => ?_
    obtain rfl := h2
    show wpList _ _ _ _ _ _
    have c := HC.out _ (block_keep hB KR.out)
    go_wp2_with fail
    exact ⟨_, rfl, rfl, Below.refl _ _, fun h => absurd h (by decide)⟩
  · as_aux_lemma =>
    refine fun w' hB v3 h3 => ?_
    obtain rfl := h3
    show wpList _ _ _ _ _ _
    go_wp2_with fail
    rw [HK64.out]
    exact ⟨_, rfl, rfl, Below.refl _ _, fun h => absurd h (by decide)⟩
  · as_aux_lemma =>
    refine fun w' hB v4 h4 => ?_
    obtain rfl := h4
    show wpList _ _ _ _ _ _
    go_wp2_with fail
    exact ⟨_, rfl, HNV.out.symm, Below.refl _ _, fun h => absurd h (by decide)⟩
  · as_aux_lemma =>
    refine fun w' hB v5 h5 => ?_
    obtain rfl := h5
    show wpList _ _ _ _ _ _
    go_wp2_with fail
    refine (refof_any K w').mono ?_
    rintro e w2 ⟨x, rfl, hx, hb2⟩
    go_wp2_with fail
    exact ⟨_, rfl, ⟨_, hx⟩, hb2, fun h => absurd h (by decide)⟩
  · as_aux_lemma =>
    refine fun w' hB v1 h1 v6 h6 => ?_
    show wpList _ _ _ _ _ _
    obtain ⟨b1, h1⟩ := h1
    obtain ⟨b6, h6⟩ := h6
    go_wp2_with fail
    refine (refmul_any b1 v1 Q Z HQ.out b6 v6 K 256 HK.out HZ1.out (by omega) w' h1 h6).mono ?_
    rintro e w2 ⟨x, T, rfl, hT, hlt, hx, hb2⟩
    go_wp2_with fail
    exact ⟨_, rfl, ⟨_, T, hx, hlt, by have := HZ.out; omega⟩, hb2, fun h => absurd h (by decide)⟩
  · as_aux_lemma =>
    refine fun w' hB v7 h7 => ?_
    show wpList _ _ _ _ _ _
    obtain ⟨b7, T7, h7, hl7, ht7⟩ := h7
    go_wp2_with fail
    refine (HW.out b7 v7 T7 hl7 (by omega) w' h7).mono ?_
    rintro e w2 ⟨rfl, hb2⟩
    go_wp2_with fail
    exact ⟨_, rfl, rfl, hb2, fun h => absurd h (by decide)⟩
  · as_aux_lemma =>
    refine fun w' hB v8 h8 => ?_
    obtain rfl := h8
    show wpList _ _ _ _ _ _
    go_wp2_with fail
    exact ⟨.tuple #[nv P, .bool o], by first | rfl | (go_simp; done), rfl, Below.refl _ _, fun h => absurd h (by decide)⟩
  · as_aux_lemma =>
    refine fun w' hB v9 h9 => ?_
    obtain rfl := h9
    show wpList _ _ _ _ _ _
    go_wp2_with fail
    exact ⟨nv P, by first | rfl | (go_simp; done), rfl, Below.refl _ _, fun h => absurd h (by decide)⟩
  · as_aux_lemma =>
    refine fun w' hB v9 h9 => ?_
    obtain rfl := h9
    show wpList _ _ _ _ _ _
    go_wp2_with fail
    exact ⟨.bool o, by first | rfl | (go_simp; done), rfl, Below.refl _ _, fun h => absurd h (by decide)⟩
  · as_aux_lemma =>
    refine fun w' hB => ?_
    show wpList _ _ _ _ _ _
    go_wp2_with fail
    exact ⟨_, rfl, ⟨_, rfl, heap_new _ _⟩, below_alloc (Below.refl _ _) _, fun _ => ⟨_, rfl, Nat.le_refl _, by simp⟩⟩
  · refine fun w' G hB hN1 hN2 v0 h0 v1 h1 v2 h2 v3 h3 v4 h4 v5 h5 v6 h6 v7 h7 v8 h8 v9 h9 v10 h10 v11 h11 v12 h12 => ?_
    replace h0 := h0.1
    replace h1 := h1.1
    replace h2 := h2.1
    replace h3 := h3.1
    replace h4 := h4.1
    replace h5 := h5.1
    replace h6 := h6.1
    replace h7 := h7.1
    replace h8 := h8.1
    replace h9 := h9.1
    replace h10 := h10.1
    replace h11 := h11.1
    obtain ⟨h12, hG12⟩ := h12; replace hG12 := hG12 (by decide)
    have hW12 := hN1 12 (by decide) (by decide)
    clear hN1 hN2
    obtain rfl := h10
    obtain rfl := h11
    obtain ⟨g12, rfl, hg12⟩ := h12
    obtain ⟨gn12, en12, hge12, hlt12⟩ := hW12
    obtain rfl := Option.some.inj (hG12.trans en12)
    dsimp only at hge12 hlt12
    clear en12
    simp only [onP, List.drop_succ_cons, List.drop_zero]
    go_simp
    clear h0 h1 h2 h3 h4 h5 h6 h7 h8 h9
    have B4 := Lib.hid (below_next B.out hB)
    clear hB
    go_wp2_with (first | (refine wpList_store_wb rfl (.tmp 5) (.tmp 24) rfl g12 0 P rfl rfl hg12 (fun w5 h1 h2 h3 h4 => ?_); have K5 := Lib.hid h1; have B5 := Lib.hid (h4 w.heap.size w (by have := B.out.size; omega) B4.out); clear h1 h2 h3 h4))
    dsimp only [QN]
    cases o
    · have hR : R = P := by
        have := HO.out
        simp at this
        rw [HN.out, if_neg (by omega), HP.out, Nat.mod_eq_of_lt this]
      go_wp2_with (first | refine wpList_load_wb rfl (.tmp 5) rfl g12 P rfl K5.out ?_)
      refine (refof_any P w5).mono ?_
      rintro e w6 ⟨x, rfl, hx, hb⟩
      have B6 := Lib.hid (below_next B5.out hb)
      rw [← hR] at hx
      clear hb
      go_wp2_with fail
      go_ret
      exact ⟨_, _, rfl, hx, B6.out⟩
    · have hR : R = 2 ^ 256 - 1 := by
        have := HO.out
        simp at this
        rw [HN.out, if_pos this]
      obtain ⟨M, hM⟩ : ∃ M : Nat, M = 2 ^ 256 - 1 := ⟨_, rfl⟩
      have HNM : Hid (nv M = .agg #[.int .u64 18446744073709551615, .int .u64 18446744073709551615, .int .u64 18446744073709551615, .int .u64 18446744073709551615]) := Lib.hid (by rw [hM]; kernel_rfl)
      have cM := Lib.hid fun W => refof_any M W
      rw [HNM.out] at cM
      rw [← hM] at hR
      clear hM
      go_wp2_with fail
      refine (cM.out w5).mono ?_
      rintro e w6 ⟨x, rfl, hx, hb⟩
      have B6 := Lib.hid (below_next B5.out hb)
      rw [← hR] at hx
      clear hb
      go_wp2_with fail
      go_ret
      exact ⟨_, _, rfl, hx, B6.out⟩
end Go.Proofs.Ytnbppbnjkmopeaa
