/- The types of the tree of headers and of the headers asked for twice: their cells. No condition. Small functions of the tree of headers and of the headers asked for twice. No condition. Small functions of the tree of headers and of the headers asked for twice. No condition. Rows of headers and of bits of the call's own; what has changed but for some blocks. No condition. Small functions of the headers asked for twice. No condition. The headers asked for twice as a value; one header in the first phase. No condition. -/
import Derived.Test.YtnbppbnjkmopeaaSeg
import Derived.Test.YtnbppbnjkmopeaaNumMem
import Derived.Test.YtnbppbnjkmopeaaHd2
import Derived.Test.YtnbppbnjkmopeaaRegZ
import Derived.Test.YtnbppbnjkmopeaaRegH
import Derived.Test.YtnbppbnjkmopeaaWkP
import Derived.Test.YtnbppbnjkmopeaaBtWork
import Derived.Test.YtnbppbnjkmopeaaHash2
import Derived.Maps.AppendAt
import Derived.Great.BuildSlice
import Derived.Laws.OwnMore
import Derived.Test.YtnbppbnjkmopeaaWyMem
namespace Go.Proofs.Ytnbppbnjkmopeaa
open Go.RowKit

/-- what a chain goes by -/
structure Rl where (limit : Nat) (every spacing subsidy work : Int) (gen : Hd) (txs : Value)
def rlS (r : Rl) : List (List Value) := [[.int .u32 (r.limit : Int)], [.int .i64 r.every], [.int .i64 r.spacing], [.int .i64 r.subsidy], [.int .i64 r.work], hdcs r.gen, [r.txs]]
def rlL (r : Rl) : List Value := (rlS r).flatten
abbrev rlv (r : Rl) : Value := .agg (rlL r).toArray
def rlblk (r : Rl) : Obj := .cells (rlL r).toArray 62 (0, 0)
theorem rlL_len (r : Rl) : (rlL r).length = 74 := by
  unfold rlL rlS
  simp only [List.flatten_cons, List.flatten_nil, List.length_append, hdcs_len]
  rfl
/-- a header in the tree -/
structure Nd where (h : Hd) (id : Nat) (par skip height : Int) (work : Nat) (bad : Bool)
def ndS (x : Nd) : List (List Value) := [hdcs x.h, ids x.id, [.int .i64 x.par], [.int .i64 x.skip], [.int .i64 x.height], nvs x.work, [.bool x.bad]]
def ndL (x : Nd) : List Value := (ndS x).flatten
abbrev ndv (x : Nd) : Value := .agg (ndL x).toArray
def ndblk (x : Nd) : Obj := .cells (ndL x).toArray 69 (0, 0)
theorem ndL_len (x : Nd) : (ndL x).length = 108 := by
  unfold ndL ndS
  simp only [List.flatten_cons, List.flatten_nil, List.length_append, hdcs_len, ids_len, nvs_len]
  rfl
/-- headers that are asked for twice -/
structure Sy where (rules : Rl) (salt need : Nat) (start : Nd) (phase : Int) (last : Nd) (at' : Int) (bits ready : Value) (reason : Int)
def syS (s : Sy) : List (List Value) := [rlL s.rules, ids s.salt, nvs s.need, ndL s.start, [.int .i64 s.phase], ndL s.last, [.int .i64 s.at'], [s.bits], [s.ready], [.int .i64 s.reason]]
def syL (s : Sy) : List Value := (syS s).flatten
def syblk (s : Sy) : Obj := .cells (syL s).toArray 153 (0, 0)
theorem syL_len (s : Sy) : (syL s).length = 331 := by
  unfold syL syS
  simp only [List.flatten_cons, List.flatten_nil, List.length_append, ids_len, nvs_len, rlL_len, ndL_len]
  rfl
/-- a tree -/
structure Tr where (rules : Rl) (nodes by' : Value)
def trS (t : Tr) : List (List Value) := [rlL t.rules, [t.nodes], [t.by']]
def trL (t : Tr) : List Value := (trS t).flatten
def trblk (t : Tr) : Obj := .cells (trL t).toArray 149 (0, 0)
theorem trL_len (t : Tr) : (trL t).length = 76 := by
  unfold trL trS
  simp only [List.flatten_cons, List.flatten_nil, List.length_append, rlL_len]
  rfl

theorem nvs1 (n : Nat) : ∀ v ∈ nvs n, v.oneCell' = true := nvs_one n
theorem ids1 (n : Nat) : ∀ v ∈ ids n, v.oneCell' = true := fun v hv => by
  simp only [ids, List.mem_map] at hv
  obtain ⟨i, _, rfl⟩ := hv
  rfl
theorem rl1 (r : Rl) (h : r.txs.oneCell' = true) : ∀ v ∈ rlL r, v.oneCell' = true := fun v hv => by
  simp only [rlL, rlS, List.flatten_cons, List.flatten_nil, List.mem_append, List.mem_cons, List.not_mem_nil, or_false] at hv
  rcases hv with rfl | rfl | rfl | rfl | rfl | hv | rfl
  · rfl
  · rfl
  · rfl
  · rfl
  · rfl
  · exact hdcs_one _ v hv
  · exact h
theorem nd1 (x : Nd) : ∀ v ∈ ndL x, v.oneCell' = true := fun v hv => by
  simp only [ndL, ndS, List.flatten_cons, List.flatten_nil, List.mem_append, List.mem_cons, List.not_mem_nil, or_false] at hv
  rcases hv with hv | hv | rfl | rfl | rfl | hv | rfl
  · exact hdcs_one _ v hv
  · exact ids1 _ v hv
  · rfl
  · rfl
  · rfl
  · exact nvs1 _ v hv
  · rfl
/-- where the parts begin -/
theorem nd_o0 (x : Nd) : sgo (ndS x) 0 = 0 := rfl
theorem nd_o1 (x : Nd) : sgo (ndS x) 1 = 68 := by unfold sgo ndS; simp only [List.take_succ_cons, List.take_zero, List.flatten_cons, List.flatten_nil, List.append_nil, hdcs_len]
theorem nd_o4 (x : Nd) : sgo (ndS x) 4 = 102 := by unfold sgo ndS; simp only [List.take_succ_cons, List.take_zero, List.flatten_cons, List.flatten_nil, List.length_append, hdcs_len, ids_len]; rfl
theorem nd_o5 (x : Nd) : sgo (ndS x) 5 = 103 := by unfold sgo ndS; simp only [List.take_succ_cons, List.take_zero, List.flatten_cons, List.flatten_nil, List.length_append, hdcs_len, ids_len]; rfl
theorem rl_o1 (r : Rl) : sgo (rlS r) 1 = 1 := rfl
theorem rl_o2 (r : Rl) : sgo (rlS r) 2 = 2 := rfl
theorem rl_o3 (r : Rl) : sgo (rlS r) 3 = 3 := rfl
theorem rl_o4 (r : Rl) : sgo (rlS r) 4 = 4 := rfl
theorem rl_o5 (r : Rl) : sgo (rlS r) 5 = 5 := rfl
theorem sy_o (s : Sy) : sgo (syS s) 0 = 0 ∧ sgo (syS s) 1 = 74 ∧ sgo (syS s) 2 = 106 ∧ sgo (syS s) 3 = 110 ∧ sgo (syS s) 4 = 218 ∧ sgo (syS s) 5 = 219 ∧ sgo (syS s) 6 = 327 ∧ sgo (syS s) 7 = 328 ∧ sgo (syS s) 8 = 329 ∧ sgo (syS s) 9 = 330 := by
  unfold sgo syS
  simp only [List.take_succ_cons, List.take_zero, List.flatten_cons, List.flatten_nil, List.length_append, rlL_len, ids_len, nvs_len, ndL_len, List.length_cons, List.length_nil]
  decide
theorem tr_o (t : Tr) : sgo (trS t) 0 = 0 ∧ sgo (trS t) 1 = 74 ∧ sgo (trS t) 2 = 75 := by
  unfold sgo trS
  simp only [List.take_succ_cons, List.take_zero, List.flatten_cons, List.flatten_nil, List.length_append, rlL_len, List.length_cons, List.length_nil]
  decide

/-- the types' rows of the table -/
theorem nd_row : (Try.prog.underlying 69).map (·.isRow) = some true := by kernel_rfl
theorem nd_info : (Try.prog.info? 69).map (·.size) = some 108 := by kernel_rfl
theorem rl_row : (Try.prog.underlying 62).map (·.isRow) = some true := by kernel_rfl
theorem rl_info : (Try.prog.info? 62).map (·.size) = some 74 := by kernel_rfl
theorem hd_info : (Try.prog.info? 26).map (·.size) = some 68 := by kernel_rfl
theorem id_info : (Try.prog.info? 24).map (·.size) = some 32 := by kernel_rfl
theorem id_row : (Try.prog.underlying 24).map (·.isRow) = some true := by kernel_rfl

section
variable {ops : Array Oper} {rest : List Oper} {op : Oper} {a : Act} {w : World} {Q : Exit → Act → World → Prop}
/-- whole values are loaded from anywhere -/
theorem ld_nd (hgd : op.guard = none) (x : Operand) (ho : op.op = .load 69 x) (g o : Nat) (n : Nd) (hx : a.eval x = .pointer (some ⟨g, o, none⟩)) (hr : w.rangeAt g o (ndL n)) (h : wpList Try.prog ops Q rest (a.put op.dst (ndv n)) w) : wpList Try.prog ops Q (op :: rest) a w := by
  obtain ⟨d, hu, hd⟩ := Option.map_eq_some_iff.1 nd_row
  exact wpList_load_mid hgd 69 x ho g o hx (ndL n) d hr hu hd (by rw [ndL_len]; exact nd_info) h
theorem ld_rl (hgd : op.guard = none) (x : Operand) (ho : op.op = .load 62 x) (g o : Nat) (n : Rl) (hx : a.eval x = .pointer (some ⟨g, o, none⟩)) (hr : w.rangeAt g o (rlL n)) (h : wpList Try.prog ops Q rest (a.put op.dst (rlv n)) w) : wpList Try.prog ops Q (op :: rest) a w := by
  obtain ⟨d, hu, hd⟩ := Option.map_eq_some_iff.1 rl_row
  exact wpList_load_mid hgd 62 x ho g o hx (rlL n) d hr hu hd (by rw [rlL_len]; exact rl_info) h
theorem ld_hd (hgd : op.guard = none) (x : Operand) (ho : op.op = .load 26 x) (g o : Nat) (n : Hd) (hx : a.eval x = .pointer (some ⟨g, o, none⟩)) (hr : w.rangeAt g o (hdcs n)) (h : wpList Try.prog ops Q rest (a.put op.dst (hdv n)) w) : wpList Try.prog ops Q (op :: rest) a w := by
  obtain ⟨d, hu, hd⟩ := Option.map_eq_some_iff.1 hd_row
  exact wpList_load_mid hgd 26 x ho g o hx (hdcs n) d hr hu hd (by rw [hdcs_len]; exact hd_info) h
theorem ld_id (hgd : op.guard = none) (x : Operand) (ho : op.op = .load 24 x) (g o n : Nat) (hx : a.eval x = .pointer (some ⟨g, o, none⟩)) (hr : w.rangeAt g o (ids n)) (h : wpList Try.prog ops Q rest (a.put op.dst (iv n)) w) : wpList Try.prog ops Q (op :: rest) a w := by
  obtain ⟨d, hu, hd⟩ := Option.map_eq_some_iff.1 id_row
  exact wpList_load_mid hgd 24 x ho g o hx (ids n) d hr hu hd (by rw [ids_len]; exact id_info) h
/-- a whole value is stored into a part of a block -/
theorem st_seg (hgd : op.guard = none) (ty : TypeId) (x y : Operand) (ho : op.op = .store ty x y) (g k o : Nat) (S : List (List Value)) (t : TypeId) (cs vs : List Value) (hx : a.eval x = .pointer (some ⟨g, o, none⟩)) (hy : a.eval y = .agg vs.toArray)
    (hb : w.heap[g]? = some (.cells S.flatten.toArray t (0, 0))) (hk : S[k]? = some cs) (hso : sgo S k = o) (hl : cs.length = vs.length) (hi : (Try.prog.info? ty).map (·.size) = some vs.length) (h1 : ∀ v ∈ vs, v.oneCell' = true)
    (h : ∀ w', w'.heap[g]? = some (.cells (S.set k vs).flatten.toArray t (0, 0)) → (∀ b, b ≠ g → w'.heap[b]? = w.heap[b]?) → w'.heap.size = w.heap.size → (∀ B u, B ≤ g → Below B u w → Below B u w') → wpList Try.prog ops Q rest (a.put op.dst undef) w') :
    wpList Try.prog ops Q (op :: rest) a w := by
  refine wpList_store_mid hgd ty x y ho g o vs.toArray hx hy ?_ (by rw [List.size_toArray]; exact hi) (all_oneCell_toArray h1) (h _ ?_ (fun b hne => heap_setCells_far g _ _ _ b hne) (size_setCells_id g _ _ _) fun B u hB hu => below_setCells_id g hB _ _ _ hu)
  · rw [List.size_toArray, ← hl]; exact seg_there hb hk hso
  · exact seg_write hb hk hso vs hl
end
end Go.Proofs.Ytnbppbnjkmopeaa
namespace Go.Proofs.Ytnbppbnjkmopeaa
open Go.RowKit

theorem loadVar_nv {w : World} {g n : Nat} (h : w.heap[g]? = some (nbk n)) : (loadVar 47 ⟨g, 0, none⟩).run Try.prog w = .ok (nv n) w := by
  obtain ⟨d, hu, hd⟩ := Option.map_eq_some_iff.1 num_row
  exact run_loadVar_mid w g 0 47 (nvs n) d (nbk_range h) hu hd num_info
theorem loadVar_nd {w : World} {g : Nat} {n : Nd} (h : w.heap[g]? = some (ndblk n)) : (loadVar 69 ⟨g, 0, none⟩).run Try.prog w = .ok (ndv n) w := by
  obtain ⟨d, hu, hd⟩ := Option.map_eq_some_iff.1 nd_row
  exact run_loadVar_mid w g 0 69 (ndL n) d (fun j v hv => by rw [Nat.zero_add, cell_of_row _ _ _ _ _ _ h, List.getElem?_toArray]; exact hv) hu hd (by rw [ndL_len]; exact nd_info)
theorem loadVar_rl {w : World} {g : Nat} {n : Rl} (h : w.heap[g]? = some (rlblk n)) : (loadVar 62 ⟨g, 0, none⟩).run Try.prog w = .ok (rlv n) w := by
  obtain ⟨d, hu, hd⟩ := Option.map_eq_some_iff.1 rl_row
  exact run_loadVar_mid w g 0 62 (rlL n) d (fun j v hv => by rw [Nat.zero_add, cell_of_row _ _ _ _ _ _ h, List.getElem?_toArray]; exact hv) hu hd (by rw [rlL_len]; exact rl_info)
/-- the work that a chain must have -/
def needN (r : Rl) : Nat := if 2 ^ 256 ≤ wrk (tgt r.limit).1 * r.work.toNat then 2 ^ 256 - 1 else wrk (tgt r.limit).1 * r.work.toNat

set_option maxRecDepth 100000 in
set_option maxHeartbeats 4000000 in
theorem need_any (r : Rl) (hl : r.limit < 4294967296) (hw : r.work ≤ 9223372036854775807) (w : World) : Calls Try.prog 47 #[rlv r] w fun e w' => e = .returned (nv (needN r)) ∧ Below w.heap.size w w' := by
  have ct := Lib.hid fun W => target_any r.limit hl W
  have HTL := Lib.hid (tgt_lt r.limit)
  have HN : Hid (needN r = if 2 ^ 256 ≤ wrk (tgt r.limit).1 * r.work.toNat then 2 ^ 256 - 1 else wrk (tgt r.limit).1 * r.work.toNat) := Lib.hid rfl
  obtain ⟨R, hR⟩ : ∃ R, R = needN r := ⟨_, rfl⟩
  rw [← hR] at HN
  rw [← hR]
  obtain ⟨t, ht⟩ : ∃ t, t = (tgt r.limit).1 := ⟨_, rfl⟩
  obtain ⟨s, hs⟩ : ∃ s, s = (tgt r.limit).2 := ⟨_, rfl⟩
  rw [← ht] at HTL HN
  rw [← ht, ← hs] at ct
  have cw := Lib.hid fun W => work_any t HTL.out W
  have HWL := Lib.hid (wk_lt t)
  obtain ⟨W0, hW0⟩ : ∃ W0, W0 = wrk t := ⟨_, rfl⟩
  rw [← hW0] at cw HN HWL
  obtain ⟨K, hK⟩ : ∃ K : Nat, K = r.work.toNat := ⟨_, rfl⟩
  rw [← hK] at HN
  have e1 : max (0 : Int) r.work = (K : Int) := by omega
  have hKl : K ≤ 9223372036854775807 := by omega
  have cm := Lib.hid fun W => mul_any W0 HWL.out (K : Int) (by omega) (by omega) W
  rw [Int.toNat_natCast] at cm
  obtain ⟨P, hP⟩ : ∃ P, P = W0 * K % 2 ^ 256 := ⟨_, rfl⟩
  obtain ⟨o, ho⟩ : ∃ o, o = decide (2 ^ 256 ≤ W0 * K) := ⟨_, rfl⟩
  rw [← hP, ← ho] at cm
  have HP := Lib.hid hP; have HO := Lib.hid ho
  have K0 := Lib.hid (keep_alloc (nbk 0) (heap_new w (rlblk r)))
  have K2 : Hid (((w.alloc (rlblk r)).alloc (nbk 0)).heap[w.heap.size + 1]? = some (nbk 0)) := Lib.hid (heap_new_at (by simp))
  have BB : Hid (Below w.heap.size w ((w.alloc (rlblk r)).alloc (nbk 0))) := Lib.hid (below_alloc (below_alloc (Below.refl _ _) _) _)
  have c0 : ((w.alloc (.cells (rlL r).toArray 62)).alloc (.cells #[.int .u64 0, .int .u64 0, .int .u64 0, .int .u64 0] 47)).cell? ⟨w.heap.size, 0, none⟩ = some (.int .u32 r.limit) := seg_cell (S := rlS r) (k := 0) K0.out rfl rfl
  clear hR ht hs hW0 hP ho hK hl hw
  go_enter Try.func47, Try.ntmps47
  go_wp2_with fail
  refine (ct.out _).mono ?_
  rintro e w2 ⟨rfl, hb⟩
  have K0a := Lib.hid (keep_alloc (nbk 0) (block_keep hb K0.out)); have K2a := Lib.hid (keep_alloc (nbk 0) (block_keep hb K2.out)); have B2 := Lib.hid (below_alloc (below_next BB.out hb) (nbk 0))
  have hz : w.heap.size + 1 < w2.heap.size := block_lt (block_keep hb K2.out)
  clear hb K0 K2 BB ct c0
  go_wp2_with (first | (refine wpList_store_nv rfl (.tmp 3) (.tmp 11) rfl w2.heap.size 0 t rfl rfl (heap_new w2 _) (fun w3 h1 h2 h3 h4 => ?_); have K3 := Lib.hid h1; have K0b := Lib.hid ((h2 w.heap.size (by omega)).trans K0a.out); have K2b := Lib.hid ((h2 (w.heap.size + 1) (by omega)).trans K2a.out); have B3 := Lib.hid (h4 w.heap.size w (by omega) B2.out); clear h1 h2 h3 h4))
  obtain ⟨g3, hg3⟩ : ∃ g, g = w2.heap.size := ⟨_, rfl⟩
  rw [← hg3] at K3 hz
  rw [← hg3]
  clear hg3 K0a K2a B2
  refine wp_region_z 11 [9] (fun j => decide (j = 10) || false) [Is (nv t), Is (nv W0), Is (.pointer (some ⟨w.heap.size, 4, none⟩)), Is (.int .i64 r.work), Is (.int .i64 K), Is (.int .u64 K), Is (.tuple #[nv P, .bool o]), Is (.tuple #[nv P, .bool o]), Is (nv P), Is (.bool o), BoxOf (nbk 0)] [[], [(0, some 14)], [], [(2, some 16)], [(3, some 17)], [(4, some 18)], [(1, some 15), (5, some 19)], [(6, some 20)], [(7, some 13)], [(7, some 13)], [], [(8, some 21), (10, some 5)], [(9, some 22)]] [(0, some 14), (1, some 15), (2, some 16), (3, some 17), (4, some 18), (5, some 19), (6, some 20), (7, some 13), (8, some 21), (9, some 22), (10, some 5)] [0, 1, 0, 4, 12, 28, 63, 127, 255, 255, 0, 1535, 4095]
    (by kernel_rfl) (by kernel_rfl) (by kernel_rfl) (by kernel_rfl) (by kernel_rfl) ⟨Is.kept _, Is.kept _, Is.kept _, Is.kept _, Is.kept _, Is.kept _, Is.kept _, Is.kept _, Is.kept _, Is.kept _, BoxOf.kept _, trivial⟩ ⟨?_, trivial⟩ ⟨?_, ?_, ?_, ?_, ?_, ?_, ?_, ?_, ?_, ?_, ?_, trivial⟩ ?_
  · as_aux_lemma =>
    refine fun w' hB => (show onP _ w' [(7, some 13)] _ _ from ?_)
    refine fun v7 h7 => ?_
    obtain rfl := h7
    exact ⟨_, .bool o, rfl, Or.inl ⟨by rfl, fun w => by go_simp⟩⟩
  · as_aux_lemma =>
    refine fun w' hB => ?_
    show wpList _ _ _ _ _ _
    go_wp2_with (first | refine wpList_load_nv rfl (.tmp 3) rfl g3 t rfl (block_keep hB K3.out) ?_)
    exact ⟨nv t, rfl, rfl, Below.refl _ _, fun h => absurd h (by decide)⟩
  · as_aux_lemma =>
    refine fun w' hB v0 h0 => ?_
    obtain rfl := h0
    show wpList _ _ _ _ _ _
    go_wp2_with fail
    refine (cw.out w').mono ?_
    rintro e w2 ⟨rfl, hb2⟩
    go_wp2_with fail
    exact ⟨nv W0, by first | rfl | (go_simp; done), rfl, hb2, fun h => absurd h (by decide)⟩
  · as_aux_lemma =>
    refine fun w' hB => ?_
    show wpList _ _ _ _ _ _
    go_wp2_with fail
    exact ⟨.pointer (some ⟨w.heap.size, 4, none⟩), by first | rfl | (go_simp; done), rfl, Below.refl _ _, fun h => absurd h (by decide)⟩
  · as_aux_lemma =>
    refine fun w' hB v2 h2 => ?_
    obtain rfl := h2
    show wpList _ _ _ _ _ _
    have c4 : w'.cell? ⟨w.heap.size, 4, none⟩ = some (.int .i64 r.work) := seg_cell (S := rlS r) (k := 4) (block_keep hB K0b.out) rfl rfl
    go_wp2_with fail
    exact ⟨_, rfl, rfl, Below.refl _ _, fun h => absurd h (by decide)⟩
  · as_aux_lemma =>
    refine fun w' hB v3 h3 => ?_
    obtain rfl := h3
    show wpList _ _ _ _ _ _
    go_wp2_with fail
    exact ⟨.int .i64 K, by first | rfl | (go_simp; done), rfl, Below.refl _ _, fun h => absurd h (by decide)⟩
  · as_aux_lemma =>
    refine fun w' hB v4 h4 => ?_
    obtain rfl := h4
    show wpList _ _ _ _ _ _
    go_wp2_with fail
    exact ⟨.int .u64 K, by first | rfl | (go_simp; done), rfl, Below.refl _ _, fun h => absurd h (by decide)⟩
  · as_aux_lemma =>
    refine fun w' hB v1 h1 v5 h5 => ?_
    obtain rfl := h1
    obtain rfl := h5
    show wpList _ _ _ _ _ _
    go_wp2_with fail
    refine (cm.out w').mono ?_
    rintro e w2 ⟨rfl, hb2⟩
    go_wp2_with fail
    exact ⟨.tuple #[nv P, .bool o], by first | rfl | (go_simp; done), rfl, hb2, fun h => absurd h (by decide)⟩
  · as_aux_lemma =>
    refine fun w' hB v6 h6 => ?_
    obtain rfl := h6
    show wpList _ _ _ _ _ _
    go_wp2_with fail
    exact ⟨.tuple #[nv P, .bool o], by first | rfl | (go_simp; done), rfl, Below.refl _ _, fun h => absurd h (by decide)⟩
  · as_aux_lemma =>
    refine fun w' hB v7 h7 => ?_
    obtain rfl := h7
    show wpList _ _ _ _ _ _
    go_wp2_with fail
    exact ⟨nv P, by first | rfl | (go_simp; done), rfl, Below.refl _ _, fun h => absurd h (by decide)⟩
  · as_aux_lemma =>
    refine fun w' hB v7 h7 => ?_
    obtain rfl := h7
    show wpList _ _ _ _ _ _
    go_wp2_with fail
    exact ⟨.bool o, by first | rfl | (go_simp; done), rfl, Below.refl _ _, fun h => absurd h (by decide)⟩
  · as_aux_lemma =>
    refine fun w' hB => ?_
    show wpList _ _ _ _ _ _
    go_wp2_with fail
    exact ⟨_, rfl, ⟨_, rfl, heap_new _ _⟩, below_alloc (Below.refl _ _) _, fun _ => ⟨_, rfl, Nat.le_refl _, by simp⟩⟩
  · refine fun w' G hB hN1 hN2 v0 h0 v1 h1 v2 h2 v3 h3 v4 h4 v5 h5 v6 h6 v7 h7 v8 h8 v9 h9 v10 h10 => ?_
    replace h0 := h0.1
    replace h1 := h1.1
    replace h2 := h2.1
    replace h3 := h3.1
    replace h4 := h4.1
    replace h5 := h5.1
    replace h6 := h6.1
    replace h7 := h7.1
    replace h8 := h8.1
    replace h9 := h9.1
    obtain ⟨h10, hG10⟩ := h10; replace hG10 := hG10 (by decide)
    have hW10 := hN1 10 (by decide) (by decide)
    clear hN1 hN2
    obtain rfl := h8
    obtain rfl := h9
    obtain ⟨g10, rfl, hg10⟩ := h10
    obtain ⟨gn10, en10, hge10, hlt10⟩ := hW10
    obtain rfl := Option.some.inj (hG10.trans en10)
    dsimp only at hge10 hlt10
    clear en10
    simp only [onP, List.drop_succ_cons, List.drop_zero]
    go_simp
    clear h0 h1 h2 h3 h4 h5 h6 h7
    have K2c := Lib.hid (block_keep hB K2b.out); have B4 := Lib.hid (below_next B3.out hB)
    have hz3 := B3.out.size
    clear hB
    go_wp2_with (first | (refine wpList_store_nv rfl (.tmp 5) (.tmp 21) rfl g10 0 P rfl rfl hg10 (fun w5 h1 h2 h3 h4 => ?_); have K5 := Lib.hid h1; have K2d := Lib.hid ((h2 (w.heap.size + 1) (by have := block_lt K2b.out; omega)).trans K2c.out); have B5 := Lib.hid (h4 w.heap.size w (by omega) B4.out); clear h1 h2 h3 h4))
    dsimp only [QN]
    cases o
    · have hR : R = P := by
        have := HO.out
        simp at this
        rw [HN.out, if_neg (by omega), HP.out, Nat.mod_eq_of_lt this]
      go_wp2_with (first | refine wpList_load_nv rfl (.tmp 5) rfl g10 P rfl K5.out ?_ | (refine wpList_store_nv rfl (.tmp 2) (.tmp 26) rfl (w.heap.size + 1) 0 P rfl rfl K2d.out (fun w6 h1 h2 h3 h4 => ?_)))
      have hl := loadVar_nv h1
      exact bodyPost_ret (v := nv P) (by simp [results, Try.results47, Act.put, asAddr, hl]) rfl ⟨by rw [hR], h4 _ _ (by omega) B5.out⟩
    · have hR : R = 2 ^ 256 - 1 := by
        have := HO.out
        simp at this
        rw [HN.out, if_pos this]
      have cn := Lib.hid fun V => not_any 0 (by omega) V
      rw [Nat.sub_zero] at cn
      obtain ⟨M, hM⟩ : ∃ M : Nat, M = 2 ^ 256 - 1 := ⟨_, rfl⟩
      rw [← hM] at cn hR
      clear hM
      go_wp2_with fail
      refine (cn.out _).mono ?_
      rintro e w6 ⟨rfl, hb⟩
      have K2e := Lib.hid (block_keep hb K2d.out); have B6 := Lib.hid (below_next B5.out hb)
      clear hb
      go_wp2_with (first | (refine wpList_store_nv rfl (.tmp 2) (.tmp 25) rfl (w.heap.size + 1) 0 M rfl rfl K2e.out (fun w7 h1 h2 h3 h4 => ?_)))
      have hl := loadVar_nv h1
      exact bodyPost_ret (v := nv M) (by simp [results, Try.results47, Act.put, asAddr, hl]) rfl ⟨by rw [hR], h4 _ _ (by omega) B6.out⟩
end Go.Proofs.Ytnbppbnjkmopeaa
namespace Go.Proofs.Ytnbppbnjkmopeaa
open Go.RowKit

def nd0 : Nd := ⟨hd0, 0, 0, 0, 0, 0, false⟩
def rl0 : Rl := ⟨0, 0, 0, 0, 0, hd0, .slice none 0 0⟩
theorem ndz : Try.zeroCells69 = (ndL nd0).toArray := by kernel_rfl
theorem rlz : Try.zeroCells62 = (rlL rl0).toArray := by kernel_rfl
theorem ndzb : Obj.cells Try.zeroCells69 69 (0, 0) = ndblk nd0 := by unfold ndblk; rw [ndz]
theorem rlzb : Obj.cells Try.zeroCells62 62 (0, 0) = rlblk rl0 := by unfold rlblk; rw [rlz]
/-- the whole of a block is stored -/
theorem st_nd {ops : Array Oper} {rest : List Oper} {op : Oper} {a : Act} {w : World} {Q : Exit → Act → World → Prop} (hgd : op.guard = none) (x y : Operand) (ho : op.op = .store 69 x y)
    (g : Nat) (m n : Nd) (hx : a.eval x = .pointer (some ⟨g, 0, none⟩)) (hy : a.eval y = ndv n) (hb : w.heap[g]? = some (ndblk m))
    (h : ∀ w', w'.heap[g]? = some (ndblk n) → (∀ b, b ≠ g → w'.heap[b]? = w.heap[b]?) → w'.heap.size = w.heap.size → (∀ B u, B ≤ g → Below B u w → Below B u w') → wpList Try.prog ops Q rest (a.put op.dst undef) w') :
    wpList Try.prog ops Q (op :: rest) a w := by
  refine wpList_store_mid hgd 69 x y ho g 0 (ndL n).toArray hx hy (fun j hj => ⟨?_, frozen_of_row _ _ _ _ _ hb⟩) (by rw [List.size_toArray, ndL_len]; exact nd_info) (all_oneCell_toArray (nd1 n)) (h _ ?_ (fun b hne => heap_setCells_far g _ _ _ b hne) (size_setCells_id g _ _ _) fun B u hB hu => below_setCells_id g hB _ _ _ hu)
  · rw [List.size_toArray, ndL_len] at hj
    rw [Nat.zero_add, cell_of_row _ _ _ _ _ _ hb, List.getElem?_toArray, List.getElem?_eq_getElem (by rw [ndL_len]; exact hj)]; rfl
  · exact heap_setCells_row g 69 (ndL n) (ndL m) [] w (by rw [ndL_len, ndL_len]) hb
theorem st_rl {ops : Array Oper} {rest : List Oper} {op : Oper} {a : Act} {w : World} {Q : Exit → Act → World → Prop} (hgd : op.guard = none) (x y : Operand) (ho : op.op = .store 62 x y)
    (g : Nat) (m n : Rl) (ht : n.txs.oneCell' = true) (hx : a.eval x = .pointer (some ⟨g, 0, none⟩)) (hy : a.eval y = rlv n) (hb : w.heap[g]? = some (rlblk m))
    (h : ∀ w', w'.heap[g]? = some (rlblk n) → (∀ b, b ≠ g → w'.heap[b]? = w.heap[b]?) → w'.heap.size = w.heap.size → (∀ B u, B ≤ g → Below B u w → Below B u w') → wpList Try.prog ops Q rest (a.put op.dst undef) w') :
    wpList Try.prog ops Q (op :: rest) a w := by
  refine wpList_store_mid hgd 62 x y ho g 0 (rlL n).toArray hx hy (fun j hj => ⟨?_, frozen_of_row _ _ _ _ _ hb⟩) (by rw [List.size_toArray, rlL_len]; exact rl_info) (all_oneCell_toArray (rl1 n ht)) (h _ ?_ (fun b hne => heap_setCells_far g _ _ _ b hne) (size_setCells_id g _ _ _) fun B u hB hu => below_setCells_id g hB _ _ _ hu)
  · rw [List.size_toArray, rlL_len] at hj
    rw [Nat.zero_add, cell_of_row _ _ _ _ _ _ hb, List.getElem?_toArray, List.getElem?_eq_getElem (by rw [rlL_len]; exact hj)]; rfl
  · exact heap_setCells_row g 62 (rlL n) (rlL m) [] w (by rw [rlL_len, rlL_len]) hb

set_option maxRecDepth 100000 in
set_option maxHeartbeats 4000000 in
/-- index.Tree.Rules -/
theorem rules_any (T : Nat) (t : Tr) (ht : t.rules.txs.oneCell' = true) (w : World) (hT : w.heap[T]? = some (trblk t)) : Calls Try.prog 85 #[.pointer (some ⟨T, 0, none⟩)] w fun e w' => e = .returned (rlv t.rules) ∧ Below w.heap.size w w' := by
  have KT := Lib.hid (keep_alloc (.cells Try.zeroCells62 62) hT)
  have KR : Hid ((w.alloc (.cells Try.zeroCells62 62)).heap[w.heap.size]? = some (rlblk rl0)) := Lib.hid (rlzb ▸ heap_new w _)
  have B := Lib.hid (below_alloc (Below.refl w.heap.size w) (.cells Try.zeroCells62 62))
  clear hT
  go_enter Try.func85, Try.ntmps85
  go_wp2_with (first | refine ld_rl rfl (.tmp 5) rfl T 0 t.rules rfl (seg_range (S := trS t) (k := 0) KT.out rfl rfl) ?_ | refine st_rl rfl (.tmp 2) (.tmp 6) rfl w.heap.size rl0 t.rules ht rfl rfl KR.out (fun w3 h1 h2 h3 h4 => ?_))
  have hl := loadVar_rl h1
  exact bodyPost_ret (v := rlv t.rules) (by simp [results, Try.results85, Act.put, asAddr, hl]) rfl ⟨rfl, h4 _ _ (by omega) B.out⟩

set_option maxRecDepth 100000 in
set_option maxHeartbeats 4000000 in
/-- index.Tree.Get -/
theorem get_any (T b o n cap : Nat) (i : Int) (t : Tr) (x : Nd) (w : World) (hT : w.heap[T]? = some (trblk t)) (hv : t.nodes = .slice (some ⟨b, o, none⟩) n cap) (h0 : 0 < n) (_ : n ≤ 1000000000) (hi1 : -9223372036854775808 ≤ i) (hi2 : i < 9223372036854775808)
    (hx : w.rangeAt b (o + (if i < 0 ∨ (n : Int) ≤ i then 0 else i.toNat) * 108) (ndL x)) : Calls Try.prog 35 #[.pointer (some ⟨T, 0, none⟩), .int .i64 i] w fun e w' => e = .returned (ndv x) ∧ Below w.heap.size w w' := by
  have KT := Lib.hid (keep_alloc (.cells Try.zeroCells69 69) hT)
  have KR : Hid ((w.alloc (.cells Try.zeroCells69 69)).heap[w.heap.size]? = some (ndblk nd0)) := Lib.hid (ndzb ▸ heap_new w _)
  have B := Lib.hid (below_alloc (Below.refl w.heap.size w) (.cells Try.zeroCells69 69))
  have HX := Lib.hid (World.rangeAt_alloc hx (.cells Try.zeroCells69 69))
  have c74 : (w.alloc (.cells Try.zeroCells69 69)).cell? ⟨T, 74, none⟩ = some (.slice (some ⟨b, o, none⟩) n cap) := hv ▸ seg_cell (S := trS t) (k := 1) KT.out rfl (tr_o t).2.1
  clear hT hx
  go_enter Try.func35, Try.ntmps35
  by_cases p1 : i < 0
  · rw [if_pos (.inl p1)] at HX
    clear hi1 hi2
    go_wp2_with (first | refine ld_nd rfl (.tmp 21) rfl b o x rfl HX.out ?_ | refine st_nd rfl (.tmp 4) (.tmp 22) rfl w.heap.size nd0 x rfl rfl KR.out (fun w3 h1 h2 h3 h4 => ?_))
    have hl := loadVar_nd h1
    exact bodyPost_ret (v := ndv x) (by simp [results, Try.results35, Act.put, asAddr, hl]) rfl ⟨rfl, h4 _ _ (by omega) B.out⟩
  · by_cases p2 : (n : Int) ≤ i
    · rw [if_pos (.inr p2)] at HX
      clear hi1 hi2
      go_wp2_with (first | refine ld_nd rfl (.tmp 21) rfl b o x rfl HX.out ?_ | refine st_nd rfl (.tmp 4) (.tmp 22) rfl w.heap.size nd0 x rfl rfl KR.out (fun w3 h1 h2 h3 h4 => ?_))
      have hl := loadVar_nd h1
      exact bodyPost_ret (v := ndv x) (by simp [results, Try.results35, asAddr, hl]) rfl ⟨rfl, h4 _ _ (by omega) B.out⟩
    · rw [if_neg (by omega)] at HX
      obtain ⟨k, rfl⟩ : ∃ k : Nat, i = k := ⟨i.toNat, by omega⟩
      rw [Int.toNat_natCast] at HX
      have hk : k < n := by omega
      clear p1 p2 hi1 hi2
      go_wp2_with (first | refine ld_nd rfl (.tmp 21) rfl b (o + k * 108) x rfl HX.out ?_ | refine st_nd rfl (.tmp 4) (.tmp 22) rfl w.heap.size nd0 x rfl rfl KR.out (fun w3 h1 h2 h3 h4 => ?_))
      have hl := loadVar_nd h1
      exact bodyPost_ret (v := ndv x) (by simp [results, Try.results35, Act.put, asAddr, hl]) rfl ⟨rfl, h4 _ _ (by omega) B.out⟩
end Go.Proofs.Ytnbppbnjkmopeaa
namespace Go.Proofs.Ytnbppbnjkmopeaa
open Go.RowKit

/-- the cells of a row of headers -/
def hdsL : List Hd → List Value
  | [] => []
  | a :: l => hdcs a ++ hdsL l
theorem hdsL_len : ∀ l, (hdsL l).length = l.length * 68
  | [] => rfl
  | a :: l => by rw [hdsL, List.length_append, hdcs_len, hdsL_len l, List.length_cons]; omega
theorem hdsL_app (l m : List Hd) : hdsL (l ++ m) = hdsL l ++ hdsL m := by
  induction l with
  | nil => rfl
  | cons a l ih => rw [List.cons_append, hdsL, hdsL, ih, List.append_assoc]
theorem hdsL_get : ∀ (l : List Hd) (i j : Nat), i < l.length → j < 68 → (hdsL l)[i * 68 + j]? = (hdcs (l.getD i hd0))[j]?
  | [], i, j, h, _ => by simp at h
  | a :: l, 0, j, _, hj => by
    rw [hdsL, Nat.zero_mul, Nat.zero_add, List.getElem?_append_left (by rw [hdcs_len]; exact hj), List.getD_cons_zero]
  | a :: l, i + 1, j, h, hj => by
    rw [hdsL, List.getElem?_append_right (by rw [hdcs_len]; omega), hdcs_len, List.getD_cons_succ, show (i + 1) * 68 + j - 68 = i * 68 + j by omega]
    exact hdsL_get l i j (by simpa using h) hj
theorem hdsL_one : ∀ (l : List Hd), ∀ v ∈ hdsL l, v.oneCell' = true
  | [], v, h => by cases h
  | a :: l, v, h => by
    rw [hdsL, List.mem_append] at h
    rcases h with h | h
    · exact hdcs_one _ v h
    · exact hdsL_one l v h
theorem hdsL_take : ∀ (l : List Hd) (k : Nat), hdsL (l.take k) = (hdsL l).take (k * 68)
  | [], k => by simp [hdsL]
  | a :: l, 0 => by simp [hdsL]
  | a :: l, k + 1 => by
    rw [List.take_succ_cons, hdsL, hdsL, hdsL_take l k, List.take_append, hdcs_len, show (k + 1) * 68 - 68 = k * 68 by omega, List.take_of_length_le (l := hdcs a) (by rw [hdcs_len]; omega)]
theorem hdsL_drop : ∀ (l : List Hd) (k : Nat), hdsL (l.drop k) = (hdsL l).drop (k * 68)
  | [], k => by simp [hdsL]
  | a :: l, 0 => by simp [hdsL]
  | a :: l, k + 1 => by
    rw [List.drop_succ_cons, hdsL, hdsL_drop l k, List.drop_append, hdcs_len, show (k + 1) * 68 - 68 = k * 68 by omega, List.drop_of_length_le (l := hdcs a) (by rw [hdcs_len]; omega), List.nil_append]
/-- headers that lie in memory -/
def HdsAt (w : World) (b o : Nat) (l : List Hd) : Prop := ∀ j v, (hdsL l)[j]? = some v → w.cell? ⟨b, o + j, none⟩ = some v
theorem HdsAt.at {w : World} {b o : Nat} {l : List Hd} (h : HdsAt w b o l) (i : Nat) (hi : i < l.length) : w.rangeAt b (o + i * 68) (hdcs (l.getD i hd0)) := fun j v hv => by
  have hj : j < 68 := by
    have := (List.getElem?_eq_some_iff.1 hv).1
    rwa [hdcs_len] at this
  have := h (i * 68 + j) v ((hdsL_get l i j hi hj).trans hv)
  rwa [show o + i * 68 + j = o + (i * 68 + j) by omega]
theorem HdsAt.keep {w w' : World} {b o : Nat} {l : List Hd} (h : HdsAt w b o l) (hb : Below w.heap.size w w') : HdsAt w' b o l := fun j v hv => by
  have := h j v hv
  exact (World.cell?_of_block (hb.block b (World.block_lt_of_cell? w _ this))).trans this
theorem HdsAt.drop {w : World} {b o : Nat} {l : List Hd} (h : HdsAt w b o l) (k : Nat) : HdsAt w b (o + k * 68) (l.drop k) := fun j v hv => by
  rw [hdsL_drop, List.getElem?_drop] at hv
  have := h _ v hv
  rwa [show o + k * 68 + j = o + (k * 68 + j) by omega]
theorem HdsAt.take {w : World} {b o : Nat} {l : List Hd} (h : HdsAt w b o l) (k : Nat) : HdsAt w b o (l.take k) := fun j v hv => by
  rw [hdsL_take, List.getElem?_take] at hv
  split at hv
  · exact h _ v hv
  · cases hv
theorem underlying_hds : Try.prog.underlying 66 = some (.slice 26) := by kernel_rfl
theorem info_hd : (Try.prog.info? 26).map (fun i => (i.zero, i.size, i.bytes)) = some (some (hdv hd0), 68, 80) := by kernel_rfl
/-- the call's own row of headers -/
def OwnsH (w : World) (base : Nat) (v : Value) (l : List Hd) : Prop := w.ownsRow base 26 68 v l.length (hdsL l)
theorem OwnsH.nil (w : World) (base : Nat) : OwnsH w base (.slice none 0 0) [] := World.ownsRow_nil _ _ _ _
theorem OwnsH.keep {w w' : World} {base : Nat} {v : Value} {l : List Hd} (h : OwnsH w base v l) (hb : Below w.heap.size w w') : OwnsH w' base v l := by
  refine ⟨h.1, ?_⟩
  rcases h.2 with h' | ⟨g, cap, cur, rfl, h1, h2, h3⟩
  · exact .inl h'
  · exact .inr ⟨g, cap, cur, rfl, h1, below_keep hb h2, h3⟩
theorem OwnsH.rows {w : World} {base : Nat} {v : Value} {l : List Hd} (h : OwnsH w base v l) : (v = .slice none 0 0 ∧ l = []) ∨ ∃ b cap, v = .slice (some ⟨b, 0, none⟩) l.length cap ∧ base ≤ b ∧ b < w.heap.size ∧ l.length ≤ cap ∧ cap ≤ maxLen ∧ HdsAt w b 0 l := by
  have h' := h
  rcases h.2 with ⟨rfl, hq⟩ | ⟨g, cap, cur, rfl, h1, h2, h3, h4, h5⟩
  · exact .inl ⟨rfl, List.eq_nil_of_length_eq_zero hq⟩
  · refine .inr ⟨g, cap, rfl, h1, block_lt h2, h3, h4, fun j u hj => ?_⟩
    have hjl : j < l.length * 68 := by
      have := (List.getElem?_eq_some_iff.1 hj).1
      rwa [hdsL_len] at this
    rw [Nat.zero_add, World.ownsRow.cellAt h' j hjl, hj]
theorem fill_hd (h : Hd) : Instr.fill (fun i => some (i * 68, 68)) ((Array.range (1 * 68)).map ((hdv hd0).cells[· % (hdv hd0).cells.size]!)) [(0, hdv h)] = some (hdsL [h]).toArray := by kernel_rfl
theorem wpList_bs_hd {ops : Array Oper} {rest : List Oper} {o : Oper} {a : Act} {w : World} {Q : Exit → Act → World → Prop} (hgd : o.guard = none) (x : Operand) (n : Hd) (ho : o.op = .buildSlice 66 1 #[(0, x)]) (hx : a.eval x = hdv n)
    (h : wpList Try.prog ops Q rest (a.put o.dst (.slice (some ⟨w.heap.size, 0, none⟩) 1 1)) (w.alloc (.cells (hdsL [n]).toArray 26 (0, 0)))) : wpList Try.prog ops Q (o :: rest) a w := by
  obtain ⟨i0, hi, hz0, hz1, hz2⟩ := info_parts info_hd
  refine wpList_buildSlice hgd 66 26 1 _ ho (hdsL [n]).toArray i0 _ underlying_hds hi hz0 (by rw [hz1]; decide) (by rw [hz1]; decide) ?_ h
  rw [hz1]
  simp only [List.map_toArray, List.map_cons, List.map_nil, hx]
  exact fill_hd n
set_option maxRecDepth 100000 in
/-- headers are appended to the call's own row -/
theorem wpList_append_hds {ops : Array Oper} {rest : List Oper} {o : Oper} {a : Act} {w : World} {Q : Exit → Act → World → Prop} (hgd : o.guard = none) (s x : Operand)
    (ho : o.op = .call { callee := .builtin .append, args := #[s, x], argTypes := #[66, 66] })
    (base : Nat) (v : Value) (q : List Hd) (hs : a.eval s = v) (hown : OwnsH w base v q) (l : List Hd) (xa : Option Addr) (c : Nat) (hx : a.eval x = .slice xa l.length c) (hn : xa = none → l = [] ∧ c = 0) (hc : ∀ ad, xa = some ad → ad.spot = none ∧ HdsAt w ad.block ad.off l)
    (hL : q.length + l.length ≤ 1000000) (hbase : base ≤ w.heap.size)
    (h : ∀ v' w', OwnsH w' base v' (q ++ l) → w.grownBy w' v.ownBlock → (v'.ownBlock = v.ownBlock ∨ v'.ownBlock = some w.heap.size) → wpList Try.prog ops Q rest (a.put o.dst v') w') :
    wpList Try.prog ops Q (o :: rest) a w := by
  obtain ⟨i0, hi, hz0, hz1, hz2⟩ := info_parts info_hd
  rcases xa with _ | ⟨b, o', pt⟩
  · obtain ⟨rfl, rfl⟩ := hn rfl
    refine wpList_append_own_none hgd s x 66 ho base 26 i0 68 underlying_hds hi v q.length (hdsL q) hs hown hx ?_
    exact h v w (by rw [List.append_nil]; exact hown) (World.grownBy.refl _ _) (.inl rfl)
  · obtain ⟨e, hc2⟩ := hc _ rfl
    dsimp only at e hc2
    subst e
    refine wpList_append_own_at w hgd s x 66 ho base 26 i0 _ 68 80 underlying_hds hi hz0 hz1 hz2 (by kernel_rfl) (by decide) v q.length (hdsL q) hs hown ⟨b, o', none⟩ l.length c (hdsL l) hx (hdsL_len l)
      (fun j u hj => by rw [Addr.add_lit]; exact hc2 j u hj) (hdsL_one l) (by unfold maxLen; omega) (by omega) hbase fun v' w' hown' hgrow _ hat => ?_
    refine h v' w' ?_ hgrow hat
    unfold OwnsH
    rw [List.length_append, hdsL_app]
    exact hown'
/-- the cells of a row of bits -/
def bolL (l : List Bool) : List Value := l.map .bool
theorem bolL_len (l : List Bool) : (bolL l).length = l.length := by simp [bolL]
def OwnsB (w : World) (base : Nat) (v : Value) (l : List Bool) : Prop := w.ownsRow base 4 1 v l.length (bolL l)
theorem OwnsB.nil (w : World) (base : Nat) : OwnsB w base (.slice none 0 0) [] := World.ownsRow_nil _ _ _ _
theorem OwnsB.keep {w w' : World} {base : Nat} {v : Value} {l : List Bool} (h : OwnsB w base v l) (hb : Below w.heap.size w w') : OwnsB w' base v l := by
  refine ⟨h.1, ?_⟩
  rcases h.2 with h' | ⟨g, cap, cur, rfl, h1, h2, h3⟩
  · exact .inl h'
  · exact .inr ⟨g, cap, cur, rfl, h1, below_keep hb h2, h3⟩
theorem OwnsB.shape {w : World} {base : Nat} {v : Value} {l : List Bool} (h : OwnsB w base v l) : ∃ x cap, v = .slice x l.length cap := by
  rcases h.2 with ⟨rfl, hq⟩ | ⟨g, cap, cur, rfl, _⟩
  · exact ⟨_, _, by rw [hq]⟩
  · exact ⟨_, _, rfl⟩
theorem OwnsB.at {w : World} {base : Nat} {v : Value} {l : List Bool} (h : OwnsB w base v l) (i : Nat) (b : Bool) (hi : l[i]? = some b) : ∃ g cap, v = .slice (some ⟨g, 0, none⟩) l.length cap ∧ g < w.heap.size ∧ w.cell? ⟨g, i, none⟩ = some (.bool b) := by
  have h' := h
  have hil := (List.getElem?_eq_some_iff.1 hi).1
  rcases h.2 with ⟨rfl, hq⟩ | ⟨g, cap, cur, rfl, h1, h2, h3⟩
  · omega
  · exact ⟨g, cap, rfl, block_lt h2, by rw [World.ownsRow.cellAt h' i (by omega), bolL, List.getElem?_map, hi]; rfl⟩
theorem underlying_bols : Try.prog.underlying 81 = some (.slice 4) := by kernel_rfl
theorem info_bol : (Try.prog.info? 4).map (fun i => (i.zero, i.size, i.bytes)) = some (some (.bool false), 1, 1) := by kernel_rfl
/-- one bit is appended -/
theorem wpList_append_bol {ops : Array Oper} {rest : List Oper} {o : Oper} {a : Act} {w : World} {Q : Exit → Act → World → Prop} (hgd : o.guard = none) (s x : Operand)
    (ho : o.op = .call { callee := .builtin .append, args := #[s, x], argTypes := #[81, 81] })
    (base : Nat) (v : Value) (q : List Bool) (hs : a.eval s = v) (hown : OwnsB w base v q) (g : Nat) (b : Bool) (hx : a.eval x = .slice (some ⟨g, 0, none⟩) 1 1) (hc : w.cell? ⟨g, 0, none⟩ = some (.bool b))
    (hL : q.length ≤ 1000000) (hbase : base ≤ w.heap.size)
    (h : ∀ v' w', OwnsB w' base v' (q ++ [b]) → w.grownBy w' v.ownBlock → (v'.ownBlock = v.ownBlock ∨ v'.ownBlock = some w.heap.size) → wpList Try.prog ops Q rest (a.put o.dst v') w') :
    wpList Try.prog ops Q (o :: rest) a w := by
  obtain ⟨i0, hi, hz0, hz1, hz2⟩ := info_parts info_bol
  refine wpList_append_own_at w hgd s x 81 ho base 4 i0 (.bool false) 1 1 underlying_bols hi hz0 hz1 hz2 rfl (by decide) v q.length (bolL q) hs hown ⟨g, 0, none⟩ 1 1 [.bool b] hx rfl
    (fun j u hj => ?_) (fun u hu => by simp at hu; subst hu; rfl) (by unfold maxLen; omega) (by omega) hbase fun v' w' hown' hgrow _ hat => ?_
  · match j, hj with
    | 0, hj => simp at hj; subst hj; simpa [Addr.add] using hc
  · refine h v' w' ?_ hgrow hat
    unfold OwnsB
    rw [List.length_append, bolL, List.map_append]
    exact hown'
/-- all but some blocks is as it was -/
structure Gr (D : Nat → Prop) (w w' : World) : Prop where
  os : w'.os = w.os
  tape : w'.tape = w.tape
  output : w'.output = w.output
  size : w.heap.size ≤ w'.heap.size
  block : ∀ k, k < w.heap.size → ¬ D k → w'.heap[k]? = w.heap[k]?
theorem Gr.of_below {w w' : World} (D : Nat → Prop) (h : Below w.heap.size w w') : Gr D w w' := ⟨h.os, h.tape, h.output, h.size, fun k hk _ => h.block k hk⟩
theorem Gr.refl (D : Nat → Prop) (w : World) : Gr D w w := ⟨rfl, rfl, rfl, Nat.le_refl _, fun _ _ _ => rfl⟩
theorem Gr.of_grown {w w' : World} {row : Option Nat} (h : w.grownBy w' row) : Gr (fun k => row = some k) w w' := ⟨h.os, h.tape, h.output, h.size, fun k hk hn => h.block k hk (fun e => hn e.symm)⟩
theorem Gr.trans {D E : Nat → Prop} {a b c : World} (h : Gr D a b) (k : Gr E b c) (hE : ∀ i, i < a.heap.size → E i → D i) : Gr D a c :=
  ⟨k.os.trans h.os, k.tape.trans h.tape, k.output.trans h.output, Nat.le_trans h.size k.size, fun i hi hn => (k.block i (Nat.lt_of_lt_of_le hi h.size) (fun e => hn (hE i hi e))).trans (h.block i hi hn)⟩
theorem Gr.mono {D E : Nat → Prop} {a b : World} (h : Gr D a b) (hE : ∀ i, i < a.heap.size → D i → E i) : Gr E a b := ⟨h.os, h.tape, h.output, h.size, fun i hi hn => h.block i hi (fun e => hn (hE i hi e))⟩
theorem Gr.next {D : Nat → Prop} {a b c : World} (h : Gr D a b) (k : Below b.heap.size b c) : Gr D a c := h.trans (Gr.of_below (fun _ => False) k) (fun _ _ e => e.elim)
theorem Gr.below {D : Nat → Prop} {a b : World} (h : Gr D a b) (n : Nat) (hn : n ≤ a.heap.size) (hD : ∀ i, i < n → ¬ D i) : Below n a b := ⟨h.os, h.tape, h.output, h.size, fun k hk => h.block k (by omega) (hD k hk)⟩
theorem Gr.keep {D : Nat → Prop} {a b : World} (h : Gr D a b) {g : Nat} {o : Obj} (hg : a.heap[g]? = some o) (hD : ¬ D g) : b.heap[g]? = some o := (h.block g (block_lt hg) hD).trans hg
theorem OwnsH.gr {D : Nat → Prop} {w w' : World} {base : Nat} {v : Value} {l : List Hd} (h : OwnsH w base v l) (hg : Gr D w w') (hD : ∀ k, v.ownBlock = some k → ¬ D k) : OwnsH w' base v l := by
  refine ⟨h.1, ?_⟩
  rcases h.2 with h' | ⟨g, cap, cur, rfl, h1, h2, h3⟩
  · exact .inl h'
  · exact .inr ⟨g, cap, cur, rfl, h1, hg.keep h2 (hD _ rfl), h3⟩
theorem OwnsB.gr {D : Nat → Prop} {w w' : World} {base : Nat} {v : Value} {l : List Bool} (h : OwnsB w base v l) (hg : Gr D w w') (hD : ∀ k, v.ownBlock = some k → ¬ D k) : OwnsB w' base v l := by
  refine ⟨h.1, ?_⟩
  rcases h.2 with h' | ⟨g, cap, cur, rfl, h1, h2, h3⟩
  · exact .inl h'
  · exact .inr ⟨g, cap, cur, rfl, h1, hg.keep h2 (hD _ rfl), h3⟩
theorem HdsAt.gr {D : Nat → Prop} {w w' : World} {b o : Nat} {l : List Hd} (h : HdsAt w b o l) (hg : Gr D w w') (hD : ¬ D b) : HdsAt w' b o l := fun j v hv => by
  have := h j v hv
  exact (World.cell?_of_block (hg.block b (World.block_lt_of_cell? w _ this) hD)).trans this
/-- an own row's block has the type of its elements -/
theorem own_ne_obj {w : World} {base : Nat} {e : TypeId} {s n k : Nat} {v : Value} {xs cs : List Value} {t : TypeId} (h : w.ownsRow base e s v n xs) (hk : w.heap[k]? = some (.cells cs.toArray t (0, 0))) (hne : e ≠ t) : v.ownBlock ≠ some k := fun he => by
  rcases h.2 with ⟨rfl, _⟩ | ⟨g, cap, cur, rfl, _, h2, _⟩
  · simp [Value.ownBlock] at he
  · have : g = k := by simpa [Value.ownBlock] using he
    subst this
    rw [h2] at hk
    simp only [Option.some.injEq, Obj.cells.injEq] at hk
    exact hne hk.2.1
end Go.Proofs.Ytnbppbnjkmopeaa
namespace Go.Proofs.Ytnbppbnjkmopeaa
open Go.RowKit

theorem Gr.setCell (g o : Nat) (v : Value) (w : World) : Gr (fun k => k = g) w (w.setCell ⟨g, o, none⟩ v) := ⟨rfl, rfl, rfl, by simp, fun k _ hn => Below.heap_setCell w ⟨g, o, none⟩ v k hn⟩

set_option maxRecDepth 100000 in
theorem phase_any (g : Nat) (s : Sy) (w : World) (h : w.heap[g]? = some (syblk s)) : Calls Try.prog 36 #[.pointer (some ⟨g, 0, none⟩)] w fun e w' => e = .returned (.int .i64 s.phase) ∧ Below w.heap.size w w' := by
  have c : w.cell? ⟨g, 218, none⟩ = some (.int .i64 s.phase) := seg_cell (S := syS s) (k := 4) h rfl (sy_o s).2.2.2.2.1
  have B := Lib.hid (Below.refl w.heap.size w)
  clear h
  go_enter Try.func36, Try.ntmps36
  go_wp2_with fail
  go_ret
  exact ⟨rfl, B.out⟩
set_option maxRecDepth 100000 in
theorem reason_any (g : Nat) (s : Sy) (w : World) (h : w.heap[g]? = some (syblk s)) : Calls Try.prog 41 #[.pointer (some ⟨g, 0, none⟩)] w fun e w' => e = .returned (.int .i64 s.reason) ∧ Below w.heap.size w w' := by
  have c : w.cell? ⟨g, 330, none⟩ = some (.int .i64 s.reason) := seg_cell (S := syS s) (k := 9) h rfl (sy_o s).2.2.2.2.2.2.2.2.2
  have B := Lib.hid (Below.refl w.heap.size w)
  clear h
  go_enter Try.func41, Try.ntmps41
  go_wp2_with fail
  go_ret
  exact ⟨rfl, B.out⟩
set_option maxRecDepth 100000 in
set_option maxHeartbeats 4000000 in
theorem last_any (g : Nat) (s : Sy) (w : World) (h : w.heap[g]? = some (syblk s)) : Calls Try.prog 38 #[.pointer (some ⟨g, 0, none⟩)] w fun e w' => e = .returned (iv s.last.id) ∧ Below w.heap.size w w' := by
  have K := Lib.hid (keep_alloc (iblk 0) h)
  have KR := Lib.hid (heap_new w (iblk 0))
  have B := Lib.hid (below_alloc (Below.refl w.heap.size w) (iblk 0))
  have HR := Lib.hid (range_seg (S := ndS s.last) (k := 1) (seg_range (S := syS s) (k := 5) K.out rfl (sy_o s).2.2.2.2.2.1) rfl (nd_o1 s.last))
  have ez := iblk_lit
  clear h
  go_enter Try.func38, Try.ntmps38
  go_wp2_with (first | refine ld_id rfl (.tmp 6) rfl g 287 s.last.id rfl HR.out ?_ | refine wpList_store_id rfl (.tmp 2) (.tmp 7) rfl w.heap.size 0 _ rfl rfl KR.out (fun w3 h1 h2 h3 h4 => ?_))
  have hl := loadVar_id h1
  exact bodyPost_ret (v := iv s.last.id) (by simp [results, Try.results38, Act.put, asAddr, hl]) rfl ⟨rfl, h4 _ _ (Nat.le_refl _) B.out⟩
set_option maxRecDepth 100000 in
set_option maxHeartbeats 4000000 in
theorem size_any (g : Nat) (s : Sy) (w : World) (h : w.heap[g]? = some (syblk s)) (xb xr : Option Addr) (nb nr cb cr : Nat) (hb : s.bits = .slice xb nb cb) (hr : s.ready = .slice xr nr cr) (hnb : nb ≤ 1000000) (hnr : nr ≤ 1000000) :
    Calls Try.prog 50 #[.pointer (some ⟨g, 0, none⟩)] w fun e w' => e = .returned (.int .i64 (nb + nr : Nat)) ∧ Below w.heap.size w w' := by
  have K := Lib.hid h
  have B := Lib.hid (Below.refl w.heap.size w)
  have HC : Hid (∀ W : World, W.heap[g]? = some (syblk s) → W.cell? ⟨g, 328, none⟩ = some (.slice xb nb cb) ∧ W.cell? ⟨g, 329, none⟩ = some (.slice xr nr cr)) := Lib.hid fun W hW => ⟨by rw [← hb]; exact seg_cell (S := syS s) (k := 7) hW rfl (sy_o s).2.2.2.2.2.2.2.1, by rw [← hr]; exact seg_cell (S := syS s) (k := 8) hW rfl (sy_o s).2.2.2.2.2.2.2.2.1⟩
  clear h hb hr
  go_enter Try.func50, Try.ntmps50
  go_wp2_with fail
  refine wp_region_by [Is (.pointer (some ⟨g, 0, none⟩)), Is (.pointer (some ⟨g, 0, none⟩)), Is (.pointer (some ⟨g, 328, none⟩)), Is (.slice xb nb cb), Is (.int .i64 nb), Is (.pointer (some ⟨g, 0, none⟩)), Is (.pointer (some ⟨g, 0, none⟩)), Is (.pointer (some ⟨g, 329, none⟩)), Is (.slice xr nr cr), Is (.int .i64 nr), Is (.int .i64 (nb + nr : Nat)), Is (.int .i64 (nb + nr : Nat))] [[], [(0, some 3)], [(1, some 4)], [(2, some 5)], [(3, some 6)], [], [(5, some 8)], [(6, some 9)], [(7, some 10)], [(8, some 11)], [(4, some 7), (9, some 12)], [(10, some 13)]] [(0, some 3), (1, some 4), (2, some 5), (3, some 6), (4, some 7), (5, some 8), (6, some 9), (7, some 10), (8, some 11), (9, some 12), (10, some 13), (11, some 2)] [0, 1, 3, 7, 15, 0, 32, 96, 224, 480, 1023, 2047]
    (by kernel_rfl) (by kernel_rfl) (by kernel_rfl) (by kernel_rfl) ⟨Is.kept _, Is.kept _, Is.kept _, Is.kept _, Is.kept _, Is.kept _, Is.kept _, Is.kept _, Is.kept _, Is.kept _, Is.kept _, Is.kept _, trivial⟩ ⟨?_, ?_, ?_, ?_, ?_, ?_, ?_, ?_, ?_, ?_, ?_, ?_, trivial⟩ ?_
  · as_aux_lemma =>
    refine fun w' hB => ?_
    show wpList _ _ _ _ _ _
    go_wp2_with fail
    exact ⟨.pointer (some ⟨g, 0, none⟩), by first | rfl | (go_simp; done), rfl, Below.refl _ _⟩
  · as_aux_lemma =>
    refine fun w' hB v0 h0 => ?_
    obtain rfl := h0
    show wpList _ _ _ _ _ _
    go_wp2_with fail
    exact ⟨.pointer (some ⟨g, 0, none⟩), by first | rfl | (go_simp; done), rfl, Below.refl _ _⟩
  · as_aux_lemma =>
    refine fun w' hB v1 h1 => ?_
    obtain rfl := h1
    show wpList _ _ _ _ _ _
    go_wp2_with fail
    exact ⟨.pointer (some ⟨g, 328, none⟩), by first | rfl | (go_simp; done), rfl, Below.refl _ _⟩
  · as_aux_lemma =>
    refine fun w' hB v2 h2 => ?_
    obtain rfl := h2
    show wpList _ _ _ _ _ _
    have c := (HC.out w' (block_keep hB K.out)).1
    go_wp2_with fail
    exact ⟨_, rfl, rfl, Below.refl _ _⟩
  · as_aux_lemma =>
    refine fun w' hB v3 h3 => ?_
    obtain rfl := h3
    show wpList _ _ _ _ _ _
    go_wp2_with fail
    exact ⟨.int .i64 nb, by first | rfl | (go_simp; done), rfl, Below.refl _ _⟩
  · as_aux_lemma =>
    refine fun w' hB => ?_
    show wpList _ _ _ _ _ _
    go_wp2_with fail
    exact ⟨.pointer (some ⟨g, 0, none⟩), by first | rfl | (go_simp; done), rfl, Below.refl _ _⟩
  · as_aux_lemma =>
    refine fun w' hB v5 h5 => ?_
    obtain rfl := h5
    show wpList _ _ _ _ _ _
    go_wp2_with fail
    exact ⟨.pointer (some ⟨g, 0, none⟩), by first | rfl | (go_simp; done), rfl, Below.refl _ _⟩
  · as_aux_lemma =>
    refine fun w' hB v6 h6 => ?_
    obtain rfl := h6
    show wpList _ _ _ _ _ _
    go_wp2_with fail
    exact ⟨.pointer (some ⟨g, 329, none⟩), by first | rfl | (go_simp; done), rfl, Below.refl _ _⟩
  · as_aux_lemma =>
    refine fun w' hB v7 h7 => ?_
    obtain rfl := h7
    show wpList _ _ _ _ _ _
    have c := (HC.out w' (block_keep hB K.out)).2
    go_wp2_with fail
    exact ⟨_, rfl, rfl, Below.refl _ _⟩
  · as_aux_lemma =>
    refine fun w' hB v8 h8 => ?_
    obtain rfl := h8
    show wpList _ _ _ _ _ _
    go_wp2_with fail
    exact ⟨.int .i64 nr, by first | rfl | (go_simp; done), rfl, Below.refl _ _⟩
  · as_aux_lemma =>
    refine fun w' hB v4 h4 v9 h9 => ?_
    obtain rfl := h4
    obtain rfl := h9
    show wpList _ _ _ _ _ _
    go_wp2_with fail
    exact ⟨.int .i64 (nb + nr : Nat), by first | rfl | (go_simp; done), rfl, Below.refl _ _⟩
  · as_aux_lemma =>
    refine fun w' hB v10 h10 => ?_
    obtain rfl := h10
    show wpList _ _ _ _ _ _
    go_wp2_with fail
    exact ⟨.int .i64 (nb + nr : Nat), by first | rfl | (go_simp; done), rfl, Below.refl _ _⟩
  · refine fun w' hB v0 h0 v1 h1 v2 h2 v3 h3 v4 h4 v5 h5 v6 h6 v7 h7 v8 h8 v9 h9 v10 h10 v11 h11 => ?_
    obtain rfl := h11
    simp only [onP]
    go_simp
    clear h0 h1 h2 h3 h4 h5 h6 h7 h8 h9 h10
    have BF := Lib.hid (below_next B.out hB)
    clear hB K B
    go_wp2_with fail
    go_ret
    exact ⟨rfl, BF.out⟩
set_option maxRecDepth 100000 in
theorem marked_any (g : Nat) (s : Sy) (x : Nat) (hx : x < 9223372036854775808) (w : World) (h : w.heap[g]? = some (syblk s)) : Calls Try.prog 121 #[.pointer (some ⟨g, 0, none⟩), .int .i64 (x : Int)] w fun e w' => e = .returned (.bool (decide (x % 4 = s.salt % 256 % 4))) ∧ Below w.heap.size w w' := by
  have c : w.cell? ⟨g, 74, none⟩ = some (.int .u8 (s.salt % 256 : Nat)) := by rw [← show lb s.salt 0 = ((s.salt % 256 : Nat) : Int) from by simp [lb]]; exact seg_range (S := syS s) (k := 1) h rfl (sy_o s).2.1 0 _ (ids_get s.salt 0 (by omega))
  have B := Lib.hid (Below.refl w.heap.size w)
  clear h
  go_enter Try.func121, Try.ntmps121
  go_wp2_with fail
  go_ret
  refine ⟨congrArg (fun b => Ending.returned (.bool b)) ?_, B.out⟩
  rw [Bool.eq_iff_iff, beq_iff_eq, decide_eq_true_eq]
  omega
set_option maxRecDepth 100000 in
set_option maxHeartbeats 4000000 in
theorem fail_any (g : Nat) (s : Sy) (e : Nat) (w : World) (h : w.heap[g]? = some (syblk s)) : Calls Try.prog 87 #[.pointer (some ⟨g, 0, none⟩), .int .i64 (e : Int)] w fun e' w' => (∃ v, e' = .returned v) ∧ w'.heap[g]? = some (syblk { s with phase := 4, reason := e, bits := .slice none 0 0, ready := .slice none 0 0 }) ∧ Gr (fun k => k = g) w w' := by
  have K := Lib.hid h
  have f : ∀ o, w.frozen? ⟨g, o, none⟩ = false := fun o => frozen_of_row _ _ _ _ _ h
  have f1 := f 218; have f2 := f 330; have f3 := f 328; have f4 := f 329
  have c1 : w.cell? ⟨g, 218, none⟩ = some (.int .i64 s.phase) := seg_cell (S := syS s) (k := 4) h rfl (sy_o s).2.2.2.2.1
  have c2 : w.cell? ⟨g, 330, none⟩ = some (.int .i64 s.reason) := seg_cell (S := syS s) (k := 9) h rfl (sy_o s).2.2.2.2.2.2.2.2.2
  have c3 : w.cell? ⟨g, 328, none⟩ = some s.bits := seg_cell (S := syS s) (k := 7) h rfl (sy_o s).2.2.2.2.2.2.2.1
  have c4 : w.cell? ⟨g, 329, none⟩ = some s.ready := seg_cell (S := syS s) (k := 8) h rfl (sy_o s).2.2.2.2.2.2.2.2.1
  clear h f
  go_enter Try.func87, Try.ntmps87
  go_wp2_with fail
  refine bodyPost_end (v := .tuple #[]) (by simp [results]) rfl ⟨⟨_, rfl⟩, ?_, ?_⟩
  · have h1 := seg_write1 (S := syS s) (k := 4) K.out rfl (sy_o s).2.2.2.2.1 (.int .i64 4)
    have h2 := seg_write1 (k := 9) h1 rfl (sy_o { s with phase := 4 }).2.2.2.2.2.2.2.2.2 (.int .i64 (e : Int))
    have h3 := seg_write1 (k := 7) h2 rfl (sy_o { s with phase := 4, reason := e }).2.2.2.2.2.2.2.1 (.slice none 0 0)
    exact seg_write1 (k := 8) h3 rfl (sy_o { s with phase := 4, reason := e, bits := .slice none 0 0 }).2.2.2.2.2.2.2.2.1 (.slice none 0 0)
  · exact (((Gr.setCell _ _ _ _).trans (Gr.setCell _ _ _ _) (fun _ _ e => e)).trans (Gr.setCell _ _ _ _) (fun _ _ e => e)).trans (Gr.setCell _ _ _ _) (fun _ _ e => e)
theorem sum_two (v v2 : Value) (l l2 : List Nat) (g : Nat) (t : TypeId) (c : Nat) (w : World) (h : w.heap[g]? = some (.cells #[v, v2] t (0, 0))) (hv : BytesAt w v l) (hv2 : BytesAt w v2 l2) (hb : ∀ y ∈ l, y < 256) (hb2 : ∀ y ∈ l2, y < 256) (hlen : l.length + l2.length ≤ 100000) :
    Calls Try.prog 52 #[.slice (some ⟨g, 0, none⟩) 2 c] w fun e w' => e = .returned (iv (sha (l ++ l2))) ∧ Below w.heap.size w w' := by
  have := sum_any (some ⟨g, 0, none⟩) c [l, l2] (by intro y hy; simp at hy; exact hy.elim (hb y) (hb2 y)) (by simpa using hlen) (by simp) w (parts_two h hv hv2)
  simpa using this
/-- a bit of a header -/
def hbit (salt id : Nat) : Bool := decide (sha (idb salt ++ idb id) % 2 = 1)
set_option maxRecDepth 100000 in
set_option maxHeartbeats 4000000 in
theorem bit_any (s d : Nat) (w : World) : Calls Try.prog 40 #[iv s, iv d] w fun e w' => e = .returned (.bool (hbit s d)) ∧ Below w.heap.size w w' := by
  have K1 := Lib.hid (keep_alloc (iblk d) (heap_new w (iblk s)))
  have K2 : Hid (((w.alloc (iblk s)).alloc (iblk d)).heap[w.heap.size + 1]? = some (iblk d)) := Lib.hid (heap_new_at (by simp))
  have B := Lib.hid (below_alloc (below_alloc (Below.refl w.heap.size w) (iblk s)) (iblk d))
  have ez := iblk_lit
  go_enter Try.func40, Try.ntmps40
  obtain ⟨X, hX⟩ : ∃ X, X = sha (idb s ++ idb d) := ⟨_, rfl⟩
  have hR : hbit s d = decide (X % 2 = 1) := by rw [hX]; rfl
  rw [hR]
  clear hR
  have HX := Lib.hid hX
  clear hX
  go_wp2_with fail
  obtain ⟨W, hW⟩ : ∃ W, W = (w.alloc (.cells (ids s).toArray 24)).alloc (.cells (ids d).toArray 24) := ⟨_, rfl⟩
  rw [← hW]
  have K1 : Hid (W.heap[w.heap.size]? = some (iblk s)) := hW ▸ K1
  have K2 : Hid (W.heap[w.heap.size + 1]? = some (iblk d)) := hW ▸ K2
  have B : Hid (Below w.heap.size w W) := hW ▸ B
  obtain ⟨g, hg⟩ : ∃ g, g = w.heap.size := ⟨_, rfl⟩
  rw [← hg] at K1 K2
  rw [← hg]
  clear hg hW
  have ct := Lib.hid fun (V : World) g2 (hg : V.heap[g2]? = some (.cells #[.slice (some ⟨g, 0, none⟩) 32 32, .slice (some ⟨g + 1, 0, none⟩) 32 32] 27 (0, 0))) (hb : Below W.heap.size W V) =>
    sum_two _ _ (idb s) (idb d) g2 27 2 V hg (idb_at (block_keep hb K1.out) 32) (idb_at (block_keep hb K2.out) 32) (idb_byte s) (idb_byte d) (by rw [idb_len, idb_len]; omega)
  rw [show sha (idb s ++ idb d) = X from HX.out.symm] at ct
  clear HX
  refine wp_region_new 5 (fun j => decide (j = 2) || decide (j = 4)) [Is (.slice (some ⟨g, 0, none⟩) 32 32), Is (.slice (some ⟨g + 1, 0, none⟩) 32 32), RowOf #[.slice (some ⟨g, 0, none⟩) 32 32, .slice (some ⟨g + 1, 0, none⟩) 32 32] 27 2 2, Is (iv X), BoxOf (iblk 0)] [[], [], [(0, some 6), (1, some 7)], [(2, some 8)], [], [(3, some 9), (4, some 5)]] [(0, some 6), (1, some 7), (2, some 8), (3, some 9), (4, some 5)] [0, 0, 3, 7, 0, 31]
    (by kernel_rfl) (by kernel_rfl) (by kernel_rfl) (by kernel_rfl) (by kernel_rfl) ⟨Is.kept _, Is.kept _, RowOf.kept _ _ _ _, Is.kept _, BoxOf.kept _, trivial⟩ ⟨?_, ?_, ?_, ?_, ?_, trivial⟩ ?_
  · as_aux_lemma =>
    refine fun w' hB => ?_
    show wpList _ _ _ _ _ _
    go_wp2_with fail
    exact ⟨.slice (some ⟨g, 0, none⟩) 32 32, by first | rfl | (go_simp; done), rfl, Below.refl _ _, fun h => absurd h (by decide)⟩
  · as_aux_lemma =>
    refine fun w' hB => ?_
    show wpList _ _ _ _ _ _
    go_wp2_with fail
    exact ⟨.slice (some ⟨g + 1, 0, none⟩) 32 32, by first | rfl | (go_simp; done), rfl, Below.refl _ _, fun h => absurd h (by decide)⟩
  · as_aux_lemma =>
    refine fun w' hB v0 h0 v1 h1 => ?_
    obtain rfl := h0
    obtain rfl := h1
    show wpList _ _ _ _ _ _
    go_wp2_with fail
    exact ⟨_, rfl, ⟨_, rfl, heap_new _ _⟩, below_alloc (Below.refl _ _) _, fun _ => ⟨_, rfl, Nat.le_refl _, by simp⟩⟩
  · as_aux_lemma =>
    refine fun w' hB v2 h2 => ?_
    obtain ⟨g2, rfl, hg2⟩ := h2
    show wpList _ _ _ _ _ _
    go_wp2_with fail
    refine (ct.out _ _ hg2 hB).mono ?_
    rintro e w2 ⟨rfl, hb2⟩
    go_wp2_with fail
    exact ⟨iv X, by first | rfl | (go_simp; done), rfl, hb2, fun h => absurd h (by decide)⟩
  · as_aux_lemma =>
    refine fun w' hB => ?_
    show wpList _ _ _ _ _ _
    go_wp2_with fail
    exact ⟨_, rfl, ⟨_, rfl, heap_new _ _⟩, below_alloc (Below.refl _ _) _, fun _ => ⟨_, rfl, Nat.le_refl _, by simp⟩⟩
  · refine fun w' G hB hN1 hN2 v0 h0 v1 h1 v2 h2 v3 h3 v4 h4 => ?_
    replace h0 := h0.1
    replace h1 := h1.1
    obtain ⟨h2, hG2⟩ := h2; replace hG2 := hG2 (by decide)
    replace h3 := h3.1
    obtain ⟨h4, hG4⟩ := h4; replace hG4 := hG4 (by decide)
    have hW2 := hN1 2 (by decide) (by decide)
    have hW4 := hN1 4 (by decide) (by decide)
    have hD2_4 := hN2 2 4 (by decide) (by decide) (by decide) (by decide) (by decide)
    clear hN1 hN2
    obtain ⟨g2, rfl, hg2⟩ := h2
    obtain rfl := h3
    obtain ⟨g4, rfl, hg4⟩ := h4
    obtain ⟨gn2, en2, hge2, hlt2⟩ := hW2
    obtain rfl := Option.some.inj (hG2.trans en2)
    obtain ⟨gn4, en4, hge4, hlt4⟩ := hW4
    obtain rfl := Option.some.inj (hG4.trans en4)
    have hne2_4 := fun e => hD2_4 (en2.trans ((congrArg some e).trans en4.symm))
    dsimp only at hge2 hlt2 hge4 hlt4 hne2_4
    clear en2 en4
    simp only [onP, List.drop_succ_cons, List.drop_zero]
    go_simp
    clear h0 h1
    have B2 := Lib.hid (below_next B.out hB)
    have hz := B2.out.size
    have hge : w.heap.size ≤ g4 := by have := B.out.size; omega
    clear hB B K1 K2 ct
    have hc : ∀ V : World, V.heap[g4]? = some (iblk X) → V.cell? ⟨g4, 0, none⟩ = some (.int .u8 (X % 256 : Nat)) := fun V hV => by
      rw [← show lb X 0 = ((X % 256 : Nat) : Int) from by simp [lb]]
      exact (cell_of_row _ _ _ _ _ _ hV).trans (by rw [List.getElem?_toArray, ids_get X 0 (by omega)])
    have HC := Lib.hid hc
    clear hc
    go_wp2_with (first | (refine wpList_store_id rfl (.tmp 5) (.tmp 9) rfl g4 0 X rfl rfl hg4 (fun w3 h1 h2 h3 h4 => ?_); have c0 := HC.out _ h1; have B3 := Lib.hid (h4 w.heap.size w hge B2.out); clear h1 h2 h3 h4 B2))
    go_ret
    refine ⟨congrArg (fun b => Ending.returned (.bool b)) ?_, B3.out⟩
    have hall : ∀ y : Nat, y < 256 → (bits BinOp.and IntKind.u8 (y : Int) 1 == 1) = decide (y % 2 = 1) := by decide
    have := hall (X % 256) (by omega)
    rw [show ((X % 256 : Nat) : Int) = (X : Int) % 256 by omega] at this
    rw [this, show X % 256 % 2 = X % 2 by omega]
end Go.Proofs.Ytnbppbnjkmopeaa
namespace Go.Proofs.Ytnbppbnjkmopeaa
open Go.RowKit

theorem st_one {ops : Array Oper} {rest : List Oper} {op : Oper} {a : Act} {w : World} {Q : Exit → Act → World → Prop} (hgd : op.guard = none) (ty : TypeId) (x y : Operand) (ho : op.op = .store ty x y) (g k o : Nat) (S : List (List Value)) (t : TypeId) (u v : Value)
    (hx : a.eval x = .pointer (some ⟨g, o, none⟩)) (hy : a.eval y = v) (hb : w.heap[g]? = some (.cells S.flatten.toArray t (0, 0))) (hk : S[k]? = some [u]) (hso : sgo S k = o) (hi : (Try.prog.info? ty).map (·.size) = some 1) (h1 : v.oneCell' = true)
    (h : ∀ w', w'.heap[g]? = some (.cells (S.set k [v]).flatten.toArray t (0, 0)) → (∀ b, b ≠ g → w'.heap[b]? = w.heap[b]?) → w'.heap.size = w.heap.size → (∀ B u, B ≤ g → Below B u w → Below B u w') → wpList Try.prog ops Q rest (a.put op.dst undef) w') :
    wpList Try.prog ops Q (op :: rest) a w := by
  refine wpList_plain hgd fun K hK => ?_
  have ht := seg_there hb hk hso
  have hr := run_storeCells_cells (P := Try.prog) g o [v] 0 w (fun j hj => by simpa using (ht j (by simpa using hj)).1) (fun j hj => by simpa using (ht j (by simpa using hj)).2) (fun z hz => by simp at hz; subst hz; exact h1)
  have hc : v.cells = #[v] := by cases v <;> first | rfl | cases h1
  have hs : (storeVar ty ⟨g, o, none⟩ v).run Try.prog w = .ok () (w.setCells g o [v]) := by
    cases hq : Try.prog.info? ty with
    | none => simp [hq] at hi
    | some i =>
      have hz : i.size = 1 := by simpa [hq] using hi
      simp only [Nat.add_zero] at hr
      simp [storeVar, sizeOf, typeInfo, hq, hc, hz, hr]
  unfold Oper.wp execOp
  simp only [ho, hx, hy, Instr.storeAt, Instr.sureAddr, Sem.run_bind, Sem.run_pure, Result.andThen_ok, hs]
  exact hK _ _ (h _ (seg_write hb hk hso [v] rfl) (fun b hne => heap_setCells_far g _ _ _ b hne) (size_setCells_id g _ _ _) fun B u hB hu => below_setCells_id g hB _ _ _ hu)
theorem Gr.of_st {g : Nat} {w w' : World} (h2 : ∀ b, b ≠ g → w'.heap[b]? = w.heap[b]?) (h4 : ∀ B u, B ≤ g → Below B u w → Below B u w') : Gr (fun k => k = g) w w' :=
  have b := h4 0 w (Nat.zero_le _) (Below.refl 0 w)
  ⟨b.os, b.tape, b.output, b.size, fun k _ hn => h2 k hn⟩

/-- the headers asked for twice -/
structure Ps where (rules : Rl) (salt need : Nat) (start : Nd) (phase : Nat) (last : Nd) (at' : Nat) (bits : List Bool) (ready : List Hd) (reason : Nat)
def Ps.sy (p : Ps) (vb vr : Value) : Sy := ⟨p.rules, p.salt, p.need, p.start, p.phase, p.last, p.at', vb, vr, p.reason⟩
structure PsIs (w : World) (g : Nat) (vb vr : Value) (p : Ps) : Prop where
  blk : w.heap[g]? = some (syblk (p.sy vb vr))
  bits : OwnsB w 0 vb p.bits
  ready : OwnsH w 0 vr p.ready
/-- the blocks that are its own -/
def psD (g : Nat) (vb vr : Value) : Nat → Prop := fun k => k = g ∨ vb.ownBlock = some k ∨ vr.ownBlock = some k
theorem PsIs.nb {w : World} {g : Nat} {vb vr : Value} {p : Ps} (h : PsIs w g vb vr p) : vb.ownBlock ≠ some g := own_ne_obj h.bits h.blk (by decide)
theorem PsIs.nr {w : World} {g : Nat} {vb vr : Value} {p : Ps} (h : PsIs w g vb vr p) : vr.ownBlock ≠ some g := own_ne_obj h.ready h.blk (by decide)
theorem PsIs.keep {w w' : World} {g : Nat} {vb vr : Value} {p : Ps} (h : PsIs w g vb vr p) (hb : Below w.heap.size w w') : PsIs w' g vb vr p := ⟨block_keep hb h.blk, h.bits.keep hb, h.ready.keep hb⟩
/-- the block itself is changed, not its rows -/
theorem PsIs.to {w w' : World} {g : Nat} {vb vr : Value} {p q : Ps} (h : PsIs w g vb vr p) (hk : w'.heap[g]? = some (syblk (q.sy vb vr))) (hg : Gr (fun k => k = g) w w') (e1 : q.bits = p.bits) (e2 : q.ready = p.ready) : PsIs w' g vb vr q :=
  ⟨hk, e1 ▸ h.bits.gr hg (fun _ hk e => h.nb (e ▸ hk)), e2 ▸ h.ready.gr hg (fun _ hk e => h.nr (e ▸ hk))⟩
def failP (p : Ps) (e : Nat) : Ps := { p with phase := 4, reason := e, bits := [], ready := [] }
theorem psfail_any (g : Nat) (vb vr : Value) (p : Ps) (e : Nat) (w : World) (h : PsIs w g vb vr p) : Calls Try.prog 87 #[.pointer (some ⟨g, 0, none⟩), .int .i64 (e : Int)] w fun e' w' => (∃ v, e' = .returned v) ∧ PsIs w' g (.slice none 0 0) (.slice none 0 0) (failP p e) ∧ Gr (fun k => k = g) w w' :=
  (fail_any g (p.sy vb vr) e w h.blk).mono fun _ _ ⟨h1, h2, h3⟩ => ⟨h1, ⟨h2, OwnsB.nil _ _, OwnsH.nil _ _⟩, h3⟩
def cntF (q : Ps) (x : Nd) : Ps := if q.need ≤ x.work then { q with phase := 2, last := q.start } else q
def countP (p : Ps) (x : Nd) (k : Nat) : Ps := if k % 4 = p.salt % 256 % 4 then (if p.bits.length = 256 then failP { p with last := x } 2 else cntF { p with last := x, bits := p.bits ++ [hbit p.salt x.id] } x) else cntF { p with last := x } x
/-- what a call on it leaves -/
def PsTo (w w' : World) (g : Nat) (vb vr : Value) (q : Ps) : Prop := ∃ vb' vr', PsIs w' g vb' vr' q ∧ Gr (psD g vb vr) w w' ∧ (∀ k, psD g vb' vr' k → psD g vb vr k ∨ w.heap.size ≤ k)
end Go.Proofs.Ytnbppbnjkmopeaa
