/- head: a header's value, its block; put4. No condition. head.Bytes: a header's bytes. No condition. -/
import Derived.Test.YtnbppbnjkmopeaaHash2
import Derived.Test.YtnbppbnjkmopeaaReg
import Derived.OwnWalk
namespace Go.Proofs.Ytnbppbnjkmopeaa
open Go.RowKit

/-- a header -/
structure Hd where (v p r t b n : Nat)
def Hd.ok (h : Hd) : Prop := h.v < 4294967296 ∧ h.p < 2 ^ 256 ∧ h.r < 2 ^ 256 ∧ h.t < 4294967296 ∧ h.b < 4294967296 ∧ h.n < 4294967296
def hdcs (h : Hd) : List Value := .int .u32 (h.v : Int) :: (ids h.p ++ (ids h.r ++ [.int .u32 (h.t : Int), .int .u32 (h.b : Int), .int .u32 (h.n : Int)]))
abbrev hdv (h : Hd) : Value := .agg (hdcs h).toArray
def hdblk (h : Hd) : Obj := .cells (hdcs h).toArray 26 (0, 0)
theorem hdcs_len (h : Hd) : (hdcs h).length = 68 := by
  unfold hdcs
  rw [List.length_cons, List.length_append, List.length_append, ids_len, ids_len]; rfl
theorem hdcs_v (h : Hd) : (hdcs h)[0]? = some (.int .u32 (h.v : Int)) := rfl
theorem hdcs_p (h : Hd) (j : Nat) (hj : j < 32) : (hdcs h)[1 + j]? = some (.int .u8 (lb h.p j)) := by
  unfold hdcs
  rw [show 1 + j = j + 1 by omega, List.getElem?_cons_succ, List.getElem?_append_left (by rw [ids_len]; exact hj), ids_get _ _ hj]
theorem hdcs_r (h : Hd) (j : Nat) (hj : j < 32) : (hdcs h)[33 + j]? = some (.int .u8 (lb h.r j)) := by
  unfold hdcs
  rw [show 33 + j = (32 + j) + 1 by omega, List.getElem?_cons_succ, List.getElem?_append_right (by rw [ids_len]; omega), ids_len, show 32 + j - 32 = j by omega, List.getElem?_append_left (by rw [ids_len]; exact hj), ids_get _ _ hj]
theorem hdcs_t (h : Hd) : (hdcs h)[65]? = some (.int .u32 (h.t : Int)) := by
  unfold hdcs
  rw [List.getElem?_cons_succ, List.getElem?_append_right (by rw [ids_len]; omega), ids_len, List.getElem?_append_right (by rw [ids_len]; omega), ids_len]; rfl
theorem hdcs_b (h : Hd) : (hdcs h)[66]? = some (.int .u32 (h.b : Int)) := by
  unfold hdcs
  rw [List.getElem?_cons_succ, List.getElem?_append_right (by rw [ids_len]; omega), ids_len, List.getElem?_append_right (by rw [ids_len]; omega), ids_len]; rfl
theorem hdcs_n (h : Hd) : (hdcs h)[67]? = some (.int .u32 (h.n : Int)) := by
  unfold hdcs
  rw [List.getElem?_cons_succ, List.getElem?_append_right (by rw [ids_len]; omega), ids_len, List.getElem?_append_right (by rw [ids_len]; omega), ids_len]; rfl
theorem hd_cell {w : World} {g : Nat} {h : Hd} (hg : w.heap[g]? = some (hdblk h)) (j : Nat) : w.cell? ⟨g, j, none⟩ = (hdcs h)[j]? := by
  rw [cell_of_row _ _ _ _ _ _ hg, List.getElem?_toArray]

theorem hd_range {w : World} {g : Nat} {h : Hd} (hg : w.heap[g]? = some (hdblk h)) : w.rangeAt g 0 (hdcs h) := fun j v hv => by
  rw [Nat.zero_add, hd_cell hg]; exact hv
theorem hdcs_one (h : Hd) : ∀ v ∈ hdcs h, v.oneCell' = true := fun v hv => by
  have ho : ∀ n, ∀ v ∈ ids n, v.oneCell' = true := fun n v hv => by
    simp only [ids, List.mem_map] at hv
    obtain ⟨i, _, rfl⟩ := hv
    rfl
  simp only [hdcs, List.mem_cons, List.mem_append, List.not_mem_nil, or_false] at hv
  rcases hv with rfl | hv | hv | rfl | rfl | rfl
  · rfl
  · exact ho _ v hv
  · exact ho _ v hv
  · rfl
  · rfl
  · rfl
theorem hd_there {w : World} {g : Nat} {h : Hd} (hg : w.heap[g]? = some (hdblk h)) : w.there g 0 68 := fun j hj => by
  refine ⟨?_, frozen_of_row _ _ _ _ _ hg⟩
  rw [Nat.zero_add, hd_cell hg, List.getElem?_eq_getElem (by rw [hdcs_len]; exact hj)]; rfl
theorem hd_row : (Try.prog.underlying 26).map (·.isRow) = some true := by kernel_rfl
theorem hdz : Try.zeroCells26 = (hdcs ⟨0, 0, 0, 0, 0, 0⟩).toArray := by kernel_rfl
theorem wpList_load_hd {ops : Array Oper} {rest : List Oper} {op : Oper} {a : Act} {w : World} {Q : Exit → Act → World → Prop} (hgd : op.guard = none) (x : Operand) (ho : op.op = .load 26 x)
    (g : Nat) (n : Hd) (hx : a.eval x = .pointer (some ⟨g, 0, none⟩)) (hb : w.heap[g]? = some (hdblk n)) (h : wpList Try.prog ops Q rest (a.put op.dst (hdv n)) w) : wpList Try.prog ops Q (op :: rest) a w := by
  obtain ⟨d, hu, hd⟩ := Option.map_eq_some_iff.1 hd_row
  exact wpList_load_mid hgd 26 x ho g 0 hx (hdcs n) d (hd_range hb) hu hd (by rw [hdcs_len]; kernel_rfl) h
theorem wpList_store_hd {ops : Array Oper} {rest : List Oper} {op : Oper} {a : Act} {w : World} {Q : Exit → Act → World → Prop} (hgd : op.guard = none) (x y : Operand) (ho : op.op = .store 26 x y)
    (g : Nat) (m n : Hd) (hx : a.eval x = .pointer (some ⟨g, 0, none⟩)) (hy : a.eval y = hdv n) (hb : w.heap[g]? = some (hdblk m))
    (h : ∀ w', w'.heap[g]? = some (hdblk n) → (∀ b, b ≠ g → w'.heap[b]? = w.heap[b]?) → w'.heap.size = w.heap.size → (∀ B u, B ≤ g → Below B u w → Below B u w') → wpList Try.prog ops Q rest (a.put op.dst undef) w') :
    wpList Try.prog ops Q (op :: rest) a w := by
  refine wpList_store_mid hgd 26 x y ho g 0 (hdcs n).toArray hx hy ?_ (by rw [List.size_toArray, hdcs_len]; kernel_rfl) ?_ (h _ ?_ (fun b hne => heap_setCells_far g _ _ _ b hne) (size_setCells_id g _ _ _) fun B u hB hu => below_setCells_id g hB _ _ _ hu)
  · rw [List.size_toArray, hdcs_len]; exact hd_there hb
  · exact all_oneCell_toArray (hdcs_one n)
  · exact heap_setCells_row g 26 (hdcs n) (hdcs m) [] w (by rw [hdcs_len, hdcs_len]) hb
theorem loadVar_hd {w : World} {g : Nat} {n : Hd} (h : w.heap[g]? = some (hdblk n)) : (loadVar 26 ⟨g, 0, none⟩).run Try.prog w = .ok (hdv n) w := by
  obtain ⟨d, hu, hd⟩ := Option.map_eq_some_iff.1 hd_row
  exact run_loadVar_mid w g 0 26 (hdcs n) d (hd_range h) hu hd (by rw [hdcs_len]; kernel_rfl)

theorem built_hd (h : Hd) : Try.prog.built 26 [(0, .int .u32 (h.v : Int)), (1, iv h.p), (2, iv h.r), (3, .int .u32 (h.t : Int)), (4, .int .u32 (h.b : Int)), (5, .int .u32 (h.n : Int))] = some (hdcs h).toArray := by kernel_rfl
theorem wpList_build_of {ops : Array Oper} {rest : List Oper} {o : Oper} {a : Act} {w : World} {Q : Exit → Act → World → Prop} (hg : o.guard = none) (t : TypeId) (parts : Array (Nat × Operand)) (ho : o.op = .build t parts) (cs : Array Value)
    (hf : Try.prog.built t (parts.map fun (i, x) => (i, a.eval x)).toList = some cs) (h : wpList Try.prog ops Q rest (a.put o.dst (.agg cs)) w) : wpList Try.prog ops Q (o :: rest) a w :=
  wpList_build hg t parts ho (by rw [hf]; rfl) (by rw [hf]; exact h)
theorem wpList_build_hd {ops : Array Oper} {rest : List Oper} {o : Oper} {a : Act} {w : World} {Q : Exit → Act → World → Prop} (hg : o.guard = none) (x0 x1 x2 x3 x4 x5 : Operand) (ho : o.op = .build 26 #[(0, x0), (1, x1), (2, x2), (3, x3), (4, x4), (5, x5)]) (v p r t b n : Nat)
    (h0 : a.eval x0 = .int .u32 (v : Int)) (h1 : a.eval x1 = iv p) (h2 : a.eval x2 = iv r) (h3 : a.eval x3 = .int .u32 (t : Int)) (h4 : a.eval x4 = .int .u32 (b : Int)) (h5 : a.eval x5 = .int .u32 (n : Int))
    (h : wpList Try.prog ops Q rest (a.put o.dst (hdv ⟨v, p, r, t, b, n⟩)) w) : wpList Try.prog ops Q (o :: rest) a w := by
  refine wpList_build_of hg 26 _ ho (hdcs ⟨v, p, r, t, b, n⟩).toArray ?_ h
  simp only [List.map_toArray, List.map_cons, List.map_nil, h0, h1, h2, h3, h4, h5]
  exact built_hd ⟨v, p, r, t, b, n⟩
theorem wpList_arrp {ops : Array Oper} {rest : List Oper} {op : Oper} {a : Act} {w : World} {Q : Exit → Act → World → Prop} (hgd : op.guard = none) (x : Operand) (ho : op.op = .sliceToArrayPointer 24 x)
    (g o n c : Nat) (hx : a.eval x = .slice (some ⟨g, o, none⟩) n c) (hn : 32 ≤ n) (h : wpList Try.prog ops Q rest (a.put op.dst (.pointer (some ⟨g, o, none⟩))) w) : wpList Try.prog ops Q (op :: rest) a w := by
  refine wpList_plain hgd fun K hK => ?_
  have hu : Try.prog.underlying 24 = some (.array 32 5) := by kernel_rfl
  have hr : (Instr.arrayAt 24 (.slice (some ⟨g, o, none⟩) n c)).run Try.prog w = .ok (.pointer (some ⟨g, o, none⟩)) w := by
    simp only [Instr.arrayAt, Sem.run_bind, run_underlying hu, Result.andThen_ok]
    rw [if_neg (by omega)]
    rfl
  unfold Oper.wp execOp
  simp only [ho, hx, hr, Sem.run_bind, Result.andThen_ok]
  exact hK _ _ h

/-- a number's four bytes, the lowest first -/
def w4 (n : Nat) : List Nat := [n % 256, n / 256 % 256, n / 65536 % 256, n / 16777216 % 256]
def hby (h : Hd) : List Nat := w4 h.v ++ (idb h.p ++ (idb h.r ++ (w4 h.t ++ (w4 h.b ++ w4 h.n))))
theorem w4_byte (n : Nat) : ∀ y ∈ w4 n, y < 256 := by
  intro y hy
  simp only [w4, List.mem_cons, List.not_mem_nil, or_false] at hy
  rcases hy with rfl | rfl | rfl | rfl <;> exact Nat.mod_lt _ (by omega)
theorem hby_len (h : Hd) : (hby h).length = 80 := by
  unfold hby
  simp only [List.length_append, idb_len]
  rfl
theorem hby_byte (h : Hd) : ∀ y ∈ hby h, y < 256 := by
  intro y hy
  simp only [hby, List.mem_append] at hy
  rcases hy with hy | hy | hy | hy | hy | hy
  · exact w4_byte _ y hy
  · exact idb_byte _ y hy
  · exact idb_byte _ y hy
  · exact w4_byte _ y hy
  · exact w4_byte _ y hy
  · exact w4_byte _ y hy

/-- bytes are appended to an own row that has room for them -/
theorem wpList_append_fit_u8 {ops : Array Oper} {rest : List Oper} {o : Oper} {a : Act} {w : World} {Q : Exit → Act → World → Prop} (hgd : o.guard = none) (s x : Operand)
    (ho : o.op = .call { callee := .builtin .append, args := #[s, x], argTypes := #[27, 27] })
    (g k cap : Nat) (q : List Nat) (hs : a.eval s = .slice (some ⟨g, 0, none⟩) k cap) (hq : q.length = k) (hown : Owns w g (.slice (some ⟨g, 0, none⟩) k cap) q) (u : Value) (l : List Nat) (m : Nat) (hx : a.eval x = u) (hl : l.length = m) (h0 : 0 < m) (hu : BytesAt w u l) (hfit : k + m ≤ cap)
    (h : ∀ w', Owns w' g (.slice (some ⟨g, 0, none⟩) (k + m) cap) (q ++ l) → (∀ B z, B ≤ g → Below B z w → Below B z w') → (∀ b z, w.heap[b]? = some z → b ≠ g → w'.heap[b]? = some z) → w.heap.size ≤ w'.heap.size → wpList Try.prog ops Q rest (a.put o.dst (.slice (some ⟨g, 0, none⟩) (k + m) cap)) w') :
    wpList Try.prog ops Q (o :: rest) a w := by
  obtain ⟨i0, hi, hz0, hz1, hz2⟩ := info_parts info_u8
  subst hq hl
  rcases hu with ⟨rfl, rfl⟩ | ⟨ad, c, rfl, hc⟩
  · simp at h0
  · refine wpList_append_fits w hgd s x 27 ho g 5 i0 1 underlying_u8s hi hz1 g q.length cap (u8s q) hs hown ad l.length c (u8s l) hx (by rw [u8s_len]; omega)
      (fun j u hj => ?_) (fun u hu => by simp only [u8s, List.mem_map] at hu; obtain ⟨y, _, rfl⟩ := hu; rfl) hfit fun w' h1 h2 => ?_
    · have hjl : j < l.length := by
        have := (List.getElem?_eq_some_iff.1 hj).1
        rwa [u8s_len] at this
      rw [u8s_get l j hjl] at hj
      rw [hc j hjl]; exact hj
    · refine h w' ?_ (fun B z hB hz => hz.grown h2 (by have := (World.ownsRow.lt hown g rfl).2; omega) (fun j hj => by cases hj; omega)) (fun b z hb hne => (h2.block b (block_lt hb) (fun e => hne (Option.some.inj e))).trans hb) h2.size
      unfold Owns
      rw [List.length_append, u8s_app]
      exact h1

theorem bytes_four {w : World} {g : Nat} {x0 x1 x2 x3 : Int} {t : TypeId} {fr : Nat × Nat} {cap : Nat} (n : Nat) (h : w.heap[g]? = some (.cells #[.int .u8 x0, .int .u8 x1, .int .u8 x2, .int .u8 x3] t fr)) (e0 : x0 = (n % 256 : Nat)) (e1 : x1 = (n / 256 % 256 : Nat)) (e2 : x2 = (n / 65536 % 256 : Nat)) (e3 : x3 = (n / 16777216 % 256 : Nat)) :
    BytesAt w (.slice (some ⟨g, 0, none⟩) 4 cap) (w4 n) :=
  .inr ⟨_, _, rfl, fun j hj => by
    rw [Addr.add_lit, Nat.zero_add]
    unfold World.cell?
    simp only [h]
    have hj' : j < 4 := hj
    have : j = 0 ∨ j = 1 ∨ j = 2 ∨ j = 3 := by omega
    subst e0 e1 e2 e3
    rcases this with rfl | rfl | rfl | rfl <;> rfl⟩

set_option maxRecDepth 100000 in
set_option maxHeartbeats 1000000 in
theorem put4_any (g k cap : Nat) (q : List Nat) (hq : q.length = k) (n : Nat) (hn : n < 4294967296) (w : World) (hown : Owns w g (.slice (some ⟨g, 0, none⟩) k cap) q) (hfit : k + 4 ≤ cap) :
    Calls Try.prog 75 #[.slice (some ⟨g, 0, none⟩) k cap, .int .u32 (n : Int)] w fun e w' => e = .returned (.slice (some ⟨g, 0, none⟩) (k + 4) cap) ∧ Owns w' g (.slice (some ⟨g, 0, none⟩) (k + 4) cap) (q ++ w4 n) ∧
      (∀ B z, B ≤ g → Below B z w → Below B z w') ∧ (∀ b z, w.heap[b]? = some z → b ≠ g → w'.heap[b]? = some z) ∧ w.heap.size ≤ w'.heap.size := by
  have HO := Lib.hid hown; have HQ := Lib.hid hq
  have HGL : g < w.heap.size := (World.ownsRow.lt hown g rfl).2
  clear hown hq
  go_enter Try.func75, Try.ntmps75
  go_wp2_with (at_builtin; refine wpList_append_fit_u8 rfl (.tmp 5) (.tmp 17) rfl g k cap q rfl HQ.out (HO.out.keep (below_alloc (Below.refl _ _) _)) _ (w4 n) 4 rfl rfl (by omega) (bytes_four n (heap_new _ _) (by omega) (by omega) (by omega) (by omega)) hfit (fun w' h1 h2 h3 h4 => ?_))
  go_ret
  exact ⟨rfl, h1, fun B z hB hz => h2 B z hB (hz.alloc (by omega) _), fun b z hb hne => h3 b z (keep_alloc _ hb) hne, by have := h4; simp at this; omega⟩
end Go.Proofs.Ytnbppbnjkmopeaa
namespace Go.Proofs.Ytnbppbnjkmopeaa
open Go.RowKit

theorem hd_bytes_p {w : World} {g : Nat} {h : Hd} (hg : w.heap[g]? = some (hdblk h)) (c : Nat) : BytesAt w (.slice (some ⟨g, 1, none⟩) 32 c) (idb h.p) :=
  .inr ⟨⟨g, 1, none⟩, c, by rw [idb_len], fun j hj => by
    rw [idb_len] at hj
    rw [Addr.add_lit, hd_cell hg, hdcs_p h j hj, idb_get _ j hj]⟩
theorem hd_bytes_r {w : World} {g : Nat} {h : Hd} (hg : w.heap[g]? = some (hdblk h)) (c : Nat) : BytesAt w (.slice (some ⟨g, 33, none⟩) 32 c) (idb h.r) :=
  .inr ⟨⟨g, 33, none⟩, c, by rw [idb_len], fun j hj => by
    rw [idb_len] at hj
    rw [Addr.add_lit, hd_cell hg, hdcs_r h j hj, idb_get _ j hj]⟩
/-- a new row of bytes with room for so many -/
theorem wpList_make_u8 {ops : Array Oper} {rest : List Oper} {o : Oper} {a : Act} {w : World} {Q : Exit → Act → World → Prop} (hgd : o.guard = none) (l c : Operand) (ho : o.op = Op.makeSlice 27 l c) (n : Nat) (hl : a.eval l = .int .i64 0) (hc : a.eval c = .int .i64 n) (hn : n ≤ 1000000)
    (h : ∀ w', Owns w' w.heap.size (.slice (some ⟨w.heap.size, 0, none⟩) 0 n) [] → Below w.heap.size w w' → wpList Try.prog ops Q rest (a.put o.dst (.slice (some ⟨w.heap.size, 0, none⟩) 0 n)) w') : wpList Try.prog ops Q (o :: rest) a w := by
  obtain ⟨i0, hi, hz0, hz1, hz2⟩ := info_parts info_u8
  refine wpList_make_own w hgd l c 27 ho w.heap.size 5 i0 (.int .u8 0) 1 underlying_u8s hi hz0 hz1 .i64 .i64 n n hl hc rfl (by rw [hz2]; omega) (by unfold maxLen; omega) (Nat.le_refl _) fun w' h1 h2 => ?_
  exact h w' h1 ((Below.refl _ _).grown h2 (Nat.le_refl _) (fun j hj => by cases hj))

set_option maxRecDepth 100000 in
set_option maxHeartbeats 4000000 in
theorem bytes_any (h : Hd) (hk : h.ok) (w : World) : Calls Try.prog 20 #[hdv h] w fun e w' => ∃ g, e = .returned (.slice (some ⟨g, 0, none⟩) 80 80) ∧ w.heap.size ≤ g ∧ Owns w' g (.slice (some ⟨g, 0, none⟩) 80 80) (hby h) ∧ Below w.heap.size w w' := by
  have HK := Lib.hid hk
  unfold Hd.ok at hk
  obtain ⟨hv1, _, _, ht1, hb1, hn1⟩ := hk
  have B : Below w.heap.size w (w.alloc (hdblk h)) := below_alloc (Below.refl _ _) _
  have K := heap_new w (hdblk h)
  have KB := Lib.hid K; have BB := Lib.hid B
  clear K B
  unfold hdv
  go_enter Try.func20, Try.ntmps20
  go_wp2_with fail
  refine wp_abs (fun W => W.heap[w.heap.size]? = some (hdblk h) ∧ Below w.heap.size w W) ⟨KB.out, BB.out⟩ ?_
  clear KB BB
  rintro W ⟨k1, k2⟩
  have KB := Lib.hid k1; have BB := Lib.hid k2
  obtain ⟨b0, hb0⟩ : ∃ b, b = w.heap.size := ⟨_, rfl⟩
  rw [← hb0] at KB
  rw [← hb0]
  have HB0 := Lib.hid hb0
  have HBW : b0 < W.heap.size := block_lt KB.out
  clear k1 k2 hb0
  refine wp_region_tail 3 [(fun v V => ∃ g, v = .slice (some ⟨g, 0, none⟩) 0 80 ∧ W.heap.size ≤ g ∧ Owns V g (.slice (some ⟨g, 0, none⟩) 0 80) []), Is (.pointer (some ⟨b0, 0, none⟩)), Is (.int .u32 (h.v : Int))] [[], [], [(1, some 5)], [(0, some 4), (2, some 6)], [(3, some 7)]] [(0, some 4), (1, some 5), (2, some 6)] [0, 0, 2, 7, 15]
    (by kernel_rfl) (by kernel_rfl) (by kernel_rfl) (by kernel_rfl) (by kernel_rfl) ⟨(fun _ _ _ hb ⟨g, e, h1, h2⟩ => ⟨g, e, h1, h2.keep hb⟩), Is.kept _, Is.kept _, trivial⟩ ⟨?_, ?_, ?_, trivial⟩ ?_
  · as_aux_lemma =>
    refine fun w' hB => ?_
    show wpList _ _ _ _ _ _
    have hBs := hB.size
    go_wp2_with (at_make; refine wpList_make_u8 rfl _ _ rfl 80 rfl rfl (by omega) (fun w2 h1 h2 => ?_))
    exact ⟨_, rfl, ⟨_, rfl, hBs, h1⟩, h2⟩
  · as_aux_lemma =>
    refine fun w' hB => ?_
    show wpList _ _ _ _ _ _
    go_wp2_with fail
    exact ⟨.pointer (some ⟨b0, 0, none⟩), by first | rfl | (go_simp; done), rfl, Below.refl _ _⟩
  · as_aux_lemma =>
    refine fun w' hB v1 h1 => ?_
    obtain rfl := h1
    show wpList _ _ _ _ _ _
    have c := (hd_cell (block_keep hB KB.out) 0).trans (hdcs_v h)
    go_wp2_with fail
    exact ⟨_, rfl, rfl, Below.refl _ _⟩
  · refine fun w' hB v0 h0 v1 h1 v2 h2 => ?_
    obtain rfl := h2
    simp only [onP, List.drop_succ_cons, List.drop_zero]
    go_simp
    clear h1
    obtain ⟨g, rfl, hg, hO⟩ := h0
    have B1 := Lib.hid (below_next BB.out hB)
    have K1 := Lib.hid (block_keep hB KB.out)
    have HO := Lib.hid hO
    have hne : b0 ≠ g := by omega
    clear hB KB BB hO
    go_wp2_with fail
    refine (put4_any g 0 80 [] rfl h.v hv1 w' HO.out (by omega)).mono ?_
    rintro e w1 ⟨rfl, h1, h2, h3, h4⟩
    have O1 := Lib.hid h1; have B2 := Lib.hid (h2 w.heap.size w (by have := HB0.out; omega) B1.out); have K2 := Lib.hid (h3 b0 _ K1.out hne)
    clear h1 h2 h3 h4 HO B1 K1
    go_wp2_with fail
    have hgw : w.heap.size ≤ g := by have := HB0.out; omega
    have O1' : Hid (Owns w1 g (.slice (some ⟨g, 0, none⟩) 4 80) (w4 h.v)) := Lib.hid O1.out
    clear O1
    refine wp_region_writers 6 [3] (fun j => false) (fun V => V.heap[b0]? = some (hdblk h) ∧ Below w.heap.size w V) [fun V => Owns V g (.slice (some ⟨g, 0, none⟩) 4 80) (w4 h.v), fun V => Owns V g (.slice (some ⟨g, 0, none⟩) 36 80) (w4 h.v ++ idb h.p)] [Is (.slice (some ⟨g, 0, none⟩) 4 80), Is (.pointer (some ⟨b0, 1, none⟩)), Is (.slice (some ⟨b0, 1, none⟩) 32 32), Is (.slice (some ⟨g, 0, none⟩) 36 80), Is (.pointer (some ⟨b0, 33, none⟩)), Is (.slice (some ⟨b0, 33, none⟩) 32 32)] [[], [], [(1, some 9)], [(0, some 8), (2, some 10)], [], [(4, some 12)], [(3, some 11), (5, some 13)], [(6, some 14)]] [(0, some 8), (1, some 9), (2, some 10), (3, some 11), (4, some 12), (5, some 13)] [0, 0, 2, 7, 0, 16, 63, 127]
      (by kernel_rfl) (by kernel_rfl) (by kernel_rfl) (by kernel_rfl) (by kernel_rfl) ⟨Is.kept _, Is.kept _, Is.kept _, Is.kept _, Is.kept _, Is.kept _, trivial⟩ (fun _ _ hb k => ⟨block_keep hb k.1, k.2.trans (hb.mono k.2.size)⟩) ⟨fun _ _ hb k => Owns.keep k hb, fun _ _ hb k => Owns.keep k hb, trivial⟩ (by kernel_rfl) (fun _ _ hb => ⟨block_keep hb K2.out, B2.out.trans (hb.mono B2.out.size)⟩) (fun _ hb => O1'.out.keep hb) ⟨?_, ?_, ?_, ?_, ?_, ?_, trivial⟩ ?_
    · as_aux_lemma =>
      refine fun w' hS hB hP => ?_
      show wpList _ _ _ _ _ _
      go_wp2_with fail
      exact StepW.of_ne (by decide) ⟨.slice (some ⟨g, 0, none⟩) 4 80, by first | rfl | (go_simp; done), rfl, Below.refl _ _, fun h => absurd h (by decide)⟩
    · as_aux_lemma =>
      refine fun w' hS hB hP => ?_
      show wpList _ _ _ _ _ _
      go_wp2_with fail
      exact StepW.of_ne (by decide) ⟨.pointer (some ⟨b0, 1, none⟩), by first | rfl | (go_simp; done), rfl, Below.refl _ _, fun h => absurd h (by decide)⟩
    · as_aux_lemma =>
      refine fun w' hS hB hP v1 h1 => ?_
      obtain rfl := h1
      show wpList _ _ _ _ _ _
      go_wp2_with fail
      exact StepW.of_ne (by decide) ⟨.slice (some ⟨b0, 1, none⟩) 32 32, by first | rfl | (go_simp; done), rfl, Below.refl _ _, fun h => absurd h (by decide)⟩
    · as_aux_lemma =>
      refine fun w' hS hB hP v0 h0 v2 h2 => ?_
      obtain rfl := h0
      obtain rfl := h2
      show wpList _ _ _ _ _ _
      have hp : Owns w' g (.slice (some ⟨g, 0, none⟩) 4 80) (w4 h.v) := hP (by decide)
      clear hP
      have HP := Lib.hid hp
      clear hp
      go_wp2_with (at_builtin; refine wpList_append_fit_u8 rfl (.tmp 8) (.tmp 10) rfl g 4 80 (w4 h.v) rfl rfl HP.out _ (idb h.p) 32 rfl (idb_len _) (by omega) (hd_bytes_p hB.1 32) (by omega) (fun w5 h1 h2 h3 h4 => ?_))
      exact StepW.of_eq (by decide) ⟨_, rfl, rfl, h4, ⟨⟨h3 b0 _ hB.1 hne, h2 _ _ hgw hB.2⟩, h1⟩, keepL_at _ _ ⟨fun _ => fun u h => h, fun _ => fun u h => h, fun _ => fun u h => h, fun h => absurd rfl h, fun _ => fun u h => h, fun _ => fun u h => h, trivial⟩⟩
    · as_aux_lemma =>
      refine fun w' hS hB hP => ?_
      show wpList _ _ _ _ _ _
      go_wp2_with fail
      exact StepW.of_ne (by decide) ⟨.pointer (some ⟨b0, 33, none⟩), by first | rfl | (go_simp; done), rfl, Below.refl _ _, fun h => absurd h (by decide)⟩
    · as_aux_lemma =>
      refine fun w' hS hB hP v4 h4 => ?_
      obtain rfl := h4
      show wpList _ _ _ _ _ _
      go_wp2_with fail
      exact StepW.of_ne (by decide) ⟨.slice (some ⟨b0, 33, none⟩) 32 32, by first | rfl | (go_simp; done), rfl, Below.refl _ _, fun h => absurd h (by decide)⟩
    · refine fun w' G hS hB hR hN1 hN2 v0 h0 v1 h1 v2 h2 v3 h3 v4 h4 v5 h5 => ?_
      replace h0 := h0.1
      replace h1 := h1.1
      replace h2 := h2.1
      replace h3 := h3.1
      replace h4 := h4.1
      replace h5 := h5.1
      clear hN1 hN2
      obtain rfl := h3
      obtain rfl := h5
      simp only [onP, List.drop_succ_cons, List.drop_zero]
      go_simp
      clear h0 h1 h2 h4
      have hR' : Owns w' g (.slice (some ⟨g, 0, none⟩) 36 80) (w4 h.v ++ idb h.p) := hR
      have HO := Lib.hid hR'
      have K3 := Lib.hid hB.1; have B3 := Lib.hid hB.2
      clear hR hR' hB
      go_wp2_with (at_builtin; refine wpList_append_fit_u8 rfl (.tmp 11) (.tmp 13) rfl g 36 80 (w4 h.v ++ idb h.p) rfl (by rw [List.length_append, idb_len]; rfl) HO.out _ (idb h.r) 32 rfl (idb_len _) (by omega) (hd_bytes_r K3.out 32) (by omega) (fun w5 h1 h2 h3 h4 => ?_))
      have O5 : Hid (Owns w5 g (.slice (some ⟨g, 0, none⟩) 68 80) (w4 h.v ++ (idb h.p ++ idb h.r))) := Lib.hid (by rw [← List.append_assoc]; exact h1)
      have K5 := Lib.hid (h3 b0 _ K3.out hne); have B5 := Lib.hid (h2 w.heap.size w hgw B3.out)
      clear h1 h2 h3 h4 HO K3 B3 K2 B2
      go_wp2_with fail
      obtain ⟨q, hq⟩ : ∃ q, q = w4 h.v ++ (idb h.p ++ idb h.r) := ⟨_, rfl⟩
      have hql : q.length = 68 := by rw [hq, List.length_append, List.length_append, idb_len, idb_len]; rfl
      rw [← hq] at O5
      have HQ := Lib.hid hq; have HQL := Lib.hid hql
      clear hq hql
      refine wp_region_writers 9 [3, 6] (fun j => false) (fun V => V.heap[b0]? = some (hdblk h) ∧ Below w.heap.size w V) [fun V => Owns V g (.slice (some ⟨g, 0, none⟩) 68 80) q, fun V => Owns V g (.slice (some ⟨g, 0, none⟩) 72 80) (q ++ w4 h.t), fun V => Owns V g (.slice (some ⟨g, 0, none⟩) 76 80) (q ++ w4 h.t ++ w4 h.b)] [Is (.slice (some ⟨g, 0, none⟩) 68 80), Is (.pointer (some ⟨b0, 65, none⟩)), Is (.int .u32 (h.t : Int)), Is (.slice (some ⟨g, 0, none⟩) 72 80), Is (.pointer (some ⟨b0, 66, none⟩)), Is (.int .u32 (h.b : Int)), Is (.slice (some ⟨g, 0, none⟩) 76 80), Is (.pointer (some ⟨b0, 67, none⟩)), Is (.int .u32 (h.n : Int))] [[], [], [(1, some 16)], [(0, some 15), (2, some 17)], [], [(4, some 19)], [(3, some 18), (5, some 20)], [], [(7, some 22)], [(6, some 21), (8, some 23)], [(9, some 24)]] [(0, some 15), (1, some 16), (2, some 17), (3, some 18), (4, some 19), (5, some 20), (6, some 21), (7, some 22), (8, some 23)] [0, 0, 2, 7, 0, 16, 63, 0, 128, 511, 1023]
        (by kernel_rfl) (by kernel_rfl) (by kernel_rfl) (by kernel_rfl) (by kernel_rfl) ⟨Is.kept _, Is.kept _, Is.kept _, Is.kept _, Is.kept _, Is.kept _, Is.kept _, Is.kept _, Is.kept _, trivial⟩ (fun _ _ hb k => ⟨block_keep hb k.1, k.2.trans (hb.mono k.2.size)⟩) ⟨fun _ _ hb k => Owns.keep k hb, fun _ _ hb k => Owns.keep k hb, fun _ _ hb k => Owns.keep k hb, trivial⟩ (by kernel_rfl) (fun _ _ hb => ⟨block_keep hb K5.out, B5.out.trans (hb.mono B5.out.size)⟩) (fun _ hb => O5.out.keep hb) ⟨?_, ?_, ?_, ?_, ?_, ?_, ?_, ?_, ?_, trivial⟩ ?_
      · as_aux_lemma =>
        refine fun w' hS hB hP => ?_
        show wpList _ _ _ _ _ _
        go_wp2_with fail
        exact StepW.of_ne (by decide) ⟨.slice (some ⟨g, 0, none⟩) 68 80, by first | rfl | (go_simp; done), rfl, Below.refl _ _, fun h => absurd h (by decide)⟩
      · as_aux_lemma =>
        refine fun w' hS hB hP => ?_
        show wpList _ _ _ _ _ _
        go_wp2_with fail
        exact StepW.of_ne (by decide) ⟨.pointer (some ⟨b0, 65, none⟩), by first | rfl | (go_simp; done), rfl, Below.refl _ _, fun h => absurd h (by decide)⟩
      · as_aux_lemma =>
        refine fun w' hS hB hP v1 h1 => ?_
        obtain rfl := h1
        show wpList _ _ _ _ _ _
        have c := (hd_cell hB.1 65).trans (hdcs_t h)
        go_wp2_with fail
        exact StepW.of_ne (by decide) ⟨_, rfl, rfl, Below.refl _ _, fun h => absurd h (by decide)⟩
      · as_aux_lemma =>
        refine fun w' hS hB hP v0 h0 v2 h2 => ?_
        obtain rfl := h0
        obtain rfl := h2
        show wpList _ _ _ _ _ _
        have hp : Owns w' g (.slice (some ⟨g, 0, none⟩) 68 80) q := hP (by decide)
        clear hP
        have HP := Lib.hid hp
        clear hp
        go_wp2_with fail
        refine (put4_any g 68 80 q HQL.out h.t ht1 w' HP.out (by omega)).mono ?_
        rintro e w2 ⟨rfl, h1, h2, h3, h4⟩
        go_wp2_with fail
        exact StepW.of_eq (by decide) ⟨_, rfl, rfl, h4, ⟨⟨h3 b0 _ hB.1 hne, h2 _ _ hgw hB.2⟩, h1⟩, keepL_at _ _ ⟨fun _ => fun u h => h, fun _ => fun u h => h, fun _ => fun u h => h, fun h => absurd rfl h, fun _ => fun u h => h, fun _ => fun u h => h, fun _ => fun u h => h, fun _ => fun u h => h, fun _ => fun u h => h, trivial⟩⟩
      · as_aux_lemma =>
        refine fun w' hS hB hP => ?_
        show wpList _ _ _ _ _ _
        go_wp2_with fail
        exact StepW.of_ne (by decide) ⟨.pointer (some ⟨b0, 66, none⟩), by first | rfl | (go_simp; done), rfl, Below.refl _ _, fun h => absurd h (by decide)⟩
      · as_aux_lemma =>
        refine fun w' hS hB hP v4 h4 => ?_
        obtain rfl := h4
        show wpList _ _ _ _ _ _
        have c := (hd_cell hB.1 66).trans (hdcs_b h)
        go_wp2_with fail
        exact StepW.of_ne (by decide) ⟨_, rfl, rfl, Below.refl _ _, fun h => absurd h (by decide)⟩
      · as_aux_lemma =>
        refine fun w' hS hB hP v3 h3 v5 h5 => ?_
        obtain rfl := h3
        obtain rfl := h5
        show wpList _ _ _ _ _ _
        have hp : Owns w' g (.slice (some ⟨g, 0, none⟩) 72 80) (q ++ w4 h.t) := hP (by decide)
        clear hP
        have HP := Lib.hid hp
        clear hp
        go_wp2_with fail
        refine (put4_any g 72 80 _ (by rw [List.length_append, HQL.out]; rfl) h.b hb1 w' HP.out (by omega)).mono ?_
        rintro e w2 ⟨rfl, h1, h2, h3, h4⟩
        go_wp2_with fail
        exact StepW.of_eq (by decide) ⟨_, rfl, rfl, h4, ⟨⟨h3 b0 _ hB.1 hne, h2 _ _ hgw hB.2⟩, h1⟩, keepL_at _ _ ⟨fun _ => fun u h => h, fun _ => fun u h => h, fun _ => fun u h => h, fun _ => fun u h => h, fun _ => fun u h => h, fun _ => fun u h => h, fun h => absurd rfl h, fun _ => fun u h => h, fun _ => fun u h => h, trivial⟩⟩
      · as_aux_lemma =>
        refine fun w' hS hB hP => ?_
        show wpList _ _ _ _ _ _
        go_wp2_with fail
        exact StepW.of_ne (by decide) ⟨.pointer (some ⟨b0, 67, none⟩), by first | rfl | (go_simp; done), rfl, Below.refl _ _, fun h => absurd h (by decide)⟩
      · as_aux_lemma =>
        refine fun w' hS hB hP v7 h7 => ?_
        obtain rfl := h7
        show wpList _ _ _ _ _ _
        have c := (hd_cell hB.1 67).trans (hdcs_n h)
        go_wp2_with fail
        exact StepW.of_ne (by decide) ⟨_, rfl, rfl, Below.refl _ _, fun h => absurd h (by decide)⟩
      · refine fun w' G hS hB hR hN1 hN2 v0 h0 v1 h1 v2 h2 v3 h3 v4 h4 v5 h5 v6 h6 v7 h7 v8 h8 => ?_
        replace h0 := h0.1
        replace h1 := h1.1
        replace h2 := h2.1
        replace h3 := h3.1
        replace h4 := h4.1
        replace h5 := h5.1
        replace h6 := h6.1
        replace h7 := h7.1
        replace h8 := h8.1
        clear hN1 hN2
        obtain rfl := h6
        obtain rfl := h8
        simp only [onP, List.drop_succ_cons, List.drop_zero]
        go_simp
        clear h0 h1 h2 h3 h4 h5 h7
        have hR' : Owns w' g (.slice (some ⟨g, 0, none⟩) 76 80) (q ++ w4 h.t ++ w4 h.b) := hR
        have HO := Lib.hid hR'
        have B6 := Lib.hid hB.2
        clear hR hR' hB
        go_wp2_with fail
        refine (put4_any g 76 80 _ (by rw [List.length_append, List.length_append, HQL.out]; rfl) h.n hn1 w' HO.out (by omega)).mono ?_
        rintro e w7 ⟨rfl, h1, h2, h3, h4⟩
        have O7 : Hid (Owns w7 g (.slice (some ⟨g, 0, none⟩) 80 80) (hby h)) := Lib.hid (by
          have : hby h = q ++ w4 h.t ++ w4 h.b ++ w4 h.n := by rw [HQ.out]; unfold hby; simp only [List.append_assoc]
          rw [this]; exact h1)
        have B7 := Lib.hid (h2 w.heap.size w hgw B6.out)
        clear h1 h2 h3 h4 HO B6
        go_wp2_with fail
        go_ret
        exact ⟨g, rfl, hgw, O7.out, B7.out⟩
end Go.Proofs.Ytnbppbnjkmopeaa
