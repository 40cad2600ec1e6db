/- head: a header's value, its block; put4. No condition. -/
import Derived.Test.YtnbppbnjkmopeaaHashM
import Derived.Test.YtnbppbnjkmopeaaRegW
import Derived.OwnWalk
namespace Go.Proofs.Ytnbppbnjkmopeaa
open Go.RowKit

/-- a header -/
structure Hd where (v p r t b n : Nat)
def Hd.ok (h : Hd) : Prop := h.v < 4294967296 ∧ h.p < 2 ^ 256 ∧ h.r < 2 ^ 256 ∧ h.t < 4294967296 ∧ h.b < 4294967296 ∧ h.n < 4294967296
def hdcs (h : Hd) : List Value := .int .u32 (h.v : Int) :: (ids h.p ++ (ids h.r ++ [.int .u32 (h.t : Int), .int .u32 (h.b : Int), .int .u32 (h.n : Int)]))
abbrev hdv (h : Hd) : Value := .agg (hdcs h).toArray
def hdblk (h : Hd) : Obj := .cells (hdcs h).toArray 26 (0, 0)
theorem hdcs_len (h : Hd) : (hdcs h).length = 68 := by
  unfold hdcs
  rw [List.length_cons, List.length_append, List.length_append, ids_len, ids_len]; rfl
theorem hdcs_v (h : Hd) : (hdcs h)[0]? = some (.int .u32 (h.v : Int)) := rfl
theorem hdcs_p (h : Hd) (j : Nat) (hj : j < 32) : (hdcs h)[1 + j]? = some (.int .u8 (lb h.p j)) := by
  unfold hdcs
  rw [show 1 + j = j + 1 by omega, List.getElem?_cons_succ, List.getElem?_append_left (by rw [ids_len]; exact hj), ids_get _ _ hj]
theorem hdcs_r (h : Hd) (j : Nat) (hj : j < 32) : (hdcs h)[33 + j]? = some (.int .u8 (lb h.r j)) := by
  unfold hdcs
  rw [show 33 + j = (32 + j) + 1 by omega, List.getElem?_cons_succ, List.getElem?_append_right (by rw [ids_len]; omega), ids_len, show 32 + j - 32 = j by omega, List.getElem?_append_left (by rw [ids_len]; exact hj), ids_get _ _ hj]
theorem hdcs_t (h : Hd) : (hdcs h)[65]? = some (.int .u32 (h.t : Int)) := by
  unfold hdcs
  rw [List.getElem?_cons_succ, List.getElem?_append_right (by rw [ids_len]; omega), ids_len, List.getElem?_append_right (by rw [ids_len]; omega), ids_len]; rfl
theorem hdcs_b (h : Hd) : (hdcs h)[66]? = some (.int .u32 (h.b : Int)) := by
  unfold hdcs
  rw [List.getElem?_cons_succ, List.getElem?_append_right (by rw [ids_len]; omega), ids_len, List.getElem?_append_right (by rw [ids_len]; omega), ids_len]; rfl
theorem hdcs_n (h : Hd) : (hdcs h)[67]? = some (.int .u32 (h.n : Int)) := by
  unfold hdcs
  rw [List.getElem?_cons_succ, List.getElem?_append_right (by rw [ids_len]; omega), ids_len, List.getElem?_append_right (by rw [ids_len]; omega), ids_len]; rfl
theorem hd_cell {w : World} {g : Nat} {h : Hd} (hg : w.heap[g]? = some (hdblk h)) (j : Nat) : w.cell? ⟨g, j, none⟩ = (hdcs h)[j]? := by
  rw [cell_of_row _ _ _ _ _ _ hg, List.getElem?_toArray]

theorem hd_range {w : World} {g : Nat} {h : Hd} (hg : w.heap[g]? = some (hdblk h)) : w.rangeAt g 0 (hdcs h) := fun j v hv => by
  rw [Nat.zero_add, hd_cell hg]; exact hv
theorem hdcs_one (h : Hd) : ∀ v ∈ hdcs h, v.oneCell' = true := fun v hv => by
  have ho : ∀ n, ∀ v ∈ ids n, v.oneCell' = true := fun n v hv => by
    simp only [ids, List.mem_map] at hv
    obtain ⟨i, _, rfl⟩ := hv
    rfl
  simp only [hdcs, List.mem_cons, List.mem_append, List.not_mem_nil, or_false] at hv
  rcases hv with rfl | hv | hv | rfl | rfl | rfl
  · rfl
  · exact ho _ v hv
  · exact ho _ v hv
  · rfl
  · rfl
  · rfl
theorem hd_there {w : World} {g : Nat} {h : Hd} (hg : w.heap[g]? = some (hdblk h)) : w.there g 0 68 := fun j hj => by
  refine ⟨?_, frozen_of_row _ _ _ _ _ hg⟩
  rw [Nat.zero_add, hd_cell hg, List.getElem?_eq_getElem (by rw [hdcs_len]; exact hj)]; rfl
theorem hd_row : (Try.prog.underlying 26).map (·.isRow) = some true := by kernel_rfl
theorem hdz : Try.zeroCells26 = (hdcs ⟨0, 0, 0, 0, 0, 0⟩).toArray := by kernel_rfl
theorem wpList_load_hd {ops : Array Oper} {rest : List Oper} {op : Oper} {a : Act} {w : World} {Q : Exit → Act → World → Prop} (hgd : op.guard = none) (x : Operand) (ho : op.op = .load 26 x)
    (g : Nat) (n : Hd) (hx : a.eval x = .pointer (some ⟨g, 0, none⟩)) (hb : w.heap[g]? = some (hdblk n)) (h : wpList Try.prog ops Q rest (a.put op.dst (hdv n)) w) : wpList Try.prog ops Q (op :: rest) a w := by
  obtain ⟨d, hu, hd⟩ := Option.map_eq_some_iff.1 hd_row
  exact wpList_load_mid hgd 26 x ho g 0 hx (hdcs n) d (hd_range hb) hu hd (by rw [hdcs_len]; kernel_rfl) h
theorem wpList_store_hd {ops : Array Oper} {rest : List Oper} {op : Oper} {a : Act} {w : World} {Q : Exit → Act → World → Prop} (hgd : op.guard = none) (x y : Operand) (ho : op.op = .store 26 x y)
    (g : Nat) (m n : Hd) (hx : a.eval x = .pointer (some ⟨g, 0, none⟩)) (hy : a.eval y = hdv n) (hb : w.heap[g]? = some (hdblk m))
    (h : ∀ w', w'.heap[g]? = some (hdblk n) → (∀ b, b ≠ g → w'.heap[b]? = w.heap[b]?) → w'.heap.size = w.heap.size → (∀ B u, B ≤ g → Below B u w → Below B u w') → wpList Try.prog ops Q rest (a.put op.dst undef) w') :
    wpList Try.prog ops Q (op :: rest) a w := by
  refine wpList_store_mid hgd 26 x y ho g 0 (hdcs n).toArray hx hy ?_ (by rw [List.size_toArray, hdcs_len]; kernel_rfl) ?_ (h _ ?_ (fun b hne => heap_setCells_far g _ _ _ b hne) (size_setCells_id g _ _ _) fun B u hB hu => below_setCells_id g hB _ _ _ hu)
  · rw [List.size_toArray, hdcs_len]; exact hd_there hb
  · exact all_oneCell_toArray (hdcs_one n)
  · exact heap_setCells_row g 26 (hdcs n) (hdcs m) [] w (by rw [hdcs_len, hdcs_len]) hb
theorem loadVar_hd {w : World} {g : Nat} {n : Hd} (h : w.heap[g]? = some (hdblk n)) : (loadVar 26 ⟨g, 0, none⟩).run Try.prog w = .ok (hdv n) w := by
  obtain ⟨d, hu, hd⟩ := Option.map_eq_some_iff.1 hd_row
  exact run_loadVar_mid w g 0 26 (hdcs n) d (hd_range h) hu hd (by rw [hdcs_len]; kernel_rfl)

theorem built_hd (h : Hd) : Try.prog.built 26 [(0, .int .u32 (h.v : Int)), (1, iv h.p), (2, iv h.r), (3, .int .u32 (h.t : Int)), (4, .int .u32 (h.b : Int)), (5, .int .u32 (h.n : Int))] = some (hdcs h).toArray := by kernel_rfl
theorem wpList_build_of {ops : Array Oper} {rest : List Oper} {o : Oper} {a : Act} {w : World} {Q : Exit → Act → World → Prop} (hg : o.guard = none) (t : TypeId) (parts : Array (Nat × Operand)) (ho : o.op = .build t parts) (cs : Array Value)
    (hf : Try.prog.built t (parts.map fun (i, x) => (i, a.eval x)).toList = some cs) (h : wpList Try.prog ops Q rest (a.put o.dst (.agg cs)) w) : wpList Try.prog ops Q (o :: rest) a w :=
  wpList_build hg t parts ho (by rw [hf]; rfl) (by rw [hf]; exact h)
theorem wpList_build_hd {ops : Array Oper} {rest : List Oper} {o : Oper} {a : Act} {w : World} {Q : Exit → Act → World → Prop} (hg : o.guard = none) (x0 x1 x2 x3 x4 x5 : Operand) (ho : o.op = .build 26 #[(0, x0), (1, x1), (2, x2), (3, x3), (4, x4), (5, x5)]) (v p r t b n : Nat)
    (h0 : a.eval x0 = .int .u32 (v : Int)) (h1 : a.eval x1 = iv p) (h2 : a.eval x2 = iv r) (h3 : a.eval x3 = .int .u32 (t : Int)) (h4 : a.eval x4 = .int .u32 (b : Int)) (h5 : a.eval x5 = .int .u32 (n : Int))
    (h : wpList Try.prog ops Q rest (a.put o.dst (hdv ⟨v, p, r, t, b, n⟩)) w) : wpList Try.prog ops Q (o :: rest) a w := by
  refine wpList_build_of hg 26 _ ho (hdcs ⟨v, p, r, t, b, n⟩).toArray ?_ h
  simp only [List.map_toArray, List.map_cons, List.map_nil, h0, h1, h2, h3, h4, h5]
  exact built_hd ⟨v, p, r, t, b, n⟩
theorem wpList_arrp {ops : Array Oper} {rest : List Oper} {op : Oper} {a : Act} {w : World} {Q : Exit → Act → World → Prop} (hgd : op.guard = none) (x : Operand) (ho : op.op = .sliceToArrayPointer 24 x)
    (g o n c : Nat) (hx : a.eval x = .slice (some ⟨g, o, none⟩) n c) (hn : 32 ≤ n) (h : wpList Try.prog ops Q rest (a.put op.dst (.pointer (some ⟨g, o, none⟩))) w) : wpList Try.prog ops Q (op :: rest) a w := by
  refine wpList_plain hgd fun K hK => ?_
  have hu : Try.prog.underlying 24 = some (.array 32 5) := by kernel_rfl
  have hr : (Instr.arrayAt 24 (.slice (some ⟨g, o, none⟩) n c)).run Try.prog w = .ok (.pointer (some ⟨g, o, none⟩)) w := by
    simp only [Instr.arrayAt, Sem.run_bind, run_underlying hu, Result.andThen_ok]
    rw [if_neg (by omega)]
    rfl
  unfold Oper.wp execOp
  simp only [ho, hx, hr, Sem.run_bind, Result.andThen_ok]
  exact hK _ _ h

/-- a number's four bytes, the lowest first -/
def w4 (n : Nat) : List Nat := [n % 256, n / 256 % 256, n / 65536 % 256, n / 16777216 % 256]
def hby (h : Hd) : List Nat := w4 h.v ++ (idb h.p ++ (idb h.r ++ (w4 h.t ++ (w4 h.b ++ w4 h.n))))
theorem w4_byte (n : Nat) : ∀ y ∈ w4 n, y < 256 := by
  intro y hy
  simp only [w4, List.mem_cons, List.not_mem_nil, or_false] at hy
  rcases hy with rfl | rfl | rfl | rfl <;> exact Nat.mod_lt _ (by omega)
theorem hby_len (h : Hd) : (hby h).length = 80 := by
  unfold hby
  simp only [List.length_append, idb_len]
  rfl
theorem hby_byte (h : Hd) : ∀ y ∈ hby h, y < 256 := by
  intro y hy
  simp only [hby, List.mem_append] at hy
  rcases hy with hy | hy | hy | hy | hy | hy
  · exact w4_byte _ y hy
  · exact idb_byte _ y hy
  · exact idb_byte _ y hy
  · exact w4_byte _ y hy
  · exact w4_byte _ y hy
  · exact w4_byte _ y hy

/-- bytes are appended to an own row that has room for them -/
theorem wpList_append_fit_u8 {ops : Array Oper} {rest : List Oper} {o : Oper} {a : Act} {w : World} {Q : Exit → Act → World → Prop} (hgd : o.guard = none) (s x : Operand)
    (ho : o.op = .call { callee := .builtin .append, args := #[s, x], argTypes := #[27, 27] })
    (g k cap : Nat) (q : List Nat) (hs : a.eval s = .slice (some ⟨g, 0, none⟩) k cap) (hq : q.length = k) (hown : Owns w g (.slice (some ⟨g, 0, none⟩) k cap) q) (u : Value) (l : List Nat) (m : Nat) (hx : a.eval x = u) (hl : l.length = m) (h0 : 0 < m) (hu : BytesAt w u l) (hfit : k + m ≤ cap)
    (h : ∀ w', Owns w' g (.slice (some ⟨g, 0, none⟩) (k + m) cap) (q ++ l) → (∀ B z, B ≤ g → Below B z w → Below B z w') → (∀ b z, w.heap[b]? = some z → b ≠ g → w'.heap[b]? = some z) → w.heap.size ≤ w'.heap.size → wpList Try.prog ops Q rest (a.put o.dst (.slice (some ⟨g, 0, none⟩) (k + m) cap)) w') :
    wpList Try.prog ops Q (o :: rest) a w := by
  obtain ⟨i0, hi, hz0, hz1, hz2⟩ := info_parts info_u8
  subst hq hl
  rcases hu with ⟨rfl, rfl⟩ | ⟨ad, c, rfl, hc⟩
  · simp at h0
  · refine wpList_append_fits w hgd s x 27 ho g 5 i0 1 underlying_u8s hi hz1 g q.length cap (u8s q) hs hown ad l.length c (u8s l) hx (by rw [u8s_len]; omega)
      (fun j u hj => ?_) (fun u hu => by simp only [u8s, List.mem_map] at hu; obtain ⟨y, _, rfl⟩ := hu; rfl) hfit fun w' h1 h2 => ?_
    · have hjl : j < l.length := by
        have := (List.getElem?_eq_some_iff.1 hj).1
        rwa [u8s_len] at this
      rw [u8s_get l j hjl] at hj
      rw [hc j hjl]; exact hj
    · refine h w' ?_ (fun B z hB hz => hz.grown h2 (by have := (World.ownsRow.lt hown g rfl).2; omega) (fun j hj => by cases hj; omega)) (fun b z hb hne => (h2.block b (block_lt hb) (fun e => hne (Option.some.inj e))).trans hb) h2.size
      unfold Owns
      rw [List.length_append, u8s_app]
      exact h1

theorem bytes_four {w : World} {g : Nat} {x0 x1 x2 x3 : Int} {t : TypeId} {fr : Nat × Nat} {cap : Nat} (n : Nat) (h : w.heap[g]? = some (.cells #[.int .u8 x0, .int .u8 x1, .int .u8 x2, .int .u8 x3] t fr)) (e0 : x0 = (n % 256 : Nat)) (e1 : x1 = (n / 256 % 256 : Nat)) (e2 : x2 = (n / 65536 % 256 : Nat)) (e3 : x3 = (n / 16777216 % 256 : Nat)) :
    BytesAt w (.slice (some ⟨g, 0, none⟩) 4 cap) (w4 n) :=
  .inr ⟨_, _, rfl, fun j hj => by
    rw [Addr.add_lit, Nat.zero_add]
    unfold World.cell?
    simp only [h]
    have hj' : j < 4 := hj
    have : j = 0 ∨ j = 1 ∨ j = 2 ∨ j = 3 := by omega
    subst e0 e1 e2 e3
    rcases this with rfl | rfl | rfl | rfl <;> rfl⟩

set_option maxRecDepth 100000 in
set_option maxHeartbeats 1000000 in
theorem put4_any (g k cap : Nat) (q : List Nat) (hq : q.length = k) (n : Nat) (hn : n < 4294967296) (w : World) (hown : Owns w g (.slice (some ⟨g, 0, none⟩) k cap) q) (hfit : k + 4 ≤ cap) :
    Calls Try.prog 75 #[.slice (some ⟨g, 0, none⟩) k cap, .int .u32 (n : Int)] w fun e w' => e = .returned (.slice (some ⟨g, 0, none⟩) (k + 4) cap) ∧ Owns w' g (.slice (some ⟨g, 0, none⟩) (k + 4) cap) (q ++ w4 n) ∧
      (∀ B z, B ≤ g → Below B z w → Below B z w') ∧ (∀ b z, w.heap[b]? = some z → b ≠ g → w'.heap[b]? = some z) ∧ w.heap.size ≤ w'.heap.size := by
  have HO := Lib.hid hown; have HQ := Lib.hid hq
  have HGL : g < w.heap.size := (World.ownsRow.lt hown g rfl).2
  clear hown hq
  go_enter Try.func75, Try.ntmps75
  go_wp2_with (at_builtin; refine wpList_append_fit_u8 rfl (.tmp 5) (.tmp 17) rfl g k cap q rfl HQ.out (HO.out.keep (below_alloc (Below.refl _ _) _)) _ (w4 n) 4 rfl rfl (by omega) (bytes_four n (heap_new _ _) (by omega) (by omega) (by omega) (by omega)) hfit (fun w' h1 h2 h3 h4 => ?_))
  go_ret
  exact ⟨rfl, h1, fun B z hB hz => h2 B z hB (hz.alloc (by omega) _), fun b z hb hne => h3 b z (keep_alloc _ hb) hne, by have := h4; simp at this; omega⟩
end Go.Proofs.Ytnbppbnjkmopeaa
