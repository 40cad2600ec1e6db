/- Numbers in memory as a whole: loaded, stored; rows of numbers of the call's own. No condition. -/
import Derived.Test.YtnbppbnjkmopeaaNumAr
import Derived.Test.YtnbppbnjkmopeaaHash2
import Derived.Maps.AppendAt
import Derived.Great.BuildSlice
import Derived.Laws.OwnMore
import Derived.OwnWalk
import Derived.Deep.MidRow
namespace Go.Proofs.Ytnbppbnjkmopeaa
open Go.RowKit

/-- the cells of a number -/
def nvs (n : Nat) : List Value := [.int .u64 (lw n 0), .int .u64 (lw n 1), .int .u64 (lw n 2), .int .u64 (lw n 3)]
theorem nvs_len (n : Nat) : (nvs n).length = 4 := rfl
theorem nvs_one (n : Nat) : ∀ v ∈ nvs n, v.oneCell' = true := fun v hv => by
  simp only [nvs, List.mem_cons, List.not_mem_nil, or_false] at hv
  rcases hv with rfl | rfl | rfl | rfl <;> rfl
def nbk (n : Nat) : Obj := .cells (nvs n).toArray 47 (0, 0)
theorem nv_nvs (n : Nat) : nv n = .agg (nvs n).toArray := rfl
theorem nbk_range {w : World} {g n : Nat} (h : w.heap[g]? = some (nbk n)) : w.rangeAt g 0 (nvs n) := fun j v hv => by
  rw [Nat.zero_add, cell_of_row _ _ _ _ _ _ h, List.getElem?_toArray]; exact hv
theorem nbk_there {w : World} {g n : Nat} (h : w.heap[g]? = some (nbk n)) : w.there g 0 4 := fun j hj => by
  refine ⟨?_, frozen_of_row _ _ _ _ _ h⟩
  rw [Nat.zero_add, cell_of_row _ _ _ _ _ _ h, List.getElem?_toArray, List.getElem?_eq_getElem (by rw [nvs_len]; exact hj)]; rfl
theorem num_info : (Try.prog.info? 47).map (·.size) = some 4 := by kernel_rfl
theorem num_row : (Try.prog.underlying 47).map (·.isRow) = some true := by kernel_rfl
/-- a number is loaded from anywhere -/
theorem wpList_load_nr {ops : Array Oper} {rest : List Oper} {op : Oper} {a : Act} {w : World} {Q : Exit → Act → World → Prop} (hgd : op.guard = none) (x : Operand) (ho : op.op = .load 47 x)
    (g o n : Nat) (hx : a.eval x = .pointer (some ⟨g, o, none⟩)) (hr : w.rangeAt g o (nvs n)) (h : wpList Try.prog ops Q rest (a.put op.dst (nv n)) w) : wpList Try.prog ops Q (op :: rest) a w := by
  obtain ⟨d, hu, hd⟩ := Option.map_eq_some_iff.1 num_row
  exact wpList_load_mid hgd 47 x ho g o hx (nvs n) d hr hu hd num_info h
theorem wpList_load_nv {ops : Array Oper} {rest : List Oper} {op : Oper} {a : Act} {w : World} {Q : Exit → Act → World → Prop} (hgd : op.guard = none) (x : Operand) (ho : op.op = .load 47 x)
    (g n : Nat) (hx : a.eval x = .pointer (some ⟨g, 0, none⟩)) (hb : w.heap[g]? = some (nbk n)) (h : wpList Try.prog ops Q rest (a.put op.dst (nv n)) w) : wpList Try.prog ops Q (op :: rest) a w :=
  wpList_load_nr hgd x ho g 0 n hx (nbk_range hb) h
theorem wpList_store_nv {ops : Array Oper} {rest : List Oper} {op : Oper} {a : Act} {w : World} {Q : Exit → Act → World → Prop} (hgd : op.guard = none) (x y : Operand) (ho : op.op = .store 47 x y)
    (g m n : Nat) (hx : a.eval x = .pointer (some ⟨g, 0, none⟩)) (hy : a.eval y = nv n) (hb : w.heap[g]? = some (nbk m))
    (h : ∀ w', w'.heap[g]? = some (nbk n) → (∀ b, b ≠ g → w'.heap[b]? = w.heap[b]?) → w'.heap.size = w.heap.size → (∀ B u, B ≤ g → Below B u w → Below B u w') → wpList Try.prog ops Q rest (a.put op.dst undef) w') :
    wpList Try.prog ops Q (op :: rest) a w := by
  refine wpList_store_mid hgd 47 x y ho g 0 (nvs n).toArray hx hy (nbk_there hb) num_info (all_oneCell_toArray (nvs_one n)) (h _ ?_ (fun b hne => heap_setCells_far g _ _ _ b hne) (size_setCells_id g _ _ _) fun B u hB hu => below_setCells_id g hB _ _ _ hu)
  exact heap_setCells_row g 47 (nvs n) (nvs m) [] w rfl hb
theorem nbk_zero : Obj.cells #[.int .u64 0, .int .u64 0, .int .u64 0, .int .u64 0] 47 (0, 0) = nbk 0 := by unfold nbk nvs lw; rfl

/-- the cells of a row of numbers -/
def numsL : List Nat → List Value
  | [] => []
  | a :: l => nvs a ++ numsL l
theorem numsL_len : ∀ l, (numsL l).length = l.length * 4
  | [] => rfl
  | a :: l => by rw [numsL, List.length_append, nvs_len, numsL_len l, List.length_cons]; omega
theorem numsL_app (l m : List Nat) : numsL (l ++ m) = numsL l ++ numsL m := by
  induction l with
  | nil => rfl
  | cons a l ih => rw [List.cons_append, numsL, numsL, ih, List.append_assoc]
theorem nvs_get (n j : Nat) (h : j < 4) : (nvs n)[j]? = some (.int .u64 (lw n j)) := by
  match j, h with
  | 0, _ => rfl
  | 1, _ => rfl
  | 2, _ => rfl
  | 3, _ => rfl
theorem numsL_get : ∀ (l : List Nat) (i j : Nat), i < l.length → j < 4 → (numsL l)[i * 4 + j]? = some (.int .u64 (lw (l.getD i 0) j))
  | [], i, j, h, _ => by simp at h
  | a :: l, 0, j, _, hj => by
    rw [numsL, Nat.zero_mul, Nat.zero_add, List.getElem?_append_left (by rw [nvs_len]; exact hj), nvs_get a j hj, List.getD_cons_zero]
  | a :: l, i + 1, j, h, hj => by
    rw [numsL, List.getElem?_append_right (by rw [nvs_len]; omega), nvs_len, List.getD_cons_succ, show (i + 1) * 4 + j - 4 = i * 4 + j by omega]
    exact numsL_get l i j (by simpa using h) hj
theorem underlying_nums : Try.prog.underlying 109 = some (.slice 47) := by kernel_rfl
theorem info_num : (Try.prog.info? 47).map (fun i => (i.zero, i.size, i.bytes)) = some (some (.agg #[.int .u64 0, .int .u64 0, .int .u64 0, .int .u64 0]), 4, 32) := by kernel_rfl
theorem fill_num (a : Value) (a0 a1 a2 a3 : Value) (e : a = .agg #[a0, a1, a2, a3]) : Instr.fill (fun i => some (i * 4, 4)) ((Array.range (1 * 4)).map ((Value.agg #[.int .u64 0, .int .u64 0, .int .u64 0, .int .u64 0]).cells[· % (Value.agg #[.int .u64 0, .int .u64 0, .int .u64 0, .int .u64 0]).cells.size]!)) [(0, a)] = some #[a0, a1, a2, a3] := by subst e; kernel_rfl
theorem wpList_build_num {ops : Array Oper} {rest : List Oper} {o : Oper} {a : Act} {w : World} {Q : Exit → Act → World → Prop} (hgd : o.guard = none) (x : Operand) (n : Nat) (ho : o.op = .buildSlice 109 1 #[(0, x)]) (hx : a.eval x = nv n)
    (h : wpList Try.prog ops Q rest (a.put o.dst (.slice (some ⟨w.heap.size, 0, none⟩) 1 1)) (w.alloc (.cells (numsL [n]).toArray 47 (0, 0)))) : wpList Try.prog ops Q (o :: rest) a w := by
  obtain ⟨i0, hi, hz0, hz1, hz2⟩ := info_parts info_num
  refine wpList_buildSlice hgd 109 47 1 _ ho (numsL [n]).toArray i0 _ underlying_nums hi hz0 (by rw [hz1]; decide) (by rw [hz1]; decide) ?_ h
  rw [hz1]
  simp only [List.map_toArray, List.map_cons, List.map_nil, hx]
  exact fill_num _ _ _ _ _ rfl
/-- the call's own row of numbers -/
def OwnsN (w : World) (base : Nat) (v : Value) (l : List Nat) : Prop := w.ownsRow base 47 4 v l.length (numsL l)
theorem OwnsN.nil (w : World) (base : Nat) : OwnsN w base (.slice none 0 0) [] := World.ownsRow_nil _ _ _ _
theorem OwnsN.keep {w w' : World} {base : Nat} {v : Value} {l : List Nat} (h : OwnsN w base v l) (hb : Below w.heap.size w w') : OwnsN w' base v l := by
  refine ⟨h.1, ?_⟩
  rcases h.2 with h' | ⟨g, cap, cur, rfl, h1, h2, h3⟩
  · exact .inl h'
  · exact .inr ⟨g, cap, cur, rfl, h1, below_keep hb h2, h3⟩
theorem OwnsN.rows {w : World} {base : Nat} {v : Value} {l : List Nat} (h : OwnsN w base v l) : ∃ x cap, v = .slice x l.length cap ∧ (l ≠ [] → ∃ b o, x = some ⟨b, o, none⟩ ∧ b < w.heap.size ∧ NumsAt w b o l) := by
  have h' := h
  rcases h.2 with ⟨rfl, hq⟩ | ⟨g, cap, cur, rfl, h1, h2, h3⟩
  · exact ⟨_, _, by rw [hq], fun hne => absurd (List.length_eq_zero_iff.1 hq) hne⟩
  · exact ⟨_, _, rfl, fun _ => ⟨g, 0, rfl, block_lt h2, fun i hi j hj => by rw [Nat.zero_add, World.ownsRow.cellAt h' (i * 4 + j) (by omega), numsL_get l i j hi hj]⟩⟩
/-- rows of unlike elements lie apart -/
theorem own_types {w : World} {b1 b2 : Nat} {e1 e2 : TypeId} {s1 s2 n1 n2 : Nat} {v u : Value} {xs ys : List Value} (h : w.ownsRow b1 e1 s1 v n1 xs) (k : w.ownsRow b2 e2 s2 u n2 ys) (hne : e1 ≠ e2) : v.ownBlock = none ∨ v.ownBlock ≠ u.ownBlock := by
  rcases h.2 with ⟨rfl, _⟩ | ⟨g, cap, cur, rfl, _, h2, _⟩
  · exact .inl rfl
  · rcases k.2 with ⟨rfl, _⟩ | ⟨g', cap', cur', rfl, _, k2, _⟩
    · exact .inr (by simp [Value.ownBlock])
    · refine .inr fun e => ?_
      have : g = g' := by simpa [Value.ownBlock] using e
      subst this
      rw [h2] at k2
      simp only [Option.some.injEq, Obj.cells.injEq] at k2
      exact hne k2.2.1
set_option maxRecDepth 100000 in
/-- a number is appended to the call's own row -/
theorem wpList_append_num {ops : Array Oper} {rest : List Oper} {o : Oper} {a : Act} {w : World} {Q : Exit → Act → World → Prop} (hgd : o.guard = none) (s x : Operand)
    (ho : o.op = .call { callee := .builtin .append, args := #[s, x], argTypes := #[109, 109] })
    (base : Nat) (v : Value) (q : List Nat) (hs : a.eval s = v) (hown : OwnsN w base v q) (y g : Nat) (hx : a.eval x = .slice (some ⟨g, 0, none⟩) 1 1) (hg : w.heap[g]? = some (.cells (numsL [y]).toArray 47 (0, 0)))
    (hL : q.length + 1 ≤ 1000000) (hbase : base ≤ w.heap.size)
    (h : ∀ v' w', OwnsN w' base v' (q ++ [y]) → w.grownBy w' v.ownBlock → (v'.ownBlock = v.ownBlock ∨ v'.ownBlock = some w.heap.size) → wpList Try.prog ops Q rest (a.put o.dst v') w') :
    wpList Try.prog ops Q (o :: rest) a w := by
  obtain ⟨i0, hi, hz0, hz1, hz2⟩ := info_parts info_num
  refine wpList_append_own_at w hgd s x 109 ho base 47 i0 _ 4 32 underlying_nums hi hz0 hz1 hz2 rfl (by decide) v q.length (numsL q) hs hown ⟨g, 0, none⟩ 1 1 (numsL [y]) hx rfl
      (fun j u hj => ?_) (fun u hu => nvs_one y u (by simpa [numsL] using hu)) (by unfold maxLen; omega) (by omega) hbase fun v' w' hown' hgrow _ hat => ?_
  · rw [Addr.add_lit, Nat.zero_add, cell_of_row _ _ _ _ _ _ hg, List.getElem?_toArray]
    exact hj
  · refine h v' w' ?_ hgrow hat
    unfold OwnsN
    rw [List.length_append, numsL_app]
    exact hown'
set_option maxRecDepth 100000 in
/-- bytes are appended to the call's own row, and what has grown -/
theorem wpList_append_u8g {ops : Array Oper} {rest : List Oper} {o : Oper} {a : Act} {w : World} {Q : Exit → Act → World → Prop} (hgd : o.guard = none) (s x : Operand)
    (ho : o.op = .call { callee := .builtin .append, args := #[s, x], argTypes := #[27, 27] })
    (base : Nat) (v : Value) (q : List Nat) (hs : a.eval s = v) (hown : Owns w base v q) (u : Value) (l : List Nat) (hx : a.eval x = u) (hu : BytesAt w u l)
    (hL : q.length + l.length ≤ 1000000) (hbase : base ≤ w.heap.size)
    (h : ∀ v' w', Owns w' base v' (q ++ l) → w.grownBy w' v.ownBlock → wpList Try.prog ops Q rest (a.put o.dst v') w') :
    wpList Try.prog ops Q (o :: rest) a w := by
  obtain ⟨i0, hi, hz0, hz1, hz2⟩ := info_parts info_u8
  rcases hu with ⟨rfl, rfl⟩ | ⟨ad, c, rfl, hc⟩
  · refine wpList_append_own_none hgd s x 27 ho base 5 i0 1 underlying_u8s hi v q.length (u8s q) hs hown hx ?_
    exact h v w (by rw [List.append_nil]; exact hown) (World.grownBy.refl _ _)
  · refine wpList_append_own w hgd s x 27 ho base 5 i0 (.int .u8 0) 1 1 underlying_u8s hi hz0 hz1 hz2 rfl (by decide) v q.length (u8s q) hs hown ad l.length c (u8s l) hx (by rw [u8s_len]; omega)
      (fun j u hj => ?_) (fun u hu => by simp only [u8s, List.mem_map] at hu; obtain ⟨y, _, rfl⟩ := hu; rfl) (by unfold maxLen; omega) (by omega) hbase fun v' w' hown' hgrow _ => ?_
    · have hjl : j < l.length := by
        have := (List.getElem?_eq_some_iff.1 hj).1
        rwa [u8s_len] at this
      rw [u8s_get l j hjl] at hj
      rw [hc j hjl]; exact hj
    · refine h v' w' ?_ hgrow
      unfold Owns
      rw [List.length_append, u8s_app]
      exact hown'
end Go.Proofs.Ytnbppbnjkmopeaa
