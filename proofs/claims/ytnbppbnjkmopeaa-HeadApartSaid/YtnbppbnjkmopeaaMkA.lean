/- Rows of IDs in memory; merkle.pair. No condition. -/
import Derived.Test.YtnbppbnjkmopeaaHashM
import Derived.Test.YtnbppbnjkmopeaaOpenIds
import Derived.Test.YtnbppbnjkmopeaaRegTail
import Derived.Great.BuildSlice
import Derived.Laws.OwnMore
import Derived.OwnWalk
namespace Go.Proofs.Ytnbppbnjkmopeaa
open Go.RowKit

/-- the cells of a row of IDs -/
def idsL : List Nat → List Value
  | [] => []
  | a :: l => ids a ++ idsL l
theorem idsL_len : ∀ l, (idsL l).length = l.length * 32
  | [] => rfl
  | a :: l => by rw [idsL, List.length_append, ids_len, idsL_len l, List.length_cons]; omega
theorem idsL_app (l m : List Nat) : idsL (l ++ m) = idsL l ++ idsL m := by
  induction l with
  | nil => rfl
  | cons a l ih => rw [List.cons_append, idsL, idsL, ih, List.append_assoc]
theorem idsL_get : ∀ (l : List Nat) (i j : Nat), i < l.length → j < 32 → (idsL l)[i * 32 + j]? = some (.int .u8 (lb (l.getD i 0) j))
  | [], i, j, h, _ => by simp at h
  | a :: l, 0, j, _, hj => by
    rw [idsL, Nat.zero_mul, Nat.zero_add, List.getElem?_append_left (by rw [ids_len]; exact hj), ids_get a j hj, List.getD_cons_zero]
  | a :: l, i + 1, j, h, hj => by
    rw [idsL, List.getElem?_append_right (by rw [ids_len]; omega), ids_len, List.getD_cons_succ, show (i + 1) * 32 + j - 32 = i * 32 + j by omega]
    exact idsL_get l i j (by simpa using h) hj
theorem info_id : (Try.prog.info? 24).map (fun i => (i.zero, i.size, i.bytes)) = some (some (iv 0), 32, 32) := by kernel_rfl
theorem underlying_ids : Try.prog.underlying 116 = some (.slice 24) := by kernel_rfl
theorem fill_1 (a : Nat) : Instr.fill (fun i => some (i * 32, 32)) ((Array.range (1 * 32)).map ((iv 0).cells[· % (iv 0).cells.size]!)) [(0, iv a)] = some (idsL [a]).toArray := by kernel_rfl
theorem fill_2 (a b : Nat) : Instr.fill (fun i => some (i * 32, 32)) ((Array.range (2 * 32)).map ((iv 0).cells[· % (iv 0).cells.size]!)) [(0, iv a), (1, iv b)] = some (idsL [a, b]).toArray := by kernel_rfl

/-- a new row of one ID, of two -/
theorem wpList_build_1 {ops : Array Oper} {rest : List Oper} {o : Oper} {a : Act} {w : World} {Q : Exit → Act → World → Prop} (hgd : o.guard = none) (x : Operand) (n : Nat) (ho : o.op = .buildSlice 116 1 #[(0, x)]) (hx : a.eval x = iv n)
    (h : wpList Try.prog ops Q rest (a.put o.dst (.slice (some ⟨w.heap.size, 0, none⟩) 1 1)) (w.alloc (.cells (idsL [n]).toArray 24 (0, 0)))) : wpList Try.prog ops Q (o :: rest) a w := by
  obtain ⟨i0, hi, hz0, hz1, hz2⟩ := info_parts info_id
  refine wpList_buildSlice hgd 116 24 1 _ ho (idsL [n]).toArray i0 (iv 0) underlying_ids hi hz0 (by rw [hz1]; decide) (by rw [hz1]; decide) ?_ h
  rw [hz1]
  simp only [List.map_toArray, List.map_cons, List.map_nil, hx]
  exact fill_1 n
theorem wpList_build_2 {ops : Array Oper} {rest : List Oper} {o : Oper} {a : Act} {w : World} {Q : Exit → Act → World → Prop} (hgd : o.guard = none) (x y : Operand) (n m : Nat) (ho : o.op = .buildSlice 116 2 #[(0, x), (1, y)]) (hx : a.eval x = iv n) (hy : a.eval y = iv m)
    (h : wpList Try.prog ops Q rest (a.put o.dst (.slice (some ⟨w.heap.size, 0, none⟩) 2 2)) (w.alloc (.cells (idsL [n, m]).toArray 24 (0, 0)))) : wpList Try.prog ops Q (o :: rest) a w := by
  obtain ⟨i0, hi, hz0, hz1, hz2⟩ := info_parts info_id
  refine wpList_buildSlice hgd 116 24 2 _ ho (idsL [n, m]).toArray i0 (iv 0) underlying_ids hi hz0 (by rw [hz1]; decide) (by rw [hz1]; decide) ?_ h
  rw [hz1]
  simp only [List.map_toArray, List.map_cons, List.map_nil, hx, hy]
  exact fill_2 n m

theorem IdsAt.keep {w w' : World} {b o : Nat} {l : List Nat} (h : IdsAt w b o l) (hb : Below w.heap.size w w') : IdsAt w' b o l := fun i hi j hj =>
  (hb.cell (p := ⟨b, o + i * 32 + j, none⟩) (block_lt_of_cell (h i hi j hj))).trans (h i hi j hj)
theorem IdsAt.row {w : World} {g : Nat} {l : List Nat} {t : TypeId} {fr : Nat × Nat} (h : w.heap[g]? = some (.cells (idsL l).toArray t fr)) : IdsAt w g 0 l := fun i hi j hj => by
  rw [cell_of_row _ _ _ _ _ _ h, List.getElem?_toArray, Nat.zero_add, idsL_get l i j hi hj]
theorem IdsAt.range {w : World} {b o : Nat} {l : List Nat} (h : IdsAt w b o l) {i : Nat} (hi : i < l.length) : w.rangeAt b (o + i * 32) (ids (l.getD i 0)) := fun j v hv => by
  have hj : j < 32 := by
    have := (List.getElem?_eq_some_iff.1 hv).1
    rwa [ids_len] at this
  rw [ids_get _ j hj] at hv
  rw [h i hi j hj]; exact hv
/-- an ID of a row is loaded -/
theorem wpList_load_at {ops : Array Oper} {rest : List Oper} {op : Oper} {a : Act} {w : World} {Q : Exit → Act → World → Prop} (hgd : op.guard = none) (x : Operand) (ho : op.op = .load 24 x)
    (g o n : Nat) (hx : a.eval x = .pointer (some ⟨g, o, none⟩)) (hr : w.rangeAt g o (ids n)) (h : wpList Try.prog ops Q rest (a.put op.dst (iv n)) w) : wpList Try.prog ops Q (op :: rest) a w :=
  wpList_load_mid hgd 24 x ho g o hx (ids n) (.array 32 5) hr (by kernel_rfl) rfl (by rw [ids_len]; kernel_rfl) h

/-- the call's own row of IDs -/
def OwnsI (w : World) (base : Nat) (v : Value) (l : List Nat) : Prop := w.ownsRow base 24 32 v l.length (idsL l)
theorem OwnsI.nil (w : World) (base : Nat) : OwnsI w base (.slice none 0 0) [] := World.ownsRow_nil _ _ _ _
theorem OwnsI.new (w : World) (base : Nat) (hb : base ≤ w.heap.size) : OwnsI (w.alloc (.cells #[] 24 (0, 0))) base (.slice (some ⟨w.heap.size, 0, none⟩) 0 0) [] :=
  World.ownsRow_lit w #[] 0 hb (by unfold maxLen; omega) rfl
theorem OwnsI.keep {w w' : World} {base : Nat} {v : Value} {l : List Nat} (h : OwnsI w base v l) (hb : Below w.heap.size w w') : OwnsI w' base v l := by
  refine ⟨h.1, ?_⟩
  rcases h.2 with h' | ⟨g, cap, cur, rfl, h1, h2, h3⟩
  · exact .inl h'
  · exact .inr ⟨g, cap, cur, rfl, h1, below_keep hb h2, h3⟩
theorem OwnsI.mono {w : World} {base base2 : Nat} {v : Value} {l : List Nat} (h : OwnsI w base v l) (hb : base2 ≤ base) : OwnsI w base2 v l := World.ownsRow.mono h hb
theorem OwnsI.shape {w : World} {base : Nat} {v : Value} {l : List Nat} (h : OwnsI w base v l) : ∃ x cap, v = .slice x l.length cap := by
  rcases h.2 with ⟨rfl, hq⟩ | ⟨g, cap, cur, rfl, _⟩
  · exact ⟨_, _, by rw [hq]⟩
  · exact ⟨_, _, rfl⟩
theorem OwnsI.at {w : World} {base n : Nat} {v : Value} {l : List Nat} (h : OwnsI w base v l) (hn : l.length = n) (h0 : 0 < n) : ∃ g cap, v = .slice (some ⟨g, 0, none⟩) n cap ∧ base ≤ g ∧ g < w.heap.size ∧ IdsAt w g 0 l := by
  subst hn
  have h' := h
  rcases h.2 with ⟨rfl, hq⟩ | ⟨g, cap, cur, rfl, h1, h2, h3⟩
  · omega
  · exact ⟨g, cap, rfl, h1, block_lt h2, fun i hi j hj => by rw [Nat.zero_add, World.ownsRow.cellAt h' (i * 32 + j) (by omega), idsL_get l i j hi hj]⟩
set_option maxRecDepth 100000 in
/-- IDs are appended to the call's own row -/
theorem wpList_append_ids {ops : Array Oper} {rest : List Oper} {o : Oper} {a : Act} {w : World} {Q : Exit → Act → World → Prop} (hgd : o.guard = none) (s x : Operand)
    (ho : o.op = .call { callee := .builtin .append, args := #[s, x], argTypes := #[116, 116] })
    (base : Nat) (v : Value) (q : List Nat) (hs : a.eval s = v) (hown : OwnsI w base v q) (l : List Nat) (xa : Option Addr) (c : Nat) (hx : a.eval x = .slice xa l.length c) (hn : xa = none → l = [] ∧ c = 0) (hc : l ≠ [] → ∃ b o, xa = some ⟨b, o, none⟩ ∧ IdsAt w b o l)
    (hL : q.length + l.length ≤ 1000000) (hbase : base ≤ w.heap.size)
    (h : ∀ v' w', OwnsI w' base v' (q ++ l) → (∀ B u, B ≤ base → Below B u w → Below B u w') → wpList Try.prog ops Q rest (a.put o.dst v') w') :
    wpList Try.prog ops Q (o :: rest) a w := by
  obtain ⟨i0, hi, hz0, hz1, hz2⟩ := info_parts info_id
  rcases xa with _ | ad
  · obtain ⟨rfl, rfl⟩ := hn rfl
    refine wpList_append_own_none hgd s x 116 ho base 24 i0 32 underlying_ids hi v q.length (idsL q) hs hown hx ?_
    exact h v w (by rw [List.append_nil]; exact hown) fun B u _ hB => hB
  · refine wpList_append_own w hgd s x 116 ho base 24 i0 (iv 0) 32 32 underlying_ids hi hz0 hz1 hz2 (by kernel_rfl) (by decide) v q.length (idsL q) hs hown ad l.length c (idsL l) hx (by rw [idsL_len])
      (fun j u hj => ?_) (fun u hu => ?_) (by unfold maxLen; omega) (by omega) hbase fun v' w' hown' hgrow _ => ?_
    · have hjl : j < l.length * 32 := by
        have := (List.getElem?_eq_some_iff.1 hj).1
        rwa [idsL_len] at this
      have hne : l ≠ [] := by intro e; subst e; simp at hjl
      obtain ⟨b, o, e, hI⟩ := hc hne
      obtain rfl := Option.some.inj e
      have ej : j = j / 32 * 32 + j % 32 := by omega
      rw [ej, idsL_get l (j / 32) (j % 32) (by omega) (by omega)] at hj
      rw [Addr.add_lit, ← hj, ← hI (j / 32) (by omega) (j % 32) (by omega)]
      congr 2; omega
    · obtain ⟨j, hj⟩ := List.getElem?_of_mem hu
      have hjl : j < l.length * 32 := by
        have := (List.getElem?_eq_some_iff.1 hj).1
        rwa [idsL_len] at this
      have ej : j = j / 32 * 32 + j % 32 := by omega
      rw [ej, idsL_get l (j / 32) (j % 32) (by omega) (by omega)] at hj
      obtain rfl := Option.some.inj hj
      rfl
    · refine h v' w' ?_ fun B u hB hu => ?_
      · unfold OwnsI
        rw [List.length_append, idsL_app]
        exact hown'
      · exact hu.grown hgrow (by omega) (fun j hj => by have := (World.ownsRow.lt hown j hj).1; omega)
end Go.Proofs.Ytnbppbnjkmopeaa
