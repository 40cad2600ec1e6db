/- Rows of IDs of the call's own: where they lie, cut short, written into. No condition. -/
import Derived.Test.YtnbppbnjkmopeaaMk1
import Derived.Maps.AppendAt
import Derived.Deep.Upon
namespace Go.Proofs.Ytnbppbnjkmopeaa
open Go.RowKit

theorem idsL_take : ∀ (l : List Nat) (k : Nat), idsL (l.take k) = (idsL l).take (k * 32)
  | [], k => by simp [idsL]
  | a :: l, 0 => by simp [idsL]
  | a :: l, k + 1 => by
    rw [List.take_succ_cons, idsL, idsL, idsL_take l k, List.take_append, ids_len, show (k + 1) * 32 - 32 = k * 32 by omega, List.take_of_length_le (l := ids a) (by rw [ids_len]; omega)]
theorem OwnsI.cut {w : World} {base g cap n k : Nat} {l : List Nat} (h : OwnsI w base (.slice (some ⟨g, 0, none⟩) n cap) l) (hn : l.length = n) (hk : k ≤ n) : OwnsI w base (.slice (some ⟨g, 0, none⟩) k cap) (l.take k) := by
  subst hn
  obtain ⟨h1, h2⟩ := h
  rcases h2 with ⟨e, _⟩ | ⟨g', cap', cur, e, hb, hh, hnc, hcm, hcs, ht⟩
  · cases e
  · simp only [Value.slice.injEq, Option.some.injEq, Addr.mk.injEq, and_true, true_and] at e
    obtain ⟨rfl, rfl⟩ := e
    have hl : (l.take k).length = k := by rw [List.length_take]; omega
    refine ⟨idsL_len _, .inr ⟨g, cap, cur, by rw [hl], hb, hh, by omega, hcm, hcs, ?_⟩⟩
    rw [hl, idsL_take, ← ht, List.take_take, Nat.min_eq_left (by omega)]
/-- a list with some written over it -/
def setAt {α : Type} : List α → Nat → List α → List α
  | xs, _, [] => xs
  | xs, o, v :: vs => setAt (xs.set o v) (o + 1) vs
theorem setAt_len {α : Type} : ∀ (vs xs : List α) (o : Nat), (setAt xs o vs).length = xs.length
  | [], _, _ => rfl
  | v :: vs, xs, o => by rw [setAt, setAt_len vs, List.length_set]
theorem setAt_get {α : Type} : ∀ (vs xs : List α) (o j : Nat), o + vs.length ≤ xs.length → (setAt xs o vs)[j]? = if o ≤ j ∧ j < o + vs.length then vs[j - o]? else xs[j]?
  | [], xs, o, j, _ => by rw [setAt, if_neg (by rw [List.length_nil]; omega)]
  | v :: vs, xs, o, j, h => by
    rw [List.length_cons] at h
    rw [setAt, setAt_get vs _ (o + 1) j (by rw [List.length_set]; omega), List.getElem?_set, List.length_cons]
    by_cases e : o = j
    · subst e
      rw [if_neg (by omega), if_pos rfl, if_pos (by omega), if_pos (by omega), Nat.sub_self]
      rfl
    · rw [if_neg e]
      by_cases h2 : o + 1 ≤ j ∧ j < o + 1 + vs.length
      · rw [if_pos h2, if_pos (by omega), show j - o = (j - (o + 1)) + 1 by omega]
        rfl
      · rw [if_neg h2, if_neg (by omega)]
theorem idsL_set (l : List Nat) (i p : Nat) (h : i < l.length) : idsL (l.set i p) = setAt (idsL l) (i * 32) (ids p) := by
  apply List.ext_getElem?
  intro j
  rw [setAt_get _ _ _ _ (by rw [ids_len, idsL_len]; omega), ids_len]
  by_cases hj : j < l.length * 32
  · have ej : j = j / 32 * 32 + j % 32 := by omega
    have h1 := idsL_get (l.set i p) (j / 32) (j % 32) (by rw [List.length_set]; omega) (by omega)
    have h2 := idsL_get l (j / 32) (j % 32) (by omega) (by omega)
    rw [← ej] at h1 h2
    rw [h1, h2]
    by_cases e : i = j / 32
    · rw [if_pos (by omega), show j - i * 32 = j % 32 by omega, ids_get p (j % 32) (by omega), List.getD_eq_getElem?_getD, List.getElem?_set, if_pos e, if_pos (by omega)]
      rfl
    · rw [if_neg (by omega), List.getD_eq_getElem?_getD, List.getElem?_set, if_neg e, ← List.getD_eq_getElem?_getD]
  · rw [if_neg (by omega), List.getElem?_eq_none (by rw [idsL_len, List.length_set]; omega), List.getElem?_eq_none (by rw [idsL_len]; omega)]
theorem own_setCells {base e' size g n cap : Nat} : ∀ (vs : List Value) (o : Nat) (w : World) (xs : List Value), w.ownsRow base e' size (.slice (some ⟨g, 0, none⟩) n cap) n xs →
    (w.setCells g o vs).ownsRow base e' size (.slice (some ⟨g, 0, none⟩) n cap) n (setAt xs o vs) ∧ w.grownBy (w.setCells g o vs) (some g)
  | [], _, w, _, h => ⟨h, World.grownBy.refl w _⟩
  | v :: vs, o, w, xs, h => by
    obtain ⟨h1, h2⟩ := World.ownsRow.stored h o v
    obtain ⟨h3, h4⟩ := own_setCells vs (o + 1) _ _ h1
    exact ⟨h3, h2.trans h4⟩
set_option maxRecDepth 100000 in
/-- an ID is stored into the call's own row -/
theorem wpList_store_row {ops : Array Oper} {rest : List Oper} {op : Oper} {a : Act} {w : World} {Q : Exit → Act → World → Prop} (hgd : op.guard = none) (x y : Operand) (ho : op.op = .store 24 x y)
    (base g cap n i p : Nat) (l : List Nat) (hx : a.eval x = .pointer (some ⟨g, i * 32, none⟩)) (hy : a.eval y = iv p) (hn : l.length = n) (hi : i < n) (hown : OwnsI w base (.slice (some ⟨g, 0, none⟩) n cap) l)
    (h : ∀ w', OwnsI w' base (.slice (some ⟨g, 0, none⟩) n cap) (l.set i p) → w.grownBy w' (some g) → wpList Try.prog ops Q rest (a.put op.dst undef) w') :
    wpList Try.prog ops Q (op :: rest) a w := by
  subst hn
  refine wpList_store_mid hgd 24 x y ho g (i * 32) (ids p).toArray hx hy ?_ (by rw [ids_size]; kernel_rfl) ?_ ?_
  · rw [ids_size]
    intro j hj
    refine ⟨?_, World.ownsRow.frozenAt hown _⟩
    rw [World.ownsRow.cellAt hown (i * 32 + j) (by omega), idsL_get l i j hi hj]
    rfl
  · exact all_oneCell_toArray fun v hv => by
      simp only [ids, List.mem_map] at hv
      obtain ⟨i, _, rfl⟩ := hv
      rfl
  · obtain ⟨h1, h2⟩ := own_setCells (ids p) (i * 32) w _ hown
    refine h _ ?_ h2
    unfold OwnsI
    rw [List.length_set, idsL_set l i p hi]
    exact h1
/-- do two rows lie apart? -/
def Apart (v u : Value) : Prop := ∀ g, v.ownBlock = some g → u.ownBlock ≠ some g
theorem Apart.symm {v u : Value} (h : Apart v u) : Apart u v := fun g e e2 => h g e2 e
theorem Apart.nil (u : Value) : Apart (.slice none 0 0) u := fun g e => by simp [Value.ownBlock] at e
theorem Apart.cutR {v : Value} {g n n' c : Nat} (h : Apart v (.slice (some ⟨g, 0, none⟩) n c)) : Apart v (.slice (some ⟨g, 0, none⟩) n' c) := fun b e => h b e
theorem OwnsI.keptA {w w' : World} {base : Nat} {v u : Value} {l : List Nat} (h : OwnsI w base u l) (hg : w.grownBy w' v.ownBlock) (ha : Apart v u) : OwnsI w' base u l :=
  World.ownsRow.kept h hg (by
    rcases e : u.ownBlock with _ | g
    · exact .inl rfl
    · exact .inr fun e2 => ha g e2.symm e)
theorem Apart.app {w : World} {base : Nat} {v v' u : Value} {l : List Nat} (ha : Apart v u) (h : OwnsI w base u l) (hv : v'.ownBlock = v.ownBlock ∨ v'.ownBlock = some w.heap.size) : Apart v' u := fun g e e2 => by
  rcases hv with hv | hv
  · exact ha g (hv.symm.trans e) e2
  · have h1 : g = w.heap.size := by rw [hv] at e; exact (Option.some.inj e).symm
    have := (World.ownsRow.lt h g e2).2
    omega
theorem OwnsI.below {w w' u : World} {base B : Nat} {v : Value} {l : List Nat} (h : OwnsI w base v l) (hb : Below B u w) (hg : w.grownBy w' v.ownBlock) (hB : B ≤ base) (hs : B ≤ w.heap.size) : Below B u w' :=
  hb.grown hg hs fun k hk => Nat.le_trans hB (World.ownsRow.lt h k hk).1
set_option maxRecDepth 100000 in
/-- an ID is appended to the call's own row, and where the row lies then -/
theorem wpList_append_id_at {ops : Array Oper} {rest : List Oper} {o : Oper} {a : Act} {w : World} {Q : Exit → Act → World → Prop} (hgd : o.guard = none) (s x : Operand)
    (ho : o.op = .call { callee := .builtin .append, args := #[s, x], argTypes := #[116, 116] })
    (base : Nat) (v : Value) (q : List Nat) (hs : a.eval s = v) (hown : OwnsI w base v q) (y g : Nat) (hx : a.eval x = .slice (some ⟨g, 0, none⟩) 1 1) (hg : w.heap[g]? = some (.cells (idsL [y]).toArray 24 (0, 0)))
    (hL : q.length + 1 ≤ 1000000) (hbase : base ≤ w.heap.size)
    (h : ∀ v' w', OwnsI w' base v' (q ++ [y]) → w.grownBy w' v.ownBlock → (v'.ownBlock = v.ownBlock ∨ v'.ownBlock = some w.heap.size) → wpList Try.prog ops Q rest (a.put o.dst v') w') :
    wpList Try.prog ops Q (o :: rest) a w := by
  obtain ⟨i0, hi, hz0, hz1, hz2⟩ := info_parts info_id
  refine wpList_append_own_at w hgd s x 116 ho base 24 i0 (iv 0) 32 32 underlying_ids hi hz0 hz1 hz2 (by kernel_rfl) (by decide) v q.length (idsL q) hs hown ⟨g, 0, none⟩ 1 1 (idsL [y]) hx (by rw [idsL_len]; rfl)
      (fun j u hj => ?_) (fun u hu => ?_) (by unfold maxLen; omega) (by omega) hbase fun v' w' hown' hgrow _ hat => ?_
  · have hjl : j < 32 := by
      have := (List.getElem?_eq_some_iff.1 hj).1
      rw [idsL_len] at this
      simpa using this
    rw [Addr.add_lit, Nat.zero_add, cell_of_row _ _ _ _ _ _ hg, List.getElem?_toArray]
    exact hj
  · obtain ⟨j, hj⟩ := List.getElem?_of_mem hu
    have hjl : j < 32 := by
      have := (List.getElem?_eq_some_iff.1 hj).1
      rw [idsL_len] at this
      simpa using this
    have := idsL_get [y] 0 j (by simp) hjl
    rw [Nat.zero_mul, Nat.zero_add, hj] at this
    rw [Option.some.inj this]
    rfl
  · refine h v' w' ?_ hgrow hat
    unfold OwnsI
    rw [List.length_append, idsL_app]
    exact hown'
theorem OwnsI.rows {w : World} {base : Nat} {v : Value} {l : List Nat} (h : OwnsI w base v l) : ∃ x cap, v = .slice x l.length cap ∧ (l ≠ [] → ∃ b o, x = some ⟨b, o, none⟩ ∧ IdsAt w b o l) := by
  by_cases hl : l = []
  · obtain ⟨x, c, e⟩ := h.shape
    exact ⟨x, c, e, fun hne => absurd hl hne⟩
  · obtain ⟨g, c, e, _, _, hI⟩ := h.at rfl (List.length_pos_iff.2 hl)
    exact ⟨_, c, e, fun _ => ⟨g, 0, rfl, hI⟩⟩
set_option maxRecDepth 100000 in
/-- IDs are appended to the call's own row, and what has grown -/
theorem wpList_append_ids_g {ops : Array Oper} {rest : List Oper} {o : Oper} {a : Act} {w : World} {Q : Exit → Act → World → Prop} (hgd : o.guard = none) (s x : Operand)
    (ho : o.op = .call { callee := .builtin .append, args := #[s, x], argTypes := #[116, 116] })
    (base : Nat) (v : Value) (q : List Nat) (hs : a.eval s = v) (hown : OwnsI w base v q) (l : List Nat) (xa : Option Addr) (c : Nat) (hx : a.eval x = .slice xa l.length c) (hn : xa = none → l = [] ∧ c = 0) (hc : l ≠ [] → ∃ b o, xa = some ⟨b, o, none⟩ ∧ IdsAt w b o l)
    (hL : q.length + l.length ≤ 1000000) (hbase : base ≤ w.heap.size)
    (h : ∀ v' w', OwnsI w' base v' (q ++ l) → w.grownBy w' v.ownBlock → wpList Try.prog ops Q rest (a.put o.dst v') w') :
    wpList Try.prog ops Q (o :: rest) a w := by
  obtain ⟨i0, hi, hz0, hz1, hz2⟩ := info_parts info_id
  have key : ∀ u j, (idsL l)[j]? = some u → ∃ b o, xa = some ⟨b, o, none⟩ ∧ w.cell? ⟨b, o + j, none⟩ = some u ∧ u.oneCell' = true := fun u j hj => by
    have hjl : j < l.length * 32 := by
      have := (List.getElem?_eq_some_iff.1 hj).1
      rwa [idsL_len] at this
    have hne : l ≠ [] := by intro e; subst e; simp at hjl
    obtain ⟨b, o, e, hI⟩ := hc hne
    have ej : j = j / 32 * 32 + j % 32 := by omega
    rw [ej, idsL_get l (j / 32) (j % 32) (by omega) (by omega)] at hj
    obtain rfl := Option.some.inj hj
    refine ⟨b, o, e, ?_, rfl⟩
    rw [← hI (j / 32) (by omega) (j % 32) (by omega)]
    congr 2; omega
  rcases xa with _ | ad
  · obtain ⟨rfl, rfl⟩ := hn rfl
    refine wpList_append_own_none hgd s x 116 ho base 24 i0 32 underlying_ids hi v q.length (idsL q) hs hown hx ?_
    exact h v w (by rw [List.append_nil]; exact hown) (World.grownBy.refl _ _)
  · refine wpList_append_own w hgd s x 116 ho base 24 i0 (iv 0) 32 32 underlying_ids hi hz0 hz1 hz2 (by kernel_rfl) (by decide) v q.length (idsL q) hs hown ad l.length c (idsL l) hx (by rw [idsL_len])
      (fun j u hj => ?_) (fun u hu => ?_) (by unfold maxLen; omega) (by omega) hbase fun v' w' hown' hgrow _ => ?_
    · obtain ⟨b, o, e, h1, _⟩ := key u j hj
      obtain rfl := Option.some.inj e
      rw [Addr.add_lit]; exact h1
    · obtain ⟨j, hj⟩ := List.getElem?_of_mem hu
      exact (key u j hj).elim fun b h => h.elim fun o h => h.2.2
    · refine h v' w' ?_ hgrow
      unfold OwnsI
      rw [List.length_append, idsL_app]
      exact hown'
end Go.Proofs.Ytnbppbnjkmopeaa
