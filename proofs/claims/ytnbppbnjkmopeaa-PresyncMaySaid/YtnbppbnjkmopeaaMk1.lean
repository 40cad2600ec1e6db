/- Rows of IDs in memory; merkle.pair. No condition. merkle.pair. No condition. merkle.Root in plain lists. No condition. -/
import Derived.Test.YtnbppbnjkmopeaaHash2
import Derived.Test.YtnbppbnjkmopeaaOpenIds
import Derived.Test.YtnbppbnjkmopeaaReg
import Derived.Great.BuildSlice
import Derived.Laws.OwnMore
import Derived.OwnWalk
namespace Go.Proofs.Ytnbppbnjkmopeaa
open Go.RowKit

/-- the cells of a row of IDs -/
def idsL : List Nat → List Value
  | [] => []
  | a :: l => ids a ++ idsL l
theorem idsL_len : ∀ l, (idsL l).length = l.length * 32
  | [] => rfl
  | a :: l => by rw [idsL, List.length_append, ids_len, idsL_len l, List.length_cons]; omega
theorem idsL_app (l m : List Nat) : idsL (l ++ m) = idsL l ++ idsL m := by
  induction l with
  | nil => rfl
  | cons a l ih => rw [List.cons_append, idsL, idsL, ih, List.append_assoc]
theorem idsL_get : ∀ (l : List Nat) (i j : Nat), i < l.length → j < 32 → (idsL l)[i * 32 + j]? = some (.int .u8 (lb (l.getD i 0) j))
  | [], i, j, h, _ => by simp at h
  | a :: l, 0, j, _, hj => by
    rw [idsL, Nat.zero_mul, Nat.zero_add, List.getElem?_append_left (by rw [ids_len]; exact hj), ids_get a j hj, List.getD_cons_zero]
  | a :: l, i + 1, j, h, hj => by
    rw [idsL, List.getElem?_append_right (by rw [ids_len]; omega), ids_len, List.getD_cons_succ, show (i + 1) * 32 + j - 32 = i * 32 + j by omega]
    exact idsL_get l i j (by simpa using h) hj
theorem info_id : (Try.prog.info? 24).map (fun i => (i.zero, i.size, i.bytes)) = some (some (iv 0), 32, 32) := by kernel_rfl
theorem underlying_ids : Try.prog.underlying 116 = some (.slice 24) := by kernel_rfl
theorem fill_1 (a : Nat) : Instr.fill (fun i => some (i * 32, 32)) ((Array.range (1 * 32)).map ((iv 0).cells[· % (iv 0).cells.size]!)) [(0, iv a)] = some (idsL [a]).toArray := by kernel_rfl
theorem fill_2 (a b : Nat) : Instr.fill (fun i => some (i * 32, 32)) ((Array.range (2 * 32)).map ((iv 0).cells[· % (iv 0).cells.size]!)) [(0, iv a), (1, iv b)] = some (idsL [a, b]).toArray := by kernel_rfl

/-- a new row of one ID, of two -/
theorem wpList_build_1 {ops : Array Oper} {rest : List Oper} {o : Oper} {a : Act} {w : World} {Q : Exit → Act → World → Prop} (hgd : o.guard = none) (x : Operand) (n : Nat) (ho : o.op = .buildSlice 116 1 #[(0, x)]) (hx : a.eval x = iv n)
    (h : wpList Try.prog ops Q rest (a.put o.dst (.slice (some ⟨w.heap.size, 0, none⟩) 1 1)) (w.alloc (.cells (idsL [n]).toArray 24 (0, 0)))) : wpList Try.prog ops Q (o :: rest) a w := by
  obtain ⟨i0, hi, hz0, hz1, hz2⟩ := info_parts info_id
  refine wpList_buildSlice hgd 116 24 1 _ ho (idsL [n]).toArray i0 (iv 0) underlying_ids hi hz0 (by rw [hz1]; decide) (by rw [hz1]; decide) ?_ h
  rw [hz1]
  simp only [List.map_toArray, List.map_cons, List.map_nil, hx]
  exact fill_1 n
theorem wpList_build_2 {ops : Array Oper} {rest : List Oper} {o : Oper} {a : Act} {w : World} {Q : Exit → Act → World → Prop} (hgd : o.guard = none) (x y : Operand) (n m : Nat) (ho : o.op = .buildSlice 116 2 #[(0, x), (1, y)]) (hx : a.eval x = iv n) (hy : a.eval y = iv m)
    (h : wpList Try.prog ops Q rest (a.put o.dst (.slice (some ⟨w.heap.size, 0, none⟩) 2 2)) (w.alloc (.cells (idsL [n, m]).toArray 24 (0, 0)))) : wpList Try.prog ops Q (o :: rest) a w := by
  obtain ⟨i0, hi, hz0, hz1, hz2⟩ := info_parts info_id
  refine wpList_buildSlice hgd 116 24 2 _ ho (idsL [n, m]).toArray i0 (iv 0) underlying_ids hi hz0 (by rw [hz1]; decide) (by rw [hz1]; decide) ?_ h
  rw [hz1]
  simp only [List.map_toArray, List.map_cons, List.map_nil, hx, hy]
  exact fill_2 n m

theorem IdsAt.keep {w w' : World} {b o : Nat} {l : List Nat} (h : IdsAt w b o l) (hb : Below w.heap.size w w') : IdsAt w' b o l := fun i hi j hj =>
  (hb.cell (p := ⟨b, o + i * 32 + j, none⟩) (block_lt_of_cell (h i hi j hj))).trans (h i hi j hj)
theorem IdsAt.row {w : World} {g : Nat} {l : List Nat} {t : TypeId} {fr : Nat × Nat} (h : w.heap[g]? = some (.cells (idsL l).toArray t fr)) : IdsAt w g 0 l := fun i hi j hj => by
  rw [cell_of_row _ _ _ _ _ _ h, List.getElem?_toArray, Nat.zero_add, idsL_get l i j hi hj]
theorem IdsAt.range {w : World} {b o : Nat} {l : List Nat} (h : IdsAt w b o l) {i : Nat} (hi : i < l.length) : w.rangeAt b (o + i * 32) (ids (l.getD i 0)) := fun j v hv => by
  have hj : j < 32 := by
    have := (List.getElem?_eq_some_iff.1 hv).1
    rwa [ids_len] at this
  rw [ids_get _ j hj] at hv
  rw [h i hi j hj]; exact hv
/-- an ID of a row is loaded -/
theorem wpList_load_at {ops : Array Oper} {rest : List Oper} {op : Oper} {a : Act} {w : World} {Q : Exit → Act → World → Prop} (hgd : op.guard = none) (x : Operand) (ho : op.op = .load 24 x)
    (g o n : Nat) (hx : a.eval x = .pointer (some ⟨g, o, none⟩)) (hr : w.rangeAt g o (ids n)) (h : wpList Try.prog ops Q rest (a.put op.dst (iv n)) w) : wpList Try.prog ops Q (op :: rest) a w :=
  wpList_load_mid hgd 24 x ho g o hx (ids n) (.array 32 5) hr (by kernel_rfl) rfl (by rw [ids_len]; kernel_rfl) h

/-- the call's own row of IDs -/
def OwnsI (w : World) (base : Nat) (v : Value) (l : List Nat) : Prop := w.ownsRow base 24 32 v l.length (idsL l)
theorem OwnsI.nil (w : World) (base : Nat) : OwnsI w base (.slice none 0 0) [] := World.ownsRow_nil _ _ _ _
theorem OwnsI.new (w : World) (base : Nat) (hb : base ≤ w.heap.size) : OwnsI (w.alloc (.cells #[] 24 (0, 0))) base (.slice (some ⟨w.heap.size, 0, none⟩) 0 0) [] :=
  World.ownsRow_lit w #[] 0 hb (by unfold maxLen; omega) rfl
theorem OwnsI.keep {w w' : World} {base : Nat} {v : Value} {l : List Nat} (h : OwnsI w base v l) (hb : Below w.heap.size w w') : OwnsI w' base v l := by
  refine ⟨h.1, ?_⟩
  rcases h.2 with h' | ⟨g, cap, cur, rfl, h1, h2, h3⟩
  · exact .inl h'
  · exact .inr ⟨g, cap, cur, rfl, h1, below_keep hb h2, h3⟩
theorem OwnsI.mono {w : World} {base base2 : Nat} {v : Value} {l : List Nat} (h : OwnsI w base v l) (hb : base2 ≤ base) : OwnsI w base2 v l := World.ownsRow.mono h hb
theorem OwnsI.shape {w : World} {base : Nat} {v : Value} {l : List Nat} (h : OwnsI w base v l) : ∃ x cap, v = .slice x l.length cap := by
  rcases h.2 with ⟨rfl, hq⟩ | ⟨g, cap, cur, rfl, _⟩
  · exact ⟨_, _, by rw [hq]⟩
  · exact ⟨_, _, rfl⟩
theorem OwnsI.at {w : World} {base n : Nat} {v : Value} {l : List Nat} (h : OwnsI w base v l) (hn : l.length = n) (h0 : 0 < n) : ∃ g cap, v = .slice (some ⟨g, 0, none⟩) n cap ∧ base ≤ g ∧ g < w.heap.size ∧ IdsAt w g 0 l := by
  subst hn
  have h' := h
  rcases h.2 with ⟨rfl, hq⟩ | ⟨g, cap, cur, rfl, h1, h2, h3⟩
  · omega
  · exact ⟨g, cap, rfl, h1, block_lt h2, fun i hi j hj => by rw [Nat.zero_add, World.ownsRow.cellAt h' (i * 32 + j) (by omega), idsL_get l i j hi hj]⟩
set_option maxRecDepth 100000 in
/-- IDs are appended to the call's own row -/
theorem wpList_append_ids {ops : Array Oper} {rest : List Oper} {o : Oper} {a : Act} {w : World} {Q : Exit → Act → World → Prop} (hgd : o.guard = none) (s x : Operand)
    (ho : o.op = .call { callee := .builtin .append, args := #[s, x], argTypes := #[116, 116] })
    (base : Nat) (v : Value) (q : List Nat) (hs : a.eval s = v) (hown : OwnsI w base v q) (l : List Nat) (xa : Option Addr) (c : Nat) (hx : a.eval x = .slice xa l.length c) (hn : xa = none → l = [] ∧ c = 0) (hc : l ≠ [] → ∃ b o, xa = some ⟨b, o, none⟩ ∧ IdsAt w b o l)
    (hL : q.length + l.length ≤ 1000000) (hbase : base ≤ w.heap.size)
    (h : ∀ v' w', OwnsI w' base v' (q ++ l) → (∀ B u, B ≤ base → Below B u w → Below B u w') → wpList Try.prog ops Q rest (a.put o.dst v') w') :
    wpList Try.prog ops Q (o :: rest) a w := by
  obtain ⟨i0, hi, hz0, hz1, hz2⟩ := info_parts info_id
  rcases xa with _ | ad
  · obtain ⟨rfl, rfl⟩ := hn rfl
    refine wpList_append_own_none hgd s x 116 ho base 24 i0 32 underlying_ids hi v q.length (idsL q) hs hown hx ?_
    exact h v w (by rw [List.append_nil]; exact hown) fun B u _ hB => hB
  · refine wpList_append_own w hgd s x 116 ho base 24 i0 (iv 0) 32 32 underlying_ids hi hz0 hz1 hz2 (by kernel_rfl) (by decide) v q.length (idsL q) hs hown ad l.length c (idsL l) hx (by rw [idsL_len])
      (fun j u hj => ?_) (fun u hu => ?_) (by unfold maxLen; omega) (by omega) hbase fun v' w' hown' hgrow _ => ?_
    · have hjl : j < l.length * 32 := by
        have := (List.getElem?_eq_some_iff.1 hj).1
        rwa [idsL_len] at this
      have hne : l ≠ [] := by intro e; subst e; simp at hjl
      obtain ⟨b, o, e, hI⟩ := hc hne
      obtain rfl := Option.some.inj e
      have ej : j = j / 32 * 32 + j % 32 := by omega
      rw [ej, idsL_get l (j / 32) (j % 32) (by omega) (by omega)] at hj
      rw [Addr.add_lit, ← hj, ← hI (j / 32) (by omega) (j % 32) (by omega)]
      congr 2; omega
    · obtain ⟨j, hj⟩ := List.getElem?_of_mem hu
      have hjl : j < l.length * 32 := by
        have := (List.getElem?_eq_some_iff.1 hj).1
        rwa [idsL_len] at this
      have ej : j = j / 32 * 32 + j % 32 := by omega
      rw [ej, idsL_get l (j / 32) (j % 32) (by omega) (by omega)] at hj
      obtain rfl := Option.some.inj hj
      rfl
    · refine h v' w' ?_ fun B u hB hu => ?_
      · unfold OwnsI
        rw [List.length_append, idsL_app]
        exact hown'
      · exact hu.grown hgrow (by omega) (fun j hj => by have := (World.ownsRow.lt hown j hj).1; omega)
end Go.Proofs.Ytnbppbnjkmopeaa
namespace Go.Proofs.Ytnbppbnjkmopeaa
open Go.RowKit

/-- the sum of two -/
def prs (a b : Nat) : Nat := tw (idb a ++ idb b)
theorem prs_lt (a b : Nat) : prs a b < 2 ^ 256 := tw_lt _

set_option maxRecDepth 100000 in
set_option maxHeartbeats 1000000 in
theorem pair_any (a b : Nat) (w : World) : Calls Try.prog 103 #[iv a, iv b] w fun e w' => e = .returned (iv (prs a b)) ∧ Below w.heap.size w w' := by
  obtain ⟨X, hX⟩ : ∃ X, X = prs a b := ⟨_, rfl⟩
  rw [← hX]
  have HX := Lib.hid hX
  clear hX
  have B : Below w.heap.size w w := Below.refl _ _
  go_enter Try.func103, Try.ntmps103
  go_wp2_with fail
  rw [iblk_lit]
  obtain ⟨h1, h2, h3⟩ := alloc3 w (iblk a) (iblk b) (iblk 0)
  refine wp_abs (fun W => W.heap[w.heap.size]? = some (iblk a) ∧ W.heap[w.heap.size + 1]? = some (iblk b) ∧ W.heap[w.heap.size + 2]? = some (iblk 0) ∧ Below w.heap.size w W) ⟨h1, h2, h3, (by repeat' (first | (with_reducible exact Below.refl _ _) | (with_reducible assumption) | (with_reducible refine below_alloc ?_ _) | (with_reducible refine Below.drew ?_) | (with_reducible refine below_drewN ?_ _) | (with_reducible refine Below.setCell ?_ ?_ _) | go_size))⟩ ?_
  clear h1 h2 h3 B
  rintro W ⟨k1, k2, k3, B⟩
  have K1 := Lib.hid k1; have K2 := Lib.hid k2; have K3 := Lib.hid k3; have BF := Lib.hid B
  obtain ⟨g, hg⟩ : ∃ g, g = w.heap.size := ⟨_, rfl⟩
  have HG := Lib.hid hg
  rw [← hg] at K1 K2 K3
  rw [← hg]
  clear k1 k2 k3 B hg
  have ct := Lib.hid fun (V : World) g2 (hg : V.heap[g2]? = some (.cells #[.slice (some ⟨g, 0, none⟩) 32 32, .slice (some ⟨g + 1, 0, none⟩) 32 32] 27 (0, 0))) (hb : Below W.heap.size W V) =>
    twice_two _ _ (idb a) (idb b) g2 27 2 V hg (idb_at (block_keep hb K1.out) 32) (idb_at (block_keep hb K2.out) 32) (idb_byte a) (idb_byte b) (by rw [idb_len, idb_len]; omega)
  rw [show tw (idb a ++ idb b) = X from HX.out.symm] at ct
  clear HX
  refine wp_region_tail 4 [Is (.slice (some ⟨g, 0, none⟩) 32 32), Is (.slice (some ⟨g + 1, 0, none⟩) 32 32), RowOf #[.slice (some ⟨g, 0, none⟩) 32 32, .slice (some ⟨g + 1, 0, none⟩) 32 32] 27 2 2, Is (iv X)] [[], [], [(0, some 5), (1, some 6)], [(2, some 7)], [(3, some 8)]] [(0, some 5), (1, some 6), (2, some 7), (3, some 8)] [0, 0, 3, 7, 15]
    (by kernel_rfl) (by kernel_rfl) (by kernel_rfl) (by kernel_rfl) (by kernel_rfl) ⟨Is.kept _, Is.kept _, RowOf.kept _ _ _ _, Is.kept _, trivial⟩ ⟨?_, ?_, ?_, ?_, trivial⟩ ?_
  · as_aux_lemma =>
    refine fun w' hB => ?_
    show wpList _ _ _ _ _ _
    go_wp2_with fail
    exact ⟨.slice (some ⟨g, 0, none⟩) 32 32, by first | rfl | (go_simp; done), rfl, Below.refl _ _⟩
  · as_aux_lemma =>
    refine fun w' hB => ?_
    show wpList _ _ _ _ _ _
    go_wp2_with fail
    exact ⟨.slice (some ⟨g + 1, 0, none⟩) 32 32, by first | rfl | (go_simp; done), rfl, Below.refl _ _⟩
  · as_aux_lemma =>
    refine fun w' hB v0 h0 v1 h1 => ?_
    obtain rfl := h0
    obtain rfl := h1
    show wpList _ _ _ _ _ _
    go_wp2_with fail
    exact ⟨_, rfl, ⟨_, rfl, heap_new _ _⟩, below_alloc (Below.refl _ _) _⟩
  · as_aux_lemma =>
    refine fun w' hB v2 h2 => ?_
    obtain ⟨g2, rfl, hg2⟩ := h2
    show wpList _ _ _ _ _ _
    go_wp2_with fail
    refine (ct.out _ _ hg2 hB).mono ?_
    rintro e w2 ⟨rfl, hb2⟩
    go_wp2_with fail
    exact ⟨iv X, by first | rfl | (go_simp; done), rfl, hb2⟩
  · refine fun w' hB v0 h0 v1 h1 v2 h2 v3 h3 => ?_
    obtain rfl := h3
    simp only [onP, List.drop_succ_cons, List.drop_zero]
    go_simp
    clear h0 h1 h2
    have K3' := Lib.hid (block_keep hB K3.out)
    have B2 := below_next BF.out hB
    have hgw : w.heap.size ≤ g + 2 := by rw [HG.out]; omega
    go_wp2_with (first | (refine wpList_store_id rfl (.tmp 4) (.tmp 8) rfl (g + 2) 0 X rfl rfl K3'.out (fun w3 h1 h2 h3 h4 => ?_)))
    have hl := loadVar_id h1
    exact bodyPost_ret (v := iv X) (by simp [results, Try.results103, Act.put, asAddr, hl]) rfl ⟨rfl, h4 _ _ hgw B2⟩
end Go.Proofs.Ytnbppbnjkmopeaa
namespace Go.Proofs.Ytnbppbnjkmopeaa

/-- the level above -/
def upl : List Nat → List Nat
  | [] => []
  | [a] => [prs a a]
  | a :: b :: l => prs a b :: upl l
/-- are two that are a pair the same? -/
def twn : List Nat → Bool
  | a :: b :: l => decide (a = b) || twn l
  | _ => false
def mroot : Nat → List Nat → Bool → Nat × Bool
  | 0, l, t => (l.getD 0 0, t)
  | f + 1, l, t => if l.length ≤ 1 then (l.getD 0 0, t) else mroot f (upl l) (t || twn l)
def Mroot (l : List Nat) : Nat × Bool := mroot l.length l false
theorem upl_len : ∀ l, (upl l).length = (l.length + 1) / 2
  | [] => by simp [upl]
  | [a] => by simp [upl]
  | a :: b :: l => by rw [upl, List.length_cons, upl_len l, List.length_cons, List.length_cons]; omega
theorem upl_app : ∀ (x y : List Nat), x.length % 2 = 0 → upl (x ++ y) = upl x ++ upl y
  | [], y, _ => rfl
  | [a], y, h => by simp at h
  | a :: b :: x, y, h => by
    simp only [List.cons_append, upl]
    rw [upl_app x y (by simp at h; omega)]
theorem twn_app : ∀ (x y : List Nat), x.length % 2 = 0 → twn (x ++ y) = (twn x || twn y)
  | [], y, _ => by simp [twn]
  | [a], y, h => by simp at h
  | a :: b :: x, y, h => by
    simp only [List.cons_append, twn]
    rw [twn_app x y (by simp at h; omega), Bool.or_assoc]
theorem take_two {l : List Nat} {i : Nat} (h : i + 1 < l.length) : l.take (i + 2) = l.take i ++ [l.getD i 0, l.getD (i + 1) 0] := by
  rw [show i + 2 = (i + 1) + 1 by omega, List.take_add_one, List.take_add_one, List.append_assoc]
  simp [List.getElem?_eq_getElem (show i < l.length by omega), List.getElem?_eq_getElem h]
theorem take_one {l : List Nat} {i : Nat} (h : i + 1 = l.length) : l = l.take i ++ [l.getD i 0] := by
  conv => lhs; rw [← List.take_length (l := l), ← h, List.take_add_one]
  simp [List.getElem?_eq_getElem (show i < l.length by omega)]
theorem upl_two {l : List Nat} {i : Nat} (h : i + 1 < l.length) (he : i % 2 = 0) : upl (l.take (i + 2)) = upl (l.take i) ++ [prs (l.getD i 0) (l.getD (i + 1) 0)] := by
  rw [take_two h, upl_app _ _ (by rw [List.length_take]; omega)]; rfl
theorem twn_two {l : List Nat} {i : Nat} (h : i + 1 < l.length) (he : i % 2 = 0) : twn (l.take (i + 2)) = (twn (l.take i) || decide (l.getD i 0 = l.getD (i + 1) 0)) := by
  rw [take_two h, twn_app _ _ (by rw [List.length_take]; omega)]; simp [twn]
theorem upl_one {l : List Nat} {i : Nat} (h : i + 1 = l.length) (he : i % 2 = 0) : upl l = upl (l.take i) ++ [prs (l.getD i 0) (l.getD i 0)] := by
  conv => lhs; rw [take_one h]
  rw [upl_app _ _ (by rw [List.length_take]; omega)]; rfl
theorem twn_one {l : List Nat} {i : Nat} (h : i + 1 = l.length) (he : i % 2 = 0) : twn l = twn (l.take i) := by
  conv => lhs; rw [take_one h]
  rw [twn_app _ _ (by rw [List.length_take]; omega)]; simp [twn]
theorem upl_lt {l : List Nat} (hl : ∀ x ∈ l, x < 2 ^ 256) : ∀ x ∈ upl l, x < 2 ^ 256 := by
  induction l using upl.induct with
  | case1 => simp [upl]
  | case2 a => intro x hx; simp only [upl, List.mem_singleton] at hx; rw [hx]; exact prs_lt _ _
  | case3 a b l ih =>
    intro x hx
    simp only [upl, List.mem_cons] at hx
    rcases hx with rfl | hx
    · exact prs_lt _ _
    · exact ih (fun y hy => hl y (by simp [hy])) x hx
theorem mroot_up {f : Nat} {l : List Nat} {t : Bool} (h : 1 < l.length) (hf : l.length ≤ f + 1) : ∃ f', (upl l).length ≤ f' + 1 ∧ mroot f l t = mroot f' (upl l) (t || twn l) := by
  cases f with
  | zero => omega
  | succ f =>
    refine ⟨f, by rw [upl_len]; omega, ?_⟩
    rw [mroot, if_neg (by omega)]
theorem mroot_end {f : Nat} {l : List Nat} {t : Bool} (h : l.length ≤ 1) : mroot f l t = (l.getD 0 0, t) := by
  cases f with
  | zero => rfl
  | succ f => rw [mroot, if_pos h]
end Go.Proofs.Ytnbppbnjkmopeaa
