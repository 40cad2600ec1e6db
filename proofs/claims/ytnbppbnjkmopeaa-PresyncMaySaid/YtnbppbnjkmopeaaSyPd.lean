/- Rows of headers of the tree, of the call's own. No condition. Rules are checked. No condition. The tree of headers: its nodes and its map; a genesis comes. No condition. Rules, a tree of them, headers asked for twice behind its genesis. No condition. The statements' own helpers: rules, a line of headers, what is behind a name in it. No condition. -/
import Derived.Test.YtnbppbnjkmopeaaSyPb
import Derived.Maps.Own
import Derived.Maps.OwnSet
import Derived.DeepKeys4
import Derived.Test.YtnbppbnjkmopeaaSyPc
import Derived.Test.YtnbppbnjkmopeaaOpenBase
import Derived.Test.YtnbppbnjkmopeaaHdM
namespace Go.Proofs.Ytnbppbnjkmopeaa
open Go.RowKit

/-- the cells of a row of nodes -/
def ndsL : List Nd → List Value
  | [] => []
  | a :: l => ndL a ++ ndsL l
theorem ndsL_len : ∀ l, (ndsL l).length = l.length * 108
  | [] => rfl
  | a :: l => by rw [ndsL, List.length_append, ndL_len, ndsL_len l, List.length_cons]; omega
theorem ndsL_app (l m : List Nd) : ndsL (l ++ m) = ndsL l ++ ndsL m := by
  induction l with
  | nil => rfl
  | cons a l ih => rw [List.cons_append, ndsL, ndsL, ih, List.append_assoc]
theorem ndsL_get : ∀ (l : List Nd) (i j : Nat), i < l.length → j < 108 → (ndsL l)[i * 108 + j]? = (ndL (l.getD i nd0))[j]?
  | [], i, j, h, _ => by simp at h
  | a :: l, 0, j, _, hj => by
    rw [ndsL, Nat.zero_mul, Nat.zero_add, List.getElem?_append_left (by rw [ndL_len]; exact hj), List.getD_cons_zero]
  | a :: l, i + 1, j, h, hj => by
    rw [ndsL, List.getElem?_append_right (by rw [ndL_len]; omega), ndL_len, List.getD_cons_succ, show (i + 1) * 108 + j - 108 = i * 108 + j by omega]
    exact ndsL_get l i j (by simpa using h) hj
theorem ndsL_one : ∀ (l : List Nd), ∀ v ∈ ndsL l, v.oneCell' = true
  | [], v, h => by cases h
  | a :: l, v, h => by
    rw [ndsL, List.mem_append] at h
    rcases h with h | h
    · exact nd1 _ v h
    · exact ndsL_one l v h
theorem ndsL_take : ∀ (l : List Nd) (k : Nat), ndsL (l.take k) = (ndsL l).take (k * 108)
  | [], k => by simp [ndsL]
  | a :: l, 0 => by simp [ndsL]
  | a :: l, k + 1 => by
    rw [List.take_succ_cons, ndsL, ndsL, ndsL_take l k, List.take_append, ndL_len, show (k + 1) * 108 - 108 = k * 108 by omega, List.take_of_length_le (l := ndL a) (by rw [ndL_len]; omega)]
theorem ndsL_drop : ∀ (l : List Nd) (k : Nat), ndsL (l.drop k) = (ndsL l).drop (k * 108)
  | [], k => by simp [ndsL]
  | a :: l, 0 => by simp [ndsL]
  | a :: l, k + 1 => by
    rw [List.drop_succ_cons, ndsL, ndsL_drop l k, List.drop_append, ndL_len, show (k + 1) * 108 - 108 = k * 108 by omega, List.drop_of_length_le (l := ndL a) (by rw [ndL_len]; omega), List.nil_append]
/-- nodes that lie in memory -/
def NdsAt (w : World) (b o : Nat) (l : List Nd) : Prop := ∀ j v, (ndsL l)[j]? = some v → w.cell? ⟨b, o + j, none⟩ = some v
theorem NdsAt.at {w : World} {b o : Nat} {l : List Nd} (h : NdsAt w b o l) (i : Nat) (hi : i < l.length) : w.rangeAt b (o + i * 108) (ndL (l.getD i nd0)) := fun j v hv => by
  have hj : j < 108 := by
    have := (List.getElem?_eq_some_iff.1 hv).1
    rwa [ndL_len] at this
  have := h (i * 108 + j) v ((ndsL_get l i j hi hj).trans hv)
  rwa [show o + i * 108 + j = o + (i * 108 + j) by omega]
theorem NdsAt.keep {w w' : World} {b o : Nat} {l : List Nd} (h : NdsAt w b o l) (hb : Below w.heap.size w w') : NdsAt w' b o l := fun j v hv => by
  have := h j v hv
  exact (World.cell?_of_block (hb.block b (World.block_lt_of_cell? w _ this))).trans this
theorem NdsAt.drop {w : World} {b o : Nat} {l : List Nd} (h : NdsAt w b o l) (k : Nat) : NdsAt w b (o + k * 108) (l.drop k) := fun j v hv => by
  rw [ndsL_drop, List.getElem?_drop] at hv
  have := h _ v hv
  rwa [show o + k * 108 + j = o + (k * 108 + j) by omega]
theorem NdsAt.take {w : World} {b o : Nat} {l : List Nd} (h : NdsAt w b o l) (k : Nat) : NdsAt w b o (l.take k) := fun j v hv => by
  rw [ndsL_take, List.getElem?_take] at hv
  split at hv
  · exact h _ v hv
  · cases hv
theorem underlying_nds : Try.prog.underlying 147 = some (.slice 69) := by kernel_rfl
theorem info_nd : (Try.prog.info? 69).map (fun i => (i.zero, i.size, i.bytes)) = some (some (ndv nd0), 108, 176) := by kernel_rfl
/-- the call's own row of nodes -/
def OwnsNd (w : World) (base : Nat) (v : Value) (l : List Nd) : Prop := w.ownsRow base 69 108 v l.length (ndsL l)
theorem OwnsNd.nil (w : World) (base : Nat) : OwnsNd w base (.slice none 0 0) [] := World.ownsRow_nil _ _ _ _
theorem OwnsNd.keep {w w' : World} {base : Nat} {v : Value} {l : List Nd} (h : OwnsNd w base v l) (hb : Below w.heap.size w w') : OwnsNd w' base v l := by
  refine ⟨h.1, ?_⟩
  rcases h.2 with h' | ⟨g, cap, cur, rfl, h1, h2, h3⟩
  · exact .inl h'
  · exact .inr ⟨g, cap, cur, rfl, h1, below_keep hb h2, h3⟩
theorem OwnsNd.rows {w : World} {base : Nat} {v : Value} {l : List Nd} (h : OwnsNd w base v l) : (v = .slice none 0 0 ∧ l = []) ∨ ∃ b cap, v = .slice (some ⟨b, 0, none⟩) l.length cap ∧ base ≤ b ∧ b < w.heap.size ∧ l.length ≤ cap ∧ cap ≤ maxLen ∧ NdsAt w b 0 l := by
  have h' := h
  rcases h.2 with ⟨rfl, hq⟩ | ⟨g, cap, cur, rfl, h1, h2, h3, h4, h5⟩
  · exact .inl ⟨rfl, List.eq_nil_of_length_eq_zero hq⟩
  · refine .inr ⟨g, cap, rfl, h1, block_lt h2, h3, h4, fun j u hj => ?_⟩
    have hjl : j < l.length * 108 := by
      have := (List.getElem?_eq_some_iff.1 hj).1
      rwa [ndsL_len] at this
    rw [Nat.zero_add, World.ownsRow.cellAt h' j hjl, hj]
theorem fill_nd (h : Nd) : Instr.fill (fun i => some (i * 108, 108)) ((Array.range (1 * 108)).map ((ndv nd0).cells[· % (ndv nd0).cells.size]!)) [(0, ndv h)] = some (ndsL [h]).toArray := by kernel_rfl
theorem wpList_bs_nd {ops : Array Oper} {rest : List Oper} {o : Oper} {a : Act} {w : World} {Q : Exit → Act → World → Prop} (hgd : o.guard = none) (x : Operand) (n : Nd) (ho : o.op = .buildSlice 147 1 #[(0, x)]) (hx : a.eval x = ndv n)
    (h : wpList Try.prog ops Q rest (a.put o.dst (.slice (some ⟨w.heap.size, 0, none⟩) 1 1)) (w.alloc (.cells (ndsL [n]).toArray 69 (0, 0)))) : wpList Try.prog ops Q (o :: rest) a w := by
  obtain ⟨i0, hi, hz0, hz1, hz2⟩ := info_parts info_nd
  refine wpList_buildSlice hgd 147 69 1 _ ho (ndsL [n]).toArray i0 _ underlying_nds hi hz0 (by rw [hz1]; decide) (by rw [hz1]; decide) ?_ h
  rw [hz1]
  simp only [List.map_toArray, List.map_cons, List.map_nil, hx]
  exact fill_nd n
set_option maxRecDepth 100000 in
/-- nodes are appended to the call's own row -/
theorem wpList_append_nds {ops : Array Oper} {rest : List Oper} {o : Oper} {a : Act} {w : World} {Q : Exit → Act → World → Prop} (hgd : o.guard = none) (s x : Operand)
    (ho : o.op = .call { callee := .builtin .append, args := #[s, x], argTypes := #[147, 147] })
    (base : Nat) (v : Value) (q : List Nd) (hs : a.eval s = v) (hown : OwnsNd w base v q) (l : List Nd) (xa : Option Addr) (c : Nat) (hx : a.eval x = .slice xa l.length c) (hn : xa = none → l = [] ∧ c = 0) (hc : ∀ ad, xa = some ad → ad.spot = none ∧ NdsAt w ad.block ad.off l)
    (hL : q.length + l.length ≤ 1000000) (hbase : base ≤ w.heap.size)
    (h : ∀ v' w', OwnsNd w' base v' (q ++ l) → w.grownBy w' v.ownBlock → (v'.ownBlock = v.ownBlock ∨ v'.ownBlock = some w.heap.size) → wpList Try.prog ops Q rest (a.put o.dst v') w') :
    wpList Try.prog ops Q (o :: rest) a w := by
  obtain ⟨i0, hi, hz0, hz1, hz2⟩ := info_parts info_nd
  rcases xa with _ | ⟨b, o', pt⟩
  · obtain ⟨rfl, rfl⟩ := hn rfl
    refine wpList_append_own_none hgd s x 147 ho base 69 i0 108 underlying_nds hi v q.length (ndsL q) hs hown hx ?_
    exact h v w (by rw [List.append_nil]; exact hown) (World.grownBy.refl _ _) (.inl rfl)
  · obtain ⟨e, hc2⟩ := hc _ rfl
    dsimp only at e hc2
    subst e
    refine wpList_append_own_at w hgd s x 147 ho base 69 i0 _ 108 176 underlying_nds hi hz0 hz1 hz2 (by kernel_rfl) (by decide) v q.length (ndsL q) hs hown ⟨b, o', none⟩ l.length c (ndsL l) hx (ndsL_len l)
      (fun j u hj => by rw [Addr.add_lit]; exact hc2 j u hj) (ndsL_one l) (by unfold maxLen; omega) (by omega) hbase fun v' w' hown' hgrow _ hat => ?_
    refine h v' w' ?_ hgrow hat
    unfold OwnsNd
    rw [List.length_append, ndsL_app]
    exact hown'
theorem OwnsNd.gr {D : Nat → Prop} {w w' : World} {base : Nat} {v : Value} {l : List Nd} (h : OwnsNd w base v l) (hg : Gr D w w') (hD : ∀ k, v.ownBlock = some k → ¬ D k) : OwnsNd w' base v l := by
  refine ⟨h.1, ?_⟩
  rcases h.2 with h' | ⟨g, cap, cur, rfl, h1, h2, h3⟩
  · exact .inl h'
  · exact .inr ⟨g, cap, cur, rfl, h1, hg.keep h2 (hD _ rfl), h3⟩
theorem NdsAt.gr {D : Nat → Prop} {w w' : World} {b o : Nat} {l : List Nd} (h : NdsAt w b o l) (hg : Gr D w w') (hD : ¬ D b) : NdsAt w' b o l := fun j v hv => by
  have := h j v hv
  exact (World.cell?_of_block (hg.block b (World.block_lt_of_cell? w _ this) hD)).trans this
theorem OwnsNd.shape {w : World} {base : Nat} {v : Value} {l : List Nd} (h : OwnsNd w base v l) : ∃ x cap, v = .slice x l.length cap := by
  rcases h.2 with ⟨rfl, hq⟩ | ⟨g, cap, cur, rfl, _⟩
  · exact ⟨_, _, by rw [hq]⟩
  · exact ⟨_, _, rfl⟩
end Go.Proofs.Ytnbppbnjkmopeaa
namespace Go.Proofs.Ytnbppbnjkmopeaa
open Go.RowKit

/-- may rules be? -/
def chkP (r : Rl) : Nat :=
  if (tgt r.limit).2 = false ∨ r.gen.b ≠ r.limit then 30
  else if r.every < 0 ∨ 1000 < r.every ∨ r.spacing < 1 ∨ 1048576 < r.spacing ∨ r.subsidy < 0 ∨ 1125899906842624 < r.subsidy ∨ r.work < 0 ∨ 1000 < r.work then 1 else 0

set_option maxRecDepth 100000 in
set_option maxHeartbeats 4000000 in
theorem check_any (r : Rl) (hl : r.limit < 4294967296) (w : World) : Calls Try.prog 42 #[rlv r] w fun e w' => e = .returned (.int .i64 (chkP r : Nat)) ∧ Below w.heap.size w w' := by
  obtain ⟨R, hR⟩ : ∃ R, R = chkP r := ⟨_, rfl⟩
  rw [← hR]
  rw [chkP] at hR
  have ct := Lib.hid fun W => target_any r.limit hl W
  have HT := Lib.hid (tgt_lt r.limit)
  obtain ⟨t, ht⟩ : ∃ t, t = (tgt r.limit).1 := ⟨_, rfl⟩
  obtain ⟨s, hs⟩ : ∃ s, s = (tgt r.limit).2 := ⟨_, rfl⟩
  rw [← ht] at HT
  rw [← ht, ← hs] at ct
  rw [← hs] at hR
  clear ht hs
  have K := Lib.hid (heap_new w (rlblk r))
  have B := Lib.hid (below_alloc (Below.refl w.heap.size w) (rlblk r))
  have HC : Hid (∀ V : World, V.heap[w.heap.size]? = some (rlblk r) → V.cell? ⟨w.heap.size, 0, none⟩ = some (.int .u32 r.limit) ∧ V.cell? ⟨w.heap.size, 1, none⟩ = some (.int .i64 r.every) ∧ V.cell? ⟨w.heap.size, 2, none⟩ = some (.int .i64 r.spacing) ∧ V.cell? ⟨w.heap.size, 3, none⟩ = some (.int .i64 r.subsidy) ∧ V.cell? ⟨w.heap.size, 4, none⟩ = some (.int .i64 r.work) ∧ V.cell? ⟨w.heap.size, 71, none⟩ = some (.int .u32 r.gen.b)) :=
    Lib.hid fun V hV => ⟨seg_cell (S := rlS r) (k := 0) hV rfl rfl, seg_cell (S := rlS r) (k := 1) hV rfl rfl, seg_cell (S := rlS r) (k := 2) hV rfl rfl, seg_cell (S := rlS r) (k := 3) hV rfl rfl, seg_cell (S := rlS r) (k := 4) hV rfl rfl, seg_range (S := rlS r) (k := 5) hV rfl rfl 66 _ (hdcs_b r.gen)⟩
  have c0 : (w.alloc (.cells (rlL r).toArray 62)).cell? ⟨w.heap.size, 0, none⟩ = some (.int .u32 r.limit) := (HC.out _ K.out).1
  obtain ⟨l, hl0⟩ : ∃ l, l = r.limit := ⟨_, rfl⟩
  obtain ⟨ev, hev⟩ : ∃ l, l = r.every := ⟨_, rfl⟩
  obtain ⟨sp, hsp⟩ : ∃ l, l = r.spacing := ⟨_, rfl⟩
  obtain ⟨su, hsu⟩ : ∃ l, l = r.subsidy := ⟨_, rfl⟩
  obtain ⟨wo, hwo⟩ : ∃ l, l = r.work := ⟨_, rfl⟩
  obtain ⟨gb, hgb⟩ : ∃ l, l = r.gen.b := ⟨_, rfl⟩
  rw [← hl0, ← hev, ← hsp, ← hsu, ← hwo, ← hgb] at HC hR
  rw [← hl0] at c0 ct hl
  clear hl0 hev hsp hsu hwo hgb hl
  have HR := Lib.hid hR
  clear hR
  go_enter Try.func42, Try.ntmps42
  go_wp2_with fail
  refine (ct.out _).mono ?_
  rintro e w2 ⟨rfl, hb⟩
  have hz := hb.size
  have hz1 : w.heap.size < w2.heap.size := block_lt (block_keep hb K.out)
  have HB := Lib.hid hb
  have hw0 : w.heap.size ≤ w2.heap.size := by omega
  clear hb c0 ct
  go_upto_region 2 with (first | (refine wpList_store_nv rfl (.tmp 3) (.tmp 9) rfl w2.heap.size 0 t rfl rfl (heap_new w2 _) (fun w3 h1 h2 h3 h4 => ?_); obtain ⟨c0, c1, c2, c3, c4, c71⟩ := HC.out _ ((h2 w.heap.size (by omega)).trans (keep_alloc (nbk 0) (block_keep HB.out K.out))); have B3 := Lib.hid (h4 w.heap.size w hw0 (below_alloc (below_next B.out HB.out) (nbk 0))); clear h1 h2 h3 h4))
  clear hz hz1 hw0 HB K B HC
  cases s
  · have hr : R = 30 := by rw [HR.out, if_pos (.inl rfl)]
    clear HR
    subst hr
    go_wp2_with fail
    go_ret
    exact ⟨rfl, B3.out⟩
  by_cases pb : gb = l
  · have eb : ((gb : Int) != (l : Int)) = false := by simp [pb]
    have hr := HR.out
    rw [if_neg (by simp [pb])] at hr
    clear HR pb
    have HR := Lib.hid hr
    clear hr
    by_cases p0 : ev < 0
    · have hr : R = 1 := by rw [HR.out, if_pos (by omega)]
      clear HR
      subst hr
      go_wp2_with fail
      go_ret
      exact ⟨rfl, B3.out⟩
    by_cases p1 : 1000 < ev
    · have hr : R = 1 := by rw [HR.out, if_pos (by omega)]
      clear HR
      subst hr
      go_wp2_with fail
      go_ret
      exact ⟨rfl, B3.out⟩
    by_cases p2 : sp < 1
    · have hr : R = 1 := by rw [HR.out, if_pos (by omega)]
      clear HR
      subst hr
      go_wp2_with fail
      go_ret
      exact ⟨rfl, B3.out⟩
    by_cases p3 : 1048576 < sp
    · have hr : R = 1 := by rw [HR.out, if_pos (by omega)]
      clear HR
      subst hr
      go_wp2_with fail
      go_ret
      exact ⟨rfl, B3.out⟩
    by_cases p4 : su < 0
    · have hr : R = 1 := by rw [HR.out, if_pos (by omega)]
      clear HR
      subst hr
      go_wp2_with fail
      go_ret
      exact ⟨rfl, B3.out⟩
    by_cases p5 : 1125899906842624 < su
    · have hr : R = 1 := by rw [HR.out, if_pos (by omega)]
      clear HR
      subst hr
      go_wp2_with fail
      go_ret
      exact ⟨rfl, B3.out⟩
    by_cases p6 : wo < 0
    · have hr : R = 1 := by rw [HR.out, if_pos (by omega)]
      clear HR
      subst hr
      go_wp2_with fail
      go_ret
      exact ⟨rfl, B3.out⟩
    by_cases p7 : 1000 < wo
    · have hr : R = 1 := by rw [HR.out, if_pos (by omega)]
      clear HR
      subst hr
      go_wp2_with fail
      go_ret
      exact ⟨rfl, B3.out⟩
    have hr : R = 0 := by rw [HR.out, if_neg (by omega)]
    clear HR
    subst hr
    go_wp2_with fail
    go_ret
    exact ⟨rfl, B3.out⟩
  · have eb : ((gb : Int) != (l : Int)) = true := by simp; omega
    have hr : R = 30 := by rw [HR.out, if_pos (.inr pb)]
    clear HR pb
    subst hr
    go_wp2_with fail
    go_ret
    exact ⟨rfl, B3.out⟩
end Go.Proofs.Ytnbppbnjkmopeaa
namespace Go.Proofs.Ytnbppbnjkmopeaa
open Go.RowKit

theorem mapM_some {α β : Type} (f : α → Option β) (g : α → β) : ∀ (l : List α), (∀ x ∈ l, f x = some (g x)) → l.mapM f = some (l.map g)
  | [], _ => rfl
  | x :: l, h => by
    rw [List.mapM_cons, h x List.mem_cons_self, mapM_some f g l fun y hy => h y (List.mem_cons_of_mem _ hy)]
    rfl
/-- an ID as a map's key -/
def idk (n : Nat) : Lit := .string (keyBytes ((List.range 32).map fun i => [Lit.int .u8 (lb n i)]).flatten)
theorem id_under : Try.prog.underlying 24 = some (.array 32 5) := by kernel_rfl
theorem u8_under : Try.prog.underlying 5 = some (.int .u8) := by kernel_rfl
theorem cellsOf_id : Try.prog.cellsOf 24 = 32 := by kernel_rfl
theorem cellsOf_u8 : Try.prog.cellsOf 5 = 1 := by kernel_rfl
theorem keyType_id : Try.prog.keyType 24 = true := by kernel_rfl
theorem lb_wf (n i : Nat) : (Lit.int .u8 (lb n i)).wf = true := by
  have := lb_0 n i; have := lb_m n i
  simp [Lit.wf, IntKind.min, IntKind.max, IntKind.signed, IntKind.bits]; omega
theorem keyLits_id (d n : Nat) : Try.prog.keyLits (d + 2) 24 (ids n) = some ((List.range 32).map fun i => [Lit.int .u8 (lb n i)]).flatten := by
  unfold Program.keyLits
  rw [id_under]
  dsimp only
  rw [if_pos (by rw [ids_len, cellsOf_id]), mapM_some _ (fun i => [Lit.int .u8 (lb n i)])]
  · rfl
  · intro i hi
    rw [List.mem_range] at hi
    rw [cellsOf_u8, Nat.mul_one, List.drop_eq_getElem_cons (by rw [ids_len]; exact hi), List.take_succ_cons, List.take_zero]
    have e : (ids n)[i]'(by rw [ids_len]; exact hi) = .int .u8 (lb n i) := by
      have := ids_get n i hi
      rw [List.getElem?_eq_getElem (by rw [ids_len]; exact hi)] at this
      exact Option.some.inj this
    rw [e]
    unfold Program.keyLits
    rw [u8_under]
    dsimp only
    rw [if_pos ⟨rfl, lb_wf n i⟩]
set_option maxRecDepth 100000 in
theorem idk_some (n : Nat) : keyOf Try.prog 24 (iv n) = some (idk n) := by
  obtain ⟨d, hd⟩ : ∃ d, Try.prog.types.size + 1 = d + 2 := ⟨Try.prog.types.size - 1, by
    have : decide (1 ≤ Try.prog.types.size) = true := by kernel_rfl
    have := of_decide_eq_true this
    omega⟩
  unfold keyOf
  rw [id_under]
  dsimp only
  have hf : (iv n).formed Try.prog 24 = true := by
    show (match Try.prog.underlying 24 with | some (.struct _) | some (.array _ _) => (ids n).toArray.size == Try.prog.cellsOf 24 | _ => false) = true
    rw [id_under, cellsOf_id]
    simp [ids_len]
  rw [keyType_id, hf, hd]
  show (if (true && true) = true then (Try.prog.keyLits (d + 2) 24 (ids n)).map _ else none) = _
  rw [if_pos (show (true && true) = true from rfl), keyLits_id]
  rfl
theorem idLaw : Maps.Keyed Try.prog 24 := Maps.Keyed.of_law (deep_law_laid laidOut (m := 2) (by omega) (of_decide_eq_true (by kernel_rfl)) (by kernel_rfl) (by kernel_rfl))
theorem map_under : Try.prog.underlying 146 = some (.map 24 3) := by kernel_rfl
theorem int_under : Try.prog.underlying 3 = some (.int .i64) := by kernel_rfl
theorem iElem_nat (k : Nat) (hk : k ≤ 1000000) : plainElem (H := Unit) Try.prog 3 (.int .i64 (k : Int)) = some (.lit (.int .i64 k), []) := plainElem_int int_under (by simp [Lit.wf, IntKind.min, IntKind.max, IntKind.signed, IntKind.bits]; omega)
/-- what the map holds of nodes -/
def byD : List Nd → Nat → DataW Unit → DataW Unit
  | [], _, D => D
  | x :: l, i, D => byD l (i + 1) (D.put (idk x.id) (.lit (.int .i64 i)))
theorem byD_snoc (x : Nd) : ∀ (l : List Nd) (i : Nat) (D : DataW Unit), byD (l ++ [x]) i D = (byD l i D).put (idk x.id) (.lit (.int .i64 (i + l.length : Nat)))
  | [], i, D => rfl
  | y :: l, i, D => by
    rw [List.cons_append, byD, byD, byD_snoc x l, List.length_cons, show i + 1 + l.length = i + (l.length + 1) by omega]
/-- a tree of headers -/
structure TrIs (w : World) (T : Nat) (vn : Value) (m : Nat) (r : Rl) (ns : List Nd) (c : Nat) (D : DataW Unit) : Prop where
  blk : w.heap[T]? = some (trblk ⟨r, vn, .map (some m)⟩)
  nodes : OwnsNd w 0 vn ns
  by' : w.ownsMap Try.prog 24 (plainElem (H := Unit) Try.prog 3) m c D
/-- the blocks that are its own -/
def trD (T : Nat) (vn : Value) (m : Nat) : Nat → Prop := fun k => k = T ∨ k = m ∨ vn.ownBlock = some k
theorem map_gr {D : Nat → Prop} {w w' : World} {k : TypeId} {R : Value → Option (DataW Unit × List MemPlace)} {m c : Nat} {E : DataW Unit} (h : w.ownsMap Try.prog k R m c E) (hg : Gr D w w') (hD : ¬ D m) : w'.ownsMap Try.prog k R m c E := by
  obtain ⟨es, cl, h1, h2⟩ := h
  exact ⟨es, cl, hg.keep h1 hD, h2⟩
section
variable {w : World} {T m : Nat} {vn : Value} {r : Rl} {ns : List Nd} {c : Nat} {D : DataW Unit}
theorem TrIs.nT (h : TrIs w T vn m r ns c D) : vn.ownBlock ≠ some T := own_ne_obj h.nodes h.blk (by decide)
theorem TrIs.tm (h : TrIs w T vn m r ns c D) : T ≠ m := fun e => by
  obtain ⟨es, cl, h1, _⟩ := h.by'
  have := h.blk
  rw [e, h1] at this
  cases this
theorem own_ne_map {b : Nat} {e : TypeId} {s n k : Nat} {v : Value} {xs : List Value} {es : Array MapEntry} {cl : Nat} (h : w.ownsRow b e s v n xs) (hk : w.heap[k]? = some (.map es cl)) : v.ownBlock ≠ some k := fun he => by
  rcases h.2 with ⟨rfl, _⟩ | ⟨g, cap, cur, rfl, _, h2, _⟩
  · simp [Value.ownBlock] at he
  · have : g = k := by simpa [Value.ownBlock] using he
    subst this
    rw [h2] at hk
    cases hk
theorem TrIs.nm (h : TrIs w T vn m r ns c D) : vn.ownBlock ≠ some m := by
  obtain ⟨es, cl, h1, _⟩ := h.by'
  exact own_ne_map h.nodes h1
theorem TrIs.keep {w' : World} (h : TrIs w T vn m r ns c D) (hb : Below w.heap.size w w') : TrIs w' T vn m r ns c D :=
  ⟨block_keep hb h.blk, h.nodes.keep hb, map_gr h.by' (Gr.of_below (fun _ => False) hb) (fun e => e)⟩
theorem TrIs.gr {w' : World} {E : Nat → Prop} (h : TrIs w T vn m r ns c D) (hg : Gr E w w') (hE : ∀ k, trD T vn m k → ¬ E k) : TrIs w' T vn m r ns c D :=
  ⟨hg.keep h.blk (hE T (.inl rfl)), h.nodes.gr hg (fun k hk => hE k (.inr (.inr hk))), map_gr h.by' hg (hE m (.inr (.inl rfl)))⟩
theorem TrIs.nodesC (h : TrIs w T vn m r ns c D) : w.cell? ⟨T, 74, none⟩ = some vn := seg_cell (S := trS ⟨r, vn, .map (some m)⟩) (k := 1) h.blk rfl (tr_o _).2.1
theorem trblk_by (h : w.heap[T]? = some (trblk ⟨r, vn, .map (some m)⟩)) : w.cell? ⟨T, 75, none⟩ = some (.map (some m)) := seg_cell (S := trS ⟨r, vn, .map (some m)⟩) (k := 2) h rfl (tr_o _).2.2
theorem TrIs.lt (h : TrIs w T vn m r ns c D) (k : Nat) (hk : trD T vn m k) : k < w.heap.size := by
  rcases hk with rfl | rfl | hk
  · exact block_lt h.blk
  · obtain ⟨es, cl, h1, _⟩ := h.by'
    exact block_lt h1
  · rcases h.nodes.2 with ⟨rfl, _⟩ | ⟨g, cap, cur, rfl, _, h2, _⟩
    · cases hk
    · obtain rfl : g = k := Option.some.inj hk
      exact block_lt h2
/-- a node behind the others, the map as it was -/
theorem TrIs.nodes_next {w0 w5 w6 : World} {v' : Value} {l : List Nd} {gx : Nat} {x : Nd} (h : TrIs w T vn m r ns c D) (hG : Gr (trD T vn m) w0 w) (hX : w.heap[gx]? = some (ndblk x)) (hgrow : w.grownBy w5 vn.ownBlock) (ho : OwnsNd w5 0 v' l) (hat : v'.ownBlock = vn.ownBlock ∨ v'.ownBlock = some w.heap.size)
    (h1 : w6.heap[T]? = some (trblk ⟨r, v', .map (some m)⟩)) (hg : Gr (fun k => k = T) w5 w6) :
    TrIs w6 T v' m r l c D ∧ Gr (trD T vn m) w0 w6 ∧ (∀ k, trD T v' m k → trD T vn m k ∨ w0.heap.size ≤ k) ∧ (gx ≠ T → vn.ownBlock ≠ some gx → w6.heap[gx]? = some (ndblk x)) := by
  have hz := block_lt h.blk
  have hvT : v'.ownBlock ≠ some T := fun e => by
    rcases hat with ha | ha
    · exact h.nT (ha ▸ e)
    · rw [ha] at e; have := Option.some.inj e; omega
  have k1 := Gr.of_grown hgrow
  have k2 : Gr (trD T vn m) w w6 := (k1.mono (fun _ _ e => .inr (.inr e))).trans hg (fun _ _ e => .inl e)
  refine ⟨⟨h1, ho.gr hg (fun k hk e => hvT (e ▸ hk)), map_gr (map_gr h.by' k1 h.nm) hg (fun e => h.tm e.symm)⟩, hG.trans k2 (fun _ _ e => e), fun k hk => ?_, fun n1 n2 => ?_⟩
  · rcases hk with hk | hk | hk
    · exact .inl (.inl hk)
    · exact .inl (.inr (.inl hk))
    · rcases hat with ha | ha
      · exact .inl (.inr (.inr (ha ▸ hk)))
      · rw [ha] at hk; have := Option.some.inj hk; have := hG.size; exact .inr (by omega)
  · exact hg.keep (k1.keep hX n2) n1
theorem TrIs.blk_grown {w5 : World} (h : TrIs w T vn m r ns c D) (hgrow : w.grownBy w5 vn.ownBlock) : w5.heap[T]? = some (trblk ⟨r, vn, .map (some m)⟩) := (hgrow.block T (block_lt h.blk) (fun e => h.nT e.symm)).trans h.blk
theorem TrIs.byC (h : TrIs w T vn m r ns c D) : w.cell? ⟨T, 75, none⟩ = some (.map (some m)) := trblk_by h.blk
theorem TrIs.mapped {w0 w7 : World} {vn0 : Value} {c' : Nat} {D' : DataW Unit} (h : TrIs w T vn m r ns c D) (hG : Gr (trD T vn0 m) w0 w) (hm : w7.ownsMap Try.prog 24 (plainElem (H := Unit) Try.prog 3) m c' D') (hgrow : w.grownBy w7 (some m)) : TrIs w7 T vn m r ns c' D' ∧ Gr (trD T vn0 m) w0 w7 := by
  have k1 := Gr.of_grown hgrow
  exact ⟨⟨k1.keep h.blk (fun e => h.tm (Option.some.inj e).symm), h.nodes.gr k1 (fun k hk e => h.nm (by rw [hk]; exact e.symm)), hm⟩, hG.trans k1 (fun i _ e => .inr (.inl (Option.some.inj e).symm))⟩
end
theorem wpList_build_ndp {ops : Array Oper} {rest : List Oper} {o : Oper} {a : Act} {w : World} {Q : Exit → Act → World → Prop} (hg : o.guard = none) (x0 x1 x2 : Operand) (ho : o.op = .build 69 #[(0, x0), (1, x1), (2, x2)]) (h : Hd) (id : Nat) (par : Int)
    (h0 : a.eval x0 = hdv h) (h1 : a.eval x1 = iv id) (h2 : a.eval x2 = .int .i64 par)
    (hc : wpList Try.prog ops Q rest (a.put o.dst (ndv ⟨h, id, par, 0, 0, 0, false⟩)) w) : wpList Try.prog ops Q (o :: rest) a w := by
  refine wpList_build_of hg 69 _ ho (ndL ⟨h, id, par, 0, 0, 0, false⟩).toArray ?_ hc
  simp only [List.map_toArray, List.map_cons, List.map_nil, h0, h1, h2]
  exact bld_ndp h id par
theorem nds_info : (Try.prog.info? 147).map (·.size) = some 1 := by kernel_rfl
/-- a header that has no parent -/
def genN (h : Hd) : Nd := ⟨h, hdid h, -1, 0, 0, wrk (tgt h.b).1, false⟩
/-- what put leaves -/
def PutTo (w w' : World) (T : Nat) (vn : Value) (m : Nat) (r : Rl) (ns : List Nd) (c : Nat) (D : DataW Unit) : Prop :=
  ∃ vn', TrIs w' T vn' m r ns c D ∧ Gr (trD T vn m) w w' ∧ (∀ k, trD T vn' m k → trD T vn m k ∨ w.heap.size ≤ k)

set_option maxRecDepth 100000 in
set_option maxHeartbeats 8000000 in
theorem putg_any (T m : Nat) (vn : Value) (r : Rl) (ns : List Nd) (c : Nat) (D : DataW Unit) (h : Hd) (hh : h.ok) (hl : ns.length ≤ 900000) (hc : c ≤ 900000) (w : World) (hT : TrIs w T vn m r ns c D) :
    Calls Try.prog 84 #[.pointer (some ⟨T, 0, none⟩), hdv h, .int .i64 (-1)] w fun e w' => e = .returned (.int .i64 ns.length) ∧ PutTo w w' T vn m r (ns ++ [genN h]) (c + 1) (D.put (idk (hdid h)) (.lit (.int .i64 ns.length))) := by
  have K1 := Lib.hid (hT.keep (below_alloc (Below.refl w.heap.size w) (hdblk h)))
  have KH := Lib.hid (heap_new w (hdblk h))
  have B1 := Lib.hid (below_alloc (Below.refl w.heap.size w) (hdblk h))
  have hTw := block_lt hT.blk
  obtain ⟨X0, hX0⟩ : ∃ X0, X0 = genN h := ⟨_, rfl⟩
  have HX0 := Lib.hid hX0
  have ch := Lib.hid fun V => hid_any h hh V
  obtain ⟨I, hI⟩ : ∃ I, I = hdid h := ⟨_, rfl⟩
  rw [genN, ← hI] at HX0
  rw [← hI] at ch
  rw [← hX0, ← hI]
  have HLT : Hid (∀ k, trD T vn m k → k < w.heap.size) := Lib.hid fun k hk => hT.lt k hk
  clear hI hX0 hT
  unfold hdv
  go_enter Try.func84, Try.ntmps84
  go_wp2_with fail
  obtain ⟨gh, hgh⟩ : ∃ gh, gh = w.heap.size := ⟨_, rfl⟩
  rw [← hgh] at KH
  rw [← hgh]
  have HGH := Lib.hid hgh
  have hTg : T < gh := by omega
  obtain ⟨W, hW⟩ : ∃ W, W = w.alloc (.cells (hdcs h).toArray 26) := ⟨_, rfl⟩
  have KH : Hid (W.heap[gh]? = some (hdblk h)) := hW ▸ KH
  have K1 : Hid (TrIs W T vn m r ns c D) := hW ▸ K1
  have B1 : Hid (Below w.heap.size w W) := hW ▸ B1
  rw [← hW]
  clear hgh hW hTw
  refine wp_region_new 6 (fun j => decide (j = 5)) [Is (hdv h), Is (hdv h), Is (iv I), Is (.int .i64 (-1)), Is (ndv ⟨h, I, -1, 0, 0, 0, false⟩), BoxOf (.cells Try.zeroCells69 69 (0, 0))] [[], [], [(1, some 13)], [], [(0, some 12), (2, some 14), (3, some 15)], [], [(4, some 16), (5, some 7)]] [(0, some 12), (1, some 13), (2, some 14), (3, some 15), (4, some 16), (5, some 7)] [0, 0, 2, 0, 15, 0, 63]
    (by kernel_rfl) (by kernel_rfl) (by kernel_rfl) (by kernel_rfl) (by kernel_rfl) ⟨Is.kept _, Is.kept _, Is.kept _, Is.kept _, Is.kept _, BoxOf.kept _, trivial⟩ ⟨?_, ?_, ?_, ?_, ?_, ?_, trivial⟩ ?_
  · as_aux_lemma =>
    refine fun w' hB => ?_
    show wpList _ _ _ _ _ _
    go_wp2_with (first | refine wpList_load_hd rfl (.tmp 4) rfl gh h rfl (block_keep hB KH.out) ?_)
    exact ⟨_, rfl, rfl, Below.refl _ _, fun h => absurd h (by decide)⟩
  · as_aux_lemma =>
    refine fun w' hB => ?_
    show wpList _ _ _ _ _ _
    go_wp2_with (first | refine wpList_load_hd rfl (.tmp 4) rfl gh h rfl (block_keep hB KH.out) ?_)
    exact ⟨_, rfl, rfl, Below.refl _ _, fun h => absurd h (by decide)⟩
  · as_aux_lemma =>
    refine fun w' hB v1 h1 => ?_
    obtain rfl := h1
    show wpList _ _ _ _ _ _
    go_wp2_with fail
    refine (ch.out w').mono ?_
    rintro e w2 ⟨rfl, hb2⟩
    go_wp2_with fail
    exact ⟨iv I, by first | rfl | (go_simp; done), rfl, hb2, fun h => absurd h (by decide)⟩
  · as_aux_lemma =>
    refine fun w' hB => ?_
    show wpList _ _ _ _ _ _
    go_wp2_with fail
    exact ⟨.int .i64 (-1), by first | rfl | (go_simp; done), rfl, Below.refl _ _, fun h => absurd h (by decide)⟩
  · as_aux_lemma =>
    refine fun w' hB v0 h0 v2 h2 v3 h3 => ?_
    obtain rfl := h0
    obtain rfl := h2
    obtain rfl := h3
    show wpList _ _ _ _ _ _
    go_wp2_with (first | refine wpList_build_ndp rfl (.tmp 12) (.tmp 14) (.tmp 15) rfl h I (-1) rfl rfl rfl ?_)
    exact ⟨_, rfl, rfl, Below.refl _ _, fun h => absurd h (by decide)⟩
  · as_aux_lemma =>
    refine fun w' hB => ?_
    show wpList _ _ _ _ _ _
    go_wp2_with fail
    exact ⟨_, rfl, ⟨_, rfl, heap_new _ _⟩, below_alloc (Below.refl _ _) _, fun _ => ⟨_, rfl, Nat.le_refl _, by simp⟩⟩
  · refine fun w' G hB hN1 hN2 v0 h0 v1 h1 v2 h2 v3 h3 v4 h4 v5 h5 => ?_
    replace h0 := h0.1
    replace h1 := h1.1
    replace h2 := h2.1
    replace h3 := h3.1
    replace h4 := h4.1
    obtain ⟨h5, hG5⟩ := h5; replace hG5 := hG5 (by decide)
    have hW5 := hN1 5 (by decide) (by decide)
    clear hN1 hN2
    obtain rfl := h4
    obtain ⟨g5, rfl, hg5⟩ := h5
    obtain ⟨gn5, en5, hge5, hlt5⟩ := hW5
    obtain rfl := Option.some.inj (hG5.trans en5)
    dsimp only at hge5 hlt5
    clear en5
    simp only [onP, List.drop_succ_cons, List.drop_zero]
    go_simp
    clear h0 h1 h2 h3
    have HG5 := Lib.hid (hg5.trans (congrArg some ndzb))
    go_upto_region 2 with (first | (refine st_nd rfl (.tmp 7) (.tmp 16) rfl g5 nd0 ⟨h, I, -1, 0, 0, 0, false⟩ rfl rfl HG5.out (fun w4 h1 h2 h3 h4 => ?_); have hB4 := h4 _ _ hge5 hB; have KX4 := Lib.hid h1; have B4 := Lib.hid (below_next B1.out hB4); have K4 := Lib.hid (K1.out.keep hB4); have KH4 := Lib.hid (block_keep hB4 KH.out); clear h1 h2 h3 h4 hB4))
    have hgn : gh < g5 := by have := block_lt KH.out; omega
    clear hB K1 KH B1 ch HG5 hg5 hge5 hlt5
    have ct := Lib.hid fun V => target_any h.b hh.2.2.2.2.1 V
    have HTL := Lib.hid (tgt_lt h.b)
    obtain ⟨t, ht⟩ : ∃ t, t = (tgt h.b).1 := ⟨_, rfl⟩
    obtain ⟨s, hs⟩ : ∃ s, s = (tgt h.b).2 := ⟨_, rfl⟩
    rw [← ht] at HTL HX0
    rw [← ht, ← hs] at ct
    clear ht hs
    have c66 := hd_bC KH4.out
    go_wp2_with fail
    refine (ct.out _).mono ?_
    rintro e w6 ⟨rfl, hb⟩
    have hz6 := hb.size
    clear c66
    have cw := Lib.hid fun V => work_any t HTL.out V
    have HWL := Lib.hid (wk_lt t)
    obtain ⟨W0, hW0⟩ : ∃ W0, W0 = wrk t := ⟨_, rfl⟩
    rw [← hW0] at cw HWL HX0
    clear hW0
    go_wp2_with (first | (refine wpList_store_nv rfl (.tmp 8) (.tmp 21) rfl w6.heap.size 0 t rfl rfl (heap_new w6 _) (fun w7 h1 h2 h3 h4 => ?_); have hB7 := h4 _ _ hz6 (below_alloc hb (nbk 0)); have KT := Lib.hid h1; have B7 := Lib.hid (below_next B4.out hB7); have K7 := Lib.hid (K4.out.keep hB7); have KX7 := Lib.hid (block_keep hB7 KX4.out); clear h1 h2 h3 h4 hB7) | refine wpList_load_nv rfl (.tmp 8) rfl w6.heap.size t rfl KT.out ?_)
    clear hb B4 K4 KH4 KX4 ct hz6
    refine (cw.out _).mono ?_
    rintro e w8 ⟨rfl, hb⟩
    have B8 := Lib.hid (below_next B7.out hb); have K8 := Lib.hid (K7.out.keep hb); have KX8 := Lib.hid (block_keep hb KX7.out)
    clear hb B7 K7 KX7 KT cw
    obtain ⟨xn, cn, evn⟩ := K8.out.nodes.shape
    subst evn
    obtain ⟨L, hL⟩ : ∃ L, L = ns.length := ⟨_, rfl⟩
    rw [← hL] at K8 HLT hl
    have HL := Lib.hid hL
    clear hL
    go_upto_region 9 with (first | (refine st_seg rfl 47 (.tmp 25) (.tmp 24) rfl g5 5 103 (ndS ⟨h, I, -1, 0, 0, 0, false⟩) 69 (nvs 0) (nvs W0) rfl rfl KX8.out rfl (nd_o5 _) rfl num_info (nvs1 W0) (fun w9 h1 h2 h3 h4 => ?_); have KX9 : Hid (w9.heap[g5]? = some (ndblk ⟨h, I, -1, 0, 0, W0, false⟩)) := Lib.hid h1; have B9 := Lib.hid (h4 _ _ (by rw [HGH.out] at hgn; omega) B8.out); have K9 := Lib.hid (K8.out.gr (Gr.of_st h2 h4) (fun k hk e => by have := HLT.out k hk; rw [HGH.out] at hgn; omega)); clear h1 h2 h3 h4))
    clear B8 K8 KX8
    have c74 := K9.out.nodesC
    have KX6 := KX9; have K6 := K9
    go_wp2_with fail
    clear c74 KX9 K9
    refine wp_region_z 7 [0] (fun j => decide (j = 6) || false) [Is (.pointer (some ⟨T, 0, none⟩)), Is (.pointer (some ⟨T, 0, none⟩)), Is (.pointer (some ⟨T, 0, none⟩)), Is (.pointer (some ⟨T, 74, none⟩)), Is (.slice xn L cn), Is (ndv ⟨h, I, -1, 0, 0, W0, false⟩), RowOf (ndsL [⟨h, I, -1, 0, 0, W0, false⟩]).toArray 69 1 1] [[], [], [(1, some 62)], [(2, some 63)], [(3, some 64)], [], [(5, some 66)], [(4, some 65), (6, some 67)], [(0, some 61)], [(8, some 69)], [(7, some 68), (9, some 70)]] [(0, some 61), (1, some 62), (2, some 63), (3, some 64), (4, some 65), (5, some 66), (6, some 67)] [0, 0, 2, 6, 14, 0, 32, 126, 255, 511, 1023]
      (by kernel_rfl) (by kernel_rfl) (by kernel_rfl) (by kernel_rfl) (by kernel_rfl) ⟨Is.kept _, Is.kept _, Is.kept _, Is.kept _, Is.kept _, Is.kept _, RowOf.kept _ _ _ _, trivial⟩ ⟨?_, trivial⟩ ⟨?_, ?_, ?_, ?_, ?_, ?_, ?_, trivial⟩ ?_
    · as_aux_lemma =>
      refine fun w' hB => (show onP _ w' [] _ _ from ?_)
      skip
      exact ⟨_, .pointer (some ⟨T, 0, none⟩), rfl, Or.inl ⟨by rfl, fun w => by go_simp⟩⟩
    · as_aux_lemma =>
      refine fun w' hB => ?_
      show wpList _ _ _ _ _ _
      go_wp2_with fail
      exact ⟨.pointer (some ⟨T, 0, none⟩), by first | rfl | (go_simp; done), rfl, Below.refl _ _, fun h => absurd h (by decide)⟩
    · as_aux_lemma =>
      refine fun w' hB => ?_
      show wpList _ _ _ _ _ _
      go_wp2_with fail
      exact ⟨.pointer (some ⟨T, 0, none⟩), by first | rfl | (go_simp; done), rfl, Below.refl _ _, fun h => absurd h (by decide)⟩
    · as_aux_lemma =>
      refine fun w' hB v1 h1 => ?_
      obtain rfl := h1
      show wpList _ _ _ _ _ _
      go_wp2_with fail
      exact ⟨.pointer (some ⟨T, 0, none⟩), by first | rfl | (go_simp; done), rfl, Below.refl _ _, fun h => absurd h (by decide)⟩
    · as_aux_lemma =>
      refine fun w' hB v2 h2 => ?_
      obtain rfl := h2
      show wpList _ _ _ _ _ _
      go_wp2_with fail
      exact ⟨.pointer (some ⟨T, 74, none⟩), by first | rfl | (go_simp; done), rfl, Below.refl _ _, fun h => absurd h (by decide)⟩
    · as_aux_lemma =>
      refine fun w' hB v3 h3 => ?_
      obtain rfl := h3
      show wpList _ _ _ _ _ _
      have c := (K6.out.keep hB).nodesC
      go_wp2_with fail
      exact ⟨_, rfl, rfl, Below.refl _ _, fun h => absurd h (by decide)⟩
    · as_aux_lemma =>
      refine fun w' hB => ?_
      show wpList _ _ _ _ _ _
      go_wp2_with (first | refine ld_nd rfl (.tmp 7) rfl g5 0 ⟨h, I, -1, 0, 0, W0, false⟩ rfl (nd_whole (block_keep hB KX6.out)) ?_)
      exact ⟨_, rfl, rfl, Below.refl _ _, fun h => absurd h (by decide)⟩
    · as_aux_lemma =>
      refine fun w' hB v5 h5 => ?_
      obtain rfl := h5
      show wpList _ _ _ _ _ _
      go_wp2_with (first | refine wpList_bs_nd rfl (.tmp 66) ⟨h, I, -1, 0, 0, W0, false⟩ rfl rfl ?_)
      exact ⟨_, rfl, ⟨_, rfl, heap_new _ _⟩, below_alloc (Below.refl _ _) _, fun _ => ⟨_, rfl, Nat.le_refl _, by simp⟩⟩
    · refine fun w' G hB hN1 hN2 v0 h0 v1 h1 v2 h2 v3 h3 v4 h4 v5 h5 v6 h6 => ?_
      replace h0 := h0.1
      replace h1 := h1.1
      replace h2 := h2.1
      replace h3 := h3.1
      replace h4 := h4.1
      replace h5 := h5.1
      obtain ⟨h6, hG6⟩ := h6; replace hG6 := hG6 (by decide)
      have hW6 := hN1 6 (by decide) (by decide)
      clear hN1 hN2
      obtain rfl := h0
      obtain rfl := h4
      obtain ⟨g6, rfl, hg6⟩ := h6
      obtain ⟨gn6, en6, hge6, hlt6⟩ := hW6
      obtain rfl := Option.some.inj (hG6.trans en6)
      dsimp only at hge6 hlt6
      clear en6
      simp only [onP, List.drop_succ_cons, List.drop_zero]
      go_simp
      clear h1 h2 h3 h5
      have G6 := Lib.hid ((Gr.of_below (trD T (.slice xn L cn) m) B9.out).next hB)
      have K7 := Lib.hid (K6.out.keep hB); have KX7 := Lib.hid (block_keep hB KX6.out)
      have HCL : Hid (NdsAt w' g6 0 [⟨h, I, -1, 0, 0, W0, false⟩]) := Lib.hid fun j v hv => by rw [Nat.zero_add, cell_of_row _ _ _ _ _ _ hg6, List.getElem?_toArray]; exact hv
      clear hB K6 KX6 B9 hg6
      have hg5T : g5 ≠ T := by omega
      have hg5n : Hid (Value.ownBlock (.slice xn L cn) ≠ some g5) := Lib.hid fun e => by have := HLT.out g5 (.inr (.inr e)); rw [HGH.out] at hgn; omega
      go_wp2_with (first | (at_builtin; refine wpList_append_nds rfl (.tmp 65) (.tmp 67) rfl 0 (.slice xn L cn) ns rfl K7.out.nodes [⟨h, I, -1, 0, 0, W0, false⟩] (some ⟨g6, 0, none⟩) 1 rfl (fun e => by cases e) (fun ad e => by cases e; exact ⟨rfl, HCL.out⟩) (by rw [← HL.out]; simp; omega) (Nat.zero_le _) (fun v' w5 ho hgrow hat => ?_); obtain ⟨x5, c5, e5⟩ := ho.shape; rw [List.length_append, List.length_singleton, ← HL.out] at e5; subst e5; have HGR := Lib.hid hgrow; have HO := Lib.hid ho; have HAT := Lib.hid hat; clear ho hgrow hat) | (refine st_one rfl 147 (.tmp 70) (.tmp 68) rfl T 1 74 (trS ⟨r, .slice xn L cn, .map (some m)⟩) 149 (.slice xn L cn) (.slice x5 (L + 1) c5) rfl rfl (K7.out.blk_grown HGR.out) rfl (tr_o _).2.1 nds_info rfl (fun w6 h1 h2 h3 h4 => ?_); obtain ⟨k5, k6, k7, k8⟩ := K7.out.nodes_next G6.out KX7.out HGR.out HO.out HAT.out h1 (Gr.of_st h2 h4); have K8 := Lib.hid k5; have G8 := Lib.hid k6; have DEF8 := Lib.hid k7; have KX8 := Lib.hid (k8 hg5T hg5n.out); clear h1 h2 h3 h4 k5 k6 k7 k8 HGR HO HAT))
      clear K7 G6 KX7 HCL
      refine wp_region_tail 7 [Is (.pointer (some ⟨T, 0, none⟩)), Is (.pointer (some ⟨T, 0, none⟩)), Is (.pointer (some ⟨T, 75, none⟩)), Is (.map (some m)), Is (.pointer (some ⟨g5, 68, none⟩)), Is (iv I), Is (.int .i64 L)] [[], [(0, some 71)], [(1, some 72)], [(2, some 73)], [], [(4, some 75)], [], [(3, some 74), (5, some 76), (6, some 77)]] [(0, some 71), (1, some 72), (2, some 73), (3, some 74), (4, some 75), (5, some 76), (6, some 77)] [0, 1, 3, 7, 0, 16, 0, 127]
        (by kernel_rfl) (by kernel_rfl) (by kernel_rfl) (by kernel_rfl) (by kernel_rfl) ⟨Is.kept _, Is.kept _, Is.kept _, Is.kept _, Is.kept _, Is.kept _, Is.kept _, trivial⟩ ⟨?_, ?_, ?_, ?_, ?_, ?_, ?_, trivial⟩ ?_
      · as_aux_lemma =>
        refine fun w' hB => ?_
        show wpList _ _ _ _ _ _
        go_wp2_with fail
        exact ⟨.pointer (some ⟨T, 0, none⟩), by first | rfl | (go_simp; done), rfl, Below.refl _ _⟩
      · as_aux_lemma =>
        refine fun w' hB v0 h0 => ?_
        obtain rfl := h0
        show wpList _ _ _ _ _ _
        go_wp2_with fail
        exact ⟨.pointer (some ⟨T, 0, none⟩), by first | rfl | (go_simp; done), rfl, Below.refl _ _⟩
      · as_aux_lemma =>
        refine fun w' hB v1 h1 => ?_
        obtain rfl := h1
        show wpList _ _ _ _ _ _
        go_wp2_with fail
        exact ⟨.pointer (some ⟨T, 75, none⟩), by first | rfl | (go_simp; done), rfl, Below.refl _ _⟩
      · as_aux_lemma =>
        refine fun w' hB v2 h2 => ?_
        obtain rfl := h2
        show wpList _ _ _ _ _ _
        have c := (K8.out.keep hB).byC
        go_wp2_with fail
        exact ⟨_, rfl, rfl, Below.refl _ _⟩
      · as_aux_lemma =>
        refine fun w' hB => ?_
        show wpList _ _ _ _ _ _
        go_wp2_with fail
        exact ⟨.pointer (some ⟨g5, 68, none⟩), by first | rfl | (go_simp; done), rfl, Below.refl _ _⟩
      · as_aux_lemma =>
        refine fun w' hB v4 h4 => ?_
        obtain rfl := h4
        show wpList _ _ _ _ _ _
        go_wp2_with (first | refine ld_id rfl (.tmp 75) rfl g5 68 I rfl (nd_id (block_keep hB KX8.out)) ?_)
        exact ⟨_, rfl, rfl, Below.refl _ _⟩
      · as_aux_lemma =>
        refine fun w' hB => ?_
        show wpList _ _ _ _ _ _
        go_wp2_with fail
        exact ⟨.int .i64 L, by first | rfl | (go_simp; done), rfl, Below.refl _ _⟩
      · refine fun w' hB v0 h0 v1 h1 v2 h2 v3 h3 v4 h4 v5 h5 v6 h6 => ?_
        obtain rfl := h3
        obtain rfl := h5
        obtain rfl := h6
        simp only [onP, List.drop_succ_cons, List.drop_zero]
        go_simp
        clear h0 h1 h2 h4
        have K9 := Lib.hid (K8.out.keep hB); have G9 := Lib.hid (G8.out.next hB)
        clear hB K8 KX8 G8
        go_wp2_with (first | (at_mapUpdate; refine wpList_mapUpdate_own _ rfl (.tmp 74) (.tmp 76) (.tmp 77) 146 rfl 24 3 idLaw map_under (plainElem (H := Unit) Try.prog 3) m c D rfl K9.out.by' (by unfold maxLen; omega) (iv I) (.int .i64 (L : Int)) (idk I) rfl rfl (idk_some I) (.lit (.int .i64 (L : Int))) [] (iElem_nat L (by omega)) (fun w7 hm hgrow => ?_); obtain ⟨k1, k2⟩ := K9.out.mapped G9.out hm hgrow; have K10 := Lib.hid k1; have G10 := Lib.hid k2; clear hm hgrow k1 k2))
        go_ret
        rw [HX0.out, ← HL.out]
        exact ⟨rfl, _, K10.out, G10.out, DEF8.out⟩
end Go.Proofs.Ytnbppbnjkmopeaa
namespace Go.Proofs.Ytnbppbnjkmopeaa
open Go.RowKit

theorem bld_tr (r : Rl) (m : Nat) : Try.prog.built 149 [(0, rlv r), (2, .map (some m))] = some (trL ⟨r, .slice none 0 0, .map (some m)⟩).toArray := by kernel_rfl
abbrev syv (s : Sy) : Value := .agg (syL s).toArray
theorem bld_sy (r : Rl) (salt n : Nat) (x : Nd) : Try.prog.built 153 [(0, rlv r), (1, iv salt), (2, nv n), (3, ndv x), (4, .int .i64 1), (5, ndv x)] = some (syL ⟨r, salt, n, x, 1, x, 0, .slice none 0 0, .slice none 0 0, 0⟩).toArray := by kernel_rfl
section
variable {ops : Array Oper} {rest : List Oper} {o : Oper} {a : Act} {w : World} {Q : Exit → Act → World → Prop}
theorem wpList_build_tr (hg : o.guard = none) (x0 x2 : Operand) (ho : o.op = .build 149 #[(0, x0), (2, x2)]) (r : Rl) (m : Nat) (h0 : a.eval x0 = rlv r) (h2 : a.eval x2 = .map (some m))
    (hc : wpList Try.prog ops Q rest (a.put o.dst (.agg (trL ⟨r, .slice none 0 0, .map (some m)⟩).toArray)) w) : wpList Try.prog ops Q (o :: rest) a w := by
  refine wpList_build_of hg 149 _ ho (trL ⟨r, .slice none 0 0, .map (some m)⟩).toArray ?_ hc
  simp only [List.map_toArray, List.map_cons, List.map_nil, h0, h2]
  exact bld_tr r m
theorem wpList_build_sy (hg : o.guard = none) (x0 x1 x2 x3 x5 : Operand) (ho : o.op = .build 153 #[(0, x0), (1, x1), (2, x2), (3, x3), (4, .const (.int .i64 1)), (5, x5)]) (r : Rl) (salt n : Nat) (x : Nd) (h0 : a.eval x0 = rlv r) (h1 : a.eval x1 = iv salt) (h2 : a.eval x2 = nv n) (h3 : a.eval x3 = ndv x) (h5 : a.eval x5 = ndv x)
    (hc : wpList Try.prog ops Q rest (a.put o.dst (syv ⟨r, salt, n, x, 1, x, 0, .slice none 0 0, .slice none 0 0, 0⟩)) w) : wpList Try.prog ops Q (o :: rest) a w := by
  refine wpList_build_of hg 153 _ ho (syL ⟨r, salt, n, x, 1, x, 0, .slice none 0 0, .slice none 0 0, 0⟩).toArray ?_ hc
  simp only [List.map_toArray, List.map_cons, List.map_nil, h0, h1, h2, h3, h5]
  exact bld_sy r salt n x
end
theorem rl_whole {w : World} {g : Nat} {x : Rl} (h : w.heap[g]? = some (rlblk x)) : w.rangeAt g 0 (rlL x) := fun j v hv => by
  rw [Nat.zero_add, cell_of_row _ _ _ _ _ _ h, List.getElem?_toArray]; exact hv
/-- index.Tree.Get over a tree -/
theorem tget_any (T m : Nat) (vn : Value) (r : Rl) (ns : List Nd) (c : Nat) (D : DataW Unit) (i : Int) (hi1 : -9223372036854775808 ≤ i) (hi2 : i < 9223372036854775808) (h0 : 0 < ns.length) (hn : ns.length ≤ 1000000) (w : World) (h : TrIs w T vn m r ns c D) :
    Calls Try.prog 35 #[.pointer (some ⟨T, 0, none⟩), .int .i64 i] w fun e w' => e = .returned (ndv (ns.getD (if i < 0 ∨ (ns.length : Int) ≤ i then 0 else i.toNat) nd0)) ∧ Below w.heap.size w w' := by
  rcases h.nodes.rows with ⟨_, e⟩ | ⟨b, cap, e, _, hb, _, _, hat⟩
  · rw [e] at h0; cases h0
  · have := hat.at (if i < 0 ∨ (ns.length : Int) ≤ i then 0 else i.toNat) (by split <;> omega)
    exact get_any T b 0 ns.length cap i ⟨r, vn, .map (some m)⟩ _ w h.blk e h0 (by omega) hi1 hi2 this

set_option maxRecDepth 100000 in
set_option maxHeartbeats 4000000 in
theorem new_any (r : Rl) (hl : r.limit < 4294967296) (hg : r.gen.ok) (hx : r.txs.oneCell' = true) (hc : chkP r = 0) (w : World) :
    Calls Try.prog 31 #[rlv r] w fun e w' => ∃ T vn m, e = .returned (.tuple #[.pointer (some ⟨T, 0, none⟩), .int .i64 0]) ∧ TrIs w' T vn m r [genN r.gen] 1 (byD [genN r.gen] 0 (.map [])) ∧ Below w.heap.size w w' ∧ ∀ k, trD T vn m k → w.heap.size ≤ k := by
  have K := Lib.hid (heap_new w (rlblk r))
  have B := Lib.hid (below_alloc (Below.refl w.heap.size w) (rlblk r))
  have cc := Lib.hid fun W => check_any r hl W
  rw [hc] at cc
  have HG := Lib.hid hg
  have HR : Hid (∀ v ∈ rlL r, v.oneCell' = true) := Lib.hid (rl1 r hx)
  clear hc hl hg hx
  go_enter Try.func31, Try.ntmps31
  go_wp2_with (first | refine ld_rl rfl (.tmp 1) rfl w.heap.size 0 r rfl (rl_whole K.out) ?_)
  refine (cc.out _).mono ?_
  rintro e w1 ⟨rfl, hb⟩
  have K1 := Lib.hid (block_keep hb K.out); have B1 := Lib.hid (below_next B.out hb)
  clear hb K B cc
  have e0 : ((0 : Int) != 0) = false := rfl
  have hmk : (Instr.makeMap 146 none).run Try.prog w1 = .ok (.map (some w1.heap.size)) (w1.alloc (.map #[] 0)) := rfl
  have KM := Lib.hid (World.ownsMap_made w1 Try.prog 24 (plainElem (H := Unit) Try.prog 3))
  have hg5 : (w1.alloc (.map #[] 0)).rangeAt w.heap.size 5 (hdcs r.gen) := seg_range (S := rlS r) (k := 5) (keep_alloc (.map #[] 0) K1.out) rfl rfl
  have HG5 := Lib.hid (World.rangeAt_alloc hg5 (.cells (trL ⟨r, .slice none 0 0, .map (some w1.heap.size)⟩).toArray 149))
  clear hg5
  go_wp2_with (first | refine ld_rl rfl (.tmp 1) rfl w.heap.size 0 r rfl (rl_whole K1.out) ?_ | refine wpList_build_tr rfl (.tmp 11) (.tmp 12) rfl r w1.heap.size rfl rfl ?_ | refine ld_hd rfl (.tmp 17) rfl w.heap.size 5 r.gen rfl HG5.out ?_)
  have hT : TrIs ((w1.alloc (.map #[] 0)).alloc (trblk ⟨r, .slice none 0 0, .map (some w1.heap.size)⟩)) (w1.heap.size + 1) (.slice none 0 0) w1.heap.size r [] 0 (.map []) := ⟨heap_new_at (by simp), OwnsNd.nil _ _, KM.out.alloc _⟩
  have B2 := Lib.hid (below_alloc (below_alloc B1.out (.map #[] 0)) (trblk ⟨r, .slice none 0 0, .map (some w1.heap.size)⟩))
  refine (putg_any (w1.heap.size + 1) w1.heap.size (.slice none 0 0) r [] 0 (.map []) r.gen HG.out (by simp) (by omega) _ hT).mono ?_
  rintro e w5 ⟨rfl, vn, k1, k2, k3⟩
  have K5 := Lib.hid k1; have G5 := Lib.hid k2; have D5 := Lib.hid k3
  clear k1 k2 k3 hT KM HG5 hmk e0
  go_wp2_with fail
  go_ret2
  have hz := B1.out.size
  have hz2 := B2.out.size
  have hD0 : ∀ k, trD (w1.heap.size + 1) (.slice none 0 0) w1.heap.size k → w.heap.size ≤ k := fun k hk => by
    rcases hk with e | e | e
    · omega
    · omega
    · cases e
  exact ⟨_, vn, _, rfl, K5.out, B2.out.trans (G5.out.below w.heap.size hz2 (fun i hi e => by have := hD0 i e; omega)), fun k hk => (D5.out k hk).elim (hD0 k) (fun e => by omega)⟩

set_option maxRecDepth 100000 in
set_option maxHeartbeats 4000000 in
theorem snew_any (T m : Nat) (vn : Value) (r : Rl) (ns : List Nd) (c : Nat) (D : DataW Unit) (salt : Nat) (h0 : 0 < ns.length) (hn : ns.length ≤ 1000000) (hl : r.limit < 4294967296) (hw : r.work ≤ 9223372036854775807) (hx : r.txs.oneCell' = true) (w : World) (h : TrIs w T vn m r ns c D) :
    Calls Try.prog 33 #[.pointer (some ⟨T, 0, none⟩), .int .i64 0, iv salt] w fun e w' => ∃ g, e = .returned (.pointer (some ⟨g, 0, none⟩)) ∧ w.heap.size ≤ g ∧ PsIs w' g (.slice none 0 0) (.slice none 0 0) ⟨r, salt, needN r, ns.getD 0 nd0, 1, ns.getD 0 nd0, 0, [], [], 0⟩ ∧ Below w.heap.size w w' := by
  have KS := Lib.hid (heap_new w (iblk salt))
  have B := Lib.hid (below_alloc (Below.refl w.heap.size w) (iblk salt))
  have K := Lib.hid (h.keep B.out)
  have cg := Lib.hid fun (W : World) (hW : TrIs W T vn m r ns c D) => tget_any T m vn r ns c D 0 (by omega) (by omega) h0 hn W hW
  rw [if_neg (by omega), show (0 : Int).toNat = 0 from rfl] at cg
  obtain ⟨x, hx0⟩ : ∃ x, x = ns.getD 0 nd0 := ⟨_, rfl⟩
  have cn := Lib.hid fun W => need_any r hl hw W
  obtain ⟨N0, hN0⟩ : ∃ N0, N0 = needN r := ⟨_, rfl⟩
  rw [← hN0] at cn
  rw [← hx0] at cg
  rw [← hx0, ← hN0]
  clear hx0 hN0 hw hl h0 h
  go_enter Try.func33, Try.ntmps33
  go_wp2_with fail
  refine (cg.out _ K.out).mono ?_
  rintro e w2 ⟨rfl, hb⟩
  have hz := hb.size
  go_wp2_with (first | (refine st_nd rfl (.tmp 7) (.tmp 10) rfl w2.heap.size nd0 x rfl rfl ((heap_new w2 _).trans (congrArg some ndzb)) (fun w4 h1 h2 h3 h4 => ?_); have hB4 := h4 _ _ hz (below_alloc hb _); have KX4 := Lib.hid h1; have K4 := Lib.hid (K.out.keep hB4); have KS4 := Lib.hid (block_keep hB4 KS.out); have B4 := Lib.hid (below_next B.out hB4); clear h1 h2 h3 h4 hB4))
  have hz2 : w.heap.size ≤ w2.heap.size := by have := B.out.size; omega
  clear hb K KS B cg hz
  obtain ⟨g7, hg7⟩ : ∃ g, g = w2.heap.size := ⟨_, rfl⟩
  obtain ⟨gs, hgs⟩ : ∃ g, g = w.heap.size := ⟨_, rfl⟩
  rw [← hg7] at KX4
  rw [← hgs] at KS4
  rw [← hg7, ← hgs]
  clear hg7 hgs hz2
  refine wp_region_tail 9 [Is (.pointer (some ⟨T, 0, none⟩)), Is (rlv r), Is (iv salt), Is (.pointer (some ⟨T, 0, none⟩)), Is (rlv r), Is (nv N0), Is (ndv x), Is (ndv x), Is (syv ⟨r, salt, N0, x, 1, x, 0, .slice none 0 0, .slice none 0 0, 0⟩)] [[], [(0, some 11)], [], [], [(3, some 14)], [(4, some 15)], [], [], [(1, some 12), (2, some 13), (5, some 16), (6, some 17), (7, some 18)], [(8, some 19)], [(9, some 20)]] [(0, some 11), (1, some 12), (2, some 13), (3, some 14), (4, some 15), (5, some 16), (6, some 17), (7, some 18), (8, some 19)] [0, 1, 0, 0, 11, 27, 0, 0, 255, 511, 1023]
    (by kernel_rfl) (by kernel_rfl) (by kernel_rfl) (by kernel_rfl) (by kernel_rfl) ⟨Is.kept _, Is.kept _, Is.kept _, Is.kept _, Is.kept _, Is.kept _, Is.kept _, Is.kept _, Is.kept _, trivial⟩ ⟨?_, ?_, ?_, ?_, ?_, ?_, ?_, ?_, ?_, trivial⟩ ?_
  · as_aux_lemma =>
    refine fun w' hB => ?_
    show wpList _ _ _ _ _ _
    go_wp2_with fail
    exact ⟨.pointer (some ⟨T, 0, none⟩), by first | rfl | (go_simp; done), rfl, Below.refl _ _⟩
  · as_aux_lemma =>
    refine fun w' hB v0 h0 => ?_
    obtain rfl := h0
    show wpList _ _ _ _ _ _
    go_wp2_with fail
    refine ((rules_any T _ hx w' (K4.out.keep hB).blk)).mono ?_
    rintro e w2 ⟨rfl, hb2⟩
    go_wp2_with fail
    exact ⟨rlv r, by first | rfl | (go_simp; done), rfl, hb2⟩
  · as_aux_lemma =>
    refine fun w' hB => ?_
    show wpList _ _ _ _ _ _
    go_wp2_with (first | refine wpList_load_id rfl (.tmp 5) rfl gs salt rfl (block_keep hB KS4.out) ?_)
    exact ⟨_, rfl, rfl, Below.refl _ _⟩
  · as_aux_lemma =>
    refine fun w' hB => ?_
    show wpList _ _ _ _ _ _
    go_wp2_with fail
    exact ⟨.pointer (some ⟨T, 0, none⟩), by first | rfl | (go_simp; done), rfl, Below.refl _ _⟩
  · as_aux_lemma =>
    refine fun w' hB v3 h3 => ?_
    obtain rfl := h3
    show wpList _ _ _ _ _ _
    go_wp2_with fail
    refine ((rules_any T _ hx w' (K4.out.keep hB).blk)).mono ?_
    rintro e w2 ⟨rfl, hb2⟩
    go_wp2_with fail
    exact ⟨rlv r, by first | rfl | (go_simp; done), rfl, hb2⟩
  · as_aux_lemma =>
    refine fun w' hB v4 h4 => ?_
    obtain rfl := h4
    show wpList _ _ _ _ _ _
    go_wp2_with fail
    refine ((cn.out w')).mono ?_
    rintro e w2 ⟨rfl, hb2⟩
    go_wp2_with fail
    exact ⟨nv N0, by first | rfl | (go_simp; done), rfl, hb2⟩
  · as_aux_lemma =>
    refine fun w' hB => ?_
    show wpList _ _ _ _ _ _
    go_wp2_with (first | refine ld_nd rfl (.tmp 7) rfl g7 0 x rfl (nd_whole (block_keep hB KX4.out)) ?_)
    exact ⟨_, rfl, rfl, Below.refl _ _⟩
  · as_aux_lemma =>
    refine fun w' hB => ?_
    show wpList _ _ _ _ _ _
    go_wp2_with (first | refine ld_nd rfl (.tmp 7) rfl g7 0 x rfl (nd_whole (block_keep hB KX4.out)) ?_)
    exact ⟨_, rfl, rfl, Below.refl _ _⟩
  · as_aux_lemma =>
    refine fun w' hB v1 h1 v2 h2 v5 h5 v6 h6 v7 h7 => ?_
    obtain rfl := h1
    obtain rfl := h2
    obtain rfl := h5
    obtain rfl := h6
    obtain rfl := h7
    show wpList _ _ _ _ _ _
    go_wp2_with (first | refine wpList_build_sy rfl (.tmp 12) (.tmp 13) (.tmp 16) (.tmp 17) (.tmp 18) rfl r salt N0 x rfl rfl rfl rfl rfl ?_)
    exact ⟨_, rfl, rfl, Below.refl _ _⟩
  · refine fun w' hB v0 h0 v1 h1 v2 h2 v3 h3 v4 h4 v5 h5 v6 h6 v7 h7 v8 h8 => ?_
    obtain rfl := h8
    simp only [onP, List.drop_succ_cons, List.drop_zero]
    go_simp
    clear h0 h1 h2 h3 h4 h5 h6 h7
    have B5 := Lib.hid (below_next B4.out hB)
    clear hB K4 KX4 KS4 B4 cn
    go_wp2_with fail
    go_ret
    exact ⟨_, rfl, (below_next B5.out (Below.refl _ _)).size, ⟨heap_new _ _, OwnsB.nil _ _, OwnsH.nil _ _⟩, below_alloc B5.out _⟩
end Go.Proofs.Ytnbppbnjkmopeaa
namespace Go.Proofs.Ytnbppbnjkmopeaa
open Go.RowKit

def LM : Nat := 545259519
def gh0 : Hd := ⟨0, 0, 0, 0, 545259519, 0⟩
/-- the statements' rules -/
def rlR (work every : Int) : Rl := ⟨545259519, every, 10, 50, work, gh0, .slice none 0 0⟩
def blkL : List Value := hdcs gh0 ++ [.slice none 0 0]
theorem bld_gen : Try.prog.built 26 [(4, .int .u32 545259519)] = some (hdcs gh0).toArray := by kernel_rfl
theorem bld_blk : Try.prog.built 60 [(0, hdv gh0)] = some blkL.toArray := by kernel_rfl
theorem bld_rl (work every : Int) : Try.prog.built 62 [(0, .int .u32 545259519), (1, .int .i64 every), (2, .int .i64 10), (3, .int .i64 50), (4, .int .i64 work), (5, .agg blkL.toArray)] = some (rlL (rlR work every)).toArray := by kernel_rfl
section
variable {ops : Array Oper} {rest : List Oper} {o : Oper} {a : Act} {w : World} {Q : Exit → Act → World → Prop}
theorem wpList_build_gen (hg : o.guard = none) (ho : o.op = .build 26 #[(4, .const (.int .u32 545259519))])
    (hc : wpList Try.prog ops Q rest (a.put o.dst (hdv gh0)) w) : wpList Try.prog ops Q (o :: rest) a w := by
  refine wpList_build_of hg 26 _ ho (hdcs gh0).toArray ?_ hc
  simp only [List.map_toArray, List.map_cons, List.map_nil]
  exact bld_gen
theorem wpList_build_blk (hg : o.guard = none) (x0 : Operand) (ho : o.op = .build 60 #[(0, x0)]) (h0 : a.eval x0 = hdv gh0)
    (hc : wpList Try.prog ops Q rest (a.put o.dst (.agg blkL.toArray)) w) : wpList Try.prog ops Q (o :: rest) a w := by
  refine wpList_build_of hg 60 _ ho blkL.toArray ?_ hc
  simp only [List.map_toArray, List.map_cons, List.map_nil, h0]
  exact bld_blk
theorem wpList_build_rl (hg : o.guard = none) (x1 x4 x5 : Operand) (ho : o.op = .build 62 #[(0, .const (.int .u32 545259519)), (1, x1), (2, .const (.int .i64 10)), (3, .const (.int .i64 50)), (4, x4), (5, x5)]) (work every : Int) (h1 : a.eval x1 = .int .i64 every) (h4 : a.eval x4 = .int .i64 work) (h5 : a.eval x5 = .agg blkL.toArray)
    (hc : wpList Try.prog ops Q rest (a.put o.dst (rlv (rlR work every))) w) : wpList Try.prog ops Q (o :: rest) a w := by
  refine wpList_build_of hg 62 _ ho (rlL (rlR work every)).toArray ?_ hc
  simp only [List.map_toArray, List.map_cons, List.map_nil, h1, h4, h5]
  exact bld_rl work every
end
set_option maxRecDepth 100000 in
set_option maxHeartbeats 4000000 in
theorem lrules_any (work every : Int) (w : World) : Calls Try.prog 32 #[.int .i64 work, .int .i64 every] w fun e w' => e = .returned (rlv (rlR work every)) ∧ Below w.heap.size w w' := by
  have KR : Hid ((w.alloc (.cells Try.zeroCells62 62)).heap[w.heap.size]? = some (rlblk rl0)) := Lib.hid (rlzb ▸ heap_new w _)
  have B := Lib.hid (below_alloc (Below.refl w.heap.size w) (.cells Try.zeroCells62 62))
  go_enter Try.func32, Try.ntmps32
  go_wp2_with (first | refine wpList_build_gen rfl rfl ?_ | refine wpList_build_blk rfl (.tmp 7) rfl rfl ?_ | refine wpList_build_rl rfl (.tmp 5) (.tmp 6) (.tmp 8) rfl work every rfl rfl rfl ?_ | refine st_rl rfl (.tmp 4) (.tmp 9) rfl w.heap.size rl0 (rlR work every) rfl rfl rfl KR.out (fun w3 h1 h2 h3 h4 => ?_))
  have hl := loadVar_rl h1
  exact bodyPost_ret (v := rlv (rlR work every)) (by simp [results, Try.results32, Act.put, asAddr, hl]) rfl ⟨rfl, h4 _ _ (by omega) B.out⟩

/-- so many headers behind a name, with a mark, from the i-th on -/
def lineH (mark i prev : Nat) : Hd := ⟨mark, prev, 0, 10 * (i + 1) % 4294967296, 545259519, 0⟩
def lineP (tr lim mark : Nat) : Nat → Nat → Nat → List Hd
  | 0, _, _ => []
  | n + 1, i, prev => match mineP tr (lineH mark i prev) lim with
    | none => []
    | some h => h :: lineP tr lim mark n (i + 1) (hdid h)
theorem lineP_len (tr lim mark : Nat) : ∀ n i prev, (lineP tr lim mark n i prev).length ≤ n
  | 0, _, _ => Nat.le_refl _
  | n + 1, i, prev => by
    unfold lineP
    split
    · exact Nat.zero_le _
    · rw [List.length_cons]; have := lineP_len tr lim mark n (i + 1) (hdid ‹Hd›); omega
theorem lineH_ok {mark i prev : Nat} (hm : mark < 256) (hp : prev < 2 ^ 256) : (lineH mark i prev).ok := ⟨by show mark < 4294967296; omega, hp, by show (0 : Nat) < 2 ^ 256; decide, Nat.mod_lt _ (by decide), by show (545259519 : Nat) < 4294967296; decide, by show (0 : Nat) < 4294967296; decide⟩
theorem lineP_ok {tr lim mark : Nat} (hm : mark < 256) : ∀ n i prev, prev < 2 ^ 256 → ∀ h ∈ lineP tr lim mark n i prev, h.ok
  | 0, _, _, _, h, hh => by cases hh
  | n + 1, i, prev, hp, h, hh => by
    unfold lineP at hh
    split at hh
    · cases hh
    · rename_i x hx
      have hxo := mine_ok tr _ _ _ (lineH_ok hm hp) hx
      rw [List.mem_cons] at hh
      rcases hh with rfl | hh
      · exact hxo
      · exact lineP_ok hm n (i + 1) _ (hdid_lt x) h hh
theorem hds_new (w : World) (x : Hd) : HdsAt (w.alloc (.cells (hdsL [x]).toArray 26 (0, 0))) w.heap.size 0 [x] := fun j v hv => by
  rw [Nat.zero_add, cell_of_row _ _ _ _ _ _ (heap_new w _), List.getElem?_toArray]; exact hv
theorem OwnsH.ge {w : World} {base : Nat} {v : Value} {l : List Hd} (h : OwnsH w base v l) {k : Nat} (hk : v.ownBlock = some k) : base ≤ k := by
  rcases h.2 with ⟨rfl, _⟩ | ⟨g, cap, cur, rfl, h1, _⟩
  · cases hk
  · obtain rfl : g = k := Option.some.inj hk
    exact h1
theorem OwnsH.lt {w : World} {base : Nat} {v : Value} {l : List Hd} (h : OwnsH w base v l) {k : Nat} (hk : v.ownBlock = some k) : k < w.heap.size := by
  rcases h.2 with ⟨rfl, _⟩ | ⟨g, cap, cur, rfl, _, h2, _⟩
  · cases hk
  · obtain rfl : g = k := Option.some.inj hk
    exact block_lt h2
theorem OwnsH.mono {w : World} {base b2 : Nat} {v : Value} {l : List Hd} (h : OwnsH w base v l) (hb : b2 ≤ base) : OwnsH w b2 v l := by
  refine ⟨h.1, ?_⟩
  rcases h.2 with h' | ⟨g, cap, cur, rfl, h1, h2⟩
  · exact .inl h'
  · exact .inr ⟨g, cap, cur, rfl, Nat.le_trans hb h1, h2⟩
theorem bld_line (v p t : Nat) : Try.prog.built 26 [(0, .int .u32 (v : Int)), (1, iv p), (3, .int .u32 (t : Int)), (4, .int .u32 545259519)] = some (hdcs ⟨v, p, 0, t, 545259519, 0⟩).toArray := by kernel_rfl
theorem wpList_build_line {ops : Array Oper} {rest : List Oper} {o : Oper} {a : Act} {w : World} {Q : Exit → Act → World → Prop} (hg : o.guard = none) (x0 x1 x3 : Operand) (ho : o.op = .build 26 #[(0, x0), (1, x1), (3, x3), (4, .const (.int .u32 545259519))]) (v p t : Nat) (h0 : a.eval x0 = .int .u32 (v : Int)) (h1 : a.eval x1 = iv p) (h3 : a.eval x3 = .int .u32 (t : Int))
    (hc : wpList Try.prog ops Q rest (a.put o.dst (hdv ⟨v, p, 0, t, 545259519, 0⟩)) w) : wpList Try.prog ops Q (o :: rest) a w := by
  refine wpList_build_of hg 26 _ ho (hdcs ⟨v, p, 0, t, 545259519, 0⟩).toArray ?_ hc
  simp only [List.map_toArray, List.map_cons, List.map_nil, h0, h1, h3]
  exact bld_line v p t

set_option maxRecDepth 100000 in
set_option maxHeartbeats 4000000 in
theorem line_any (prev : Nat) (hp : prev < 2 ^ 256) (n : Nat) (hn : n ≤ 1000) (mark : Nat) (hm : mark < 256) (w : World) :
    Calls Try.prog 34 #[iv prev, .int .i64 (n : Int), .int .u8 (mark : Int)] w fun e w' => ∃ v, e = .returned v ∧ OwnsH w' w.heap.size v (lineP 1000 545259519 mark n 0 prev) ∧ Below w.heap.size w w' := by
  obtain ⟨tr, htr⟩ : ∃ tr : Nat, tr = 1000 := ⟨_, rfl⟩
  obtain ⟨lim, hlim⟩ : ∃ lim : Nat, lim = 545259519 := ⟨_, rfl⟩
  have HTR := Lib.hid htr; have HLIM := Lib.hid hlim
  rw [← htr, ← hlim]
  clear htr hlim
  obtain ⟨R, hR⟩ : ∃ R, R = lineP tr lim mark n 0 prev := ⟨_, rfl⟩
  rw [← hR]
  have hRl : R.length ≤ n := hR ▸ lineP_len tr lim mark n 0 prev
  have HR := Lib.hid hR
  have KP := Lib.hid (heap_new w (iblk prev))
  have B := Lib.hid (below_alloc (Below.refl w.heap.size w) (iblk prev))
  have HP := Lib.hid hp
  clear hR hp
  go_enter Try.func34, Try.ntmps34
  go_wp2_with fail
  obtain ⟨gp, hgp⟩ : ∃ g, g = w.heap.size := ⟨_, rfl⟩
  have HGP := Lib.hid hgp
  rw [← hgp] at KP B
  rw [← hgp]
  clear hgp
  go_loopg [7, 12] (n + 1) (fun gm lv ix wr => ∃ (j p : Nat) (q : List Hd), gm = n + 1 - j ∧ j ≤ n ∧ ix = .int .i64 j ∧ p < 2 ^ 256 ∧ q.length = j ∧ R = q ++ lineP tr lim mark (n - j) j p ∧ wr.heap[gp]? = some (iblk p) ∧ OwnsH wr (gp + 1) lv q ∧ Below gp w wr)
  case atStart => exact ⟨0, prev, [], rfl, Nat.zero_le _, rfl, HP.out, rfl, HR.out, KP.out, OwnsH.nil _ _, B.out⟩
  case round =>
    clear KP B HP HR
    obtain ⟨j, p, q, hg, hj, rfl, hp, hq, hR, hK, hO, hB⟩ := hrel
    have HG := Lib.hid hg; have HP := Lib.hid hp; have HQ := Lib.hid hq; have HR := Lib.hid hR; have K := Lib.hid hK; have O := Lib.hid hO; have B := Lib.hid hB
    clear hg hp hq hR hK hO hB
    by_cases hlt : j < n
    · obtain ⟨k, hk⟩ : ∃ k, k = n - (j + 1) := ⟨_, rfl⟩
      have hR2 := HR.out
      rw [show n - j = k + 1 by omega, lineP] at hR2
      have hlo : (lineH mark j p).ok := lineH_ok hm HP.out
      have m0 : Hid (∀ W, Calls Try.prog 27 #[hdv (lineH mark j p), .int .u32 545259519, .int .i64 1000] W fun e w' => e = .returned (mres (mineP tr (lineH mark j p) lim)) ∧ Below W.heap.size W w') := Lib.hid fun W => by
        have := mine_any (lineH mark j p) hlo lim (by rw [HLIM.out]; decide) 1000 W
        rw [show (min (1000 : Int) 65536).toNat = tr from by rw [HTR.out]; decide] at this
        rw [show ((lim : Nat) : Int) = 545259519 from by rw [HLIM.out]; rfl] at this
        exact this
      rw [mres_eq] at m0
      obtain ⟨M, hM⟩ : ∃ M, M = mineP tr (lineH mark j p) lim := ⟨_, rfl⟩
      have HMO : Hid (mhd M).ok := Lib.hid (by rw [hM]; exact mhd_ok hlo)
      rw [← hM] at m0 hR2
      have HR2 := Lib.hid hR2
      have HK := Lib.hid hk
      obtain ⟨x, hx⟩ : ∃ x, x = mhd M := ⟨_, rfl⟩
      obtain ⟨b, hb⟩ : ∃ p, p = M.isSome := ⟨_, rfl⟩
      rw [← hx, ← hb] at m0
      rw [← hx] at HMO
      have HX := Lib.hid hx; have HBS := Lib.hid hb
      clear hM hR2 hlo hx hb hk HR
      have ez : Try.zeroCells26 = (hdcs hd0).toArray := hdz
      obtain ⟨t, ht⟩ : ∃ t, t = 10 * (j + 1) % 4294967296 := ⟨_, rfl⟩
      have et : (10 : Int) * ((j : Int) + 1) = (t : Int) := by omega
      unfold lineH at m0
      rw [← ht] at m0
      clear ht
      go_wp2_with (first | ((with_reducible show wpList _ _ _ _ _ _); first | refine wpList_load_id rfl (.tmp 3) rfl gp p rfl K.out ?_ | refine wpList_build_line rfl (.tmp 17) (.tmp 18) (.tmp 22) rfl mark p t rfl rfl rfl ?_))
      refine (m0.out _).mono ?_
      rintro e w2 ⟨rfl, hb⟩
      have hz := hb.size
      have HZB := Lib.hid (show Obj.cells Try.zeroCells26 26 = hdblk hd0 from by unfold hdblk; rw [ez])
      clear et m0 ez
      go_upto_region 6 with (first | ((with_reducible show wpList _ _ _ _ _ _); (refine wpList_store_hd rfl (.tmp 9) (.tmp 25) rfl w2.heap.size hd0 x rfl rfl ((heap_new w2 _).trans (congrArg some HZB.out)) (fun w3 h1 h2 h3 h4 => ?_)); have hB3 := h4 _ _ hz (below_alloc hb _); have KX := Lib.hid h1; have K3 := Lib.hid (block_keep hB3 K.out); have O3 := Lib.hid (O.out.keep hB3); have B3 := Lib.hid (B.out.trans (hB3.mono (Nat.le_of_lt (block_lt K.out)))); clear h1 h2 h3 h4 hB3))
      have h9 : Hid (∀ k, u7.ownBlock = some k → k < w2.heap.size) := Lib.hid fun k hk => by have := O.out.lt hk; omega
      obtain ⟨g9, hg9⟩ : ∃ g, g = w2.heap.size := ⟨_, rfl⟩
      rw [← hg9] at KX h9
      rw [← hg9]
      have hgp9 : gp < g9 := by have := block_lt K.out; omega
      clear hb hz K O B hg9
      cases b
      · have hm : M = none := by
          cases M
          · rfl
          · have := HBS.out; simp at this
        have hR2 := HR2.out
        rw [hm] at hR2
        simp only [List.append_nil] at hR2
        have HR3 := Lib.hid hR2
        clear hm hR2 HR2
        go_wp2_with fail
        go_ret
        rw [HR3.out]
        exact ⟨_, rfl, O3.out.mono (by have := HGP.out; omega), HGP.out ▸ B3.out⟩
      · obtain ⟨x0, hm⟩ : ∃ y, M = some y := by
          cases M
          · have := HBS.out; simp at this
          · exact ⟨_, rfl⟩
        have hx : x = x0 := by rw [HX.out, hm]; rfl
        subst hx
        have hR2 := HR2.out
        rw [hm] at hR2
        dsimp only at hR2
        have HR3 := Lib.hid hR2
        clear hm hR2 HR2 HX HBS
        have ch := Lib.hid fun V => hid_any x HMO.out V
        have hz3 := block_lt KX.out
        have HU : Hid (∃ z c, u7 = .slice z j c) := Lib.hid (by obtain ⟨z, c, e⟩ := O3.out.shape; exact ⟨z, c, by rw [e, HQ.out]⟩)
        go_upto_region 9 with (first | ((with_reducible show wpList _ _ _ _ _ _); first | refine wpList_load_hd rfl (.tmp 9) rfl g9 x rfl KX.out ?_ | refine wpList_bs_hd rfl (.tmp 31) x rfl rfl ?_ | (at_builtin; refine wpList_append_hds rfl (.tmp 30) (.tmp 32) rfl (gp + 1) u7 q rfl (O3.out.keep (below_alloc (Below.refl _ _) _)) [x] (some ⟨w3.heap.size, 0, none⟩) 1 rfl (fun e => by cases e) (fun ad e => by cases e; exact ⟨rfl, hds_new _ _⟩) (by rw [HQ.out]; simp; omega) (by simp; omega) (fun v' w5 ho hgrow hat => ?_); have HGR := Lib.hid hgrow; have HO := Lib.hid ho; clear ho hgrow hat)))
        have G5 : Gr (fun k => u7.ownBlock = some k) w3 w5 := (Gr.of_below _ (below_alloc (Below.refl _ _) _)).trans (Gr.of_grown HGR.out) (fun i _ e => e)
        have K5 := Lib.hid (G5.keep K3.out (fun e => by have := O3.out.ge e; omega))
        have KX5 := Lib.hid (G5.keep KX.out (fun e => by have := h9.out g9 e; omega))
        have B5 := Lib.hid (B3.out.trans (G5.below gp (by omega) (fun i hi e => by have := O3.out.ge e; omega)))
        obtain ⟨x5, c5, e5⟩ := HO.out.shape
        subst e5
        clear G5 HGR K3 KX B3 O3 hz3 h9 HU
        have hzp := block_lt K5.out
        go_wp2_with (first | ((with_reducible show wpList _ _ _ _ _ _); refine wpList_load_hd rfl (.tmp 9) rfl g9 x rfl KX5.out ?_) | (go_at_call 23; refine (ch.out _).mono ?_; rintro e w6 ⟨rfl, hb6⟩; have K6 := Lib.hid (block_keep hb6 K5.out); have O6 := Lib.hid (HO.out.keep hb6); have B6 := Lib.hid (B5.out.trans (hb6.mono (Nat.le_of_lt hzp))); clear hb6) | ((with_reducible show wpList _ _ _ _ _ _); refine wpList_store_id rfl (.tmp 3) (.tmp 35) rfl gp p (hdid x) rfl rfl K6.out (fun w7 h1 h2 h3 h4 => ?_); have K7 := Lib.hid h1; have O7 := Lib.hid (O6.out.gr (Gr.of_st h2 h4) (fun k hk e => by have := HO.out.ge hk; omega)); have B7 := Lib.hid (h4 gp w (Nat.le_refl _) B6.out); clear h1 h2 h3 h4))
        go_roundg (n + 1 - (j + 1))
        case measure => have := HG.out; omega
        case rel => exact ⟨j + 1, hdid x, q ++ [x], rfl, by omega, by go_num, hdid_lt x, by rw [List.length_append, HQ.out]; rfl, by rw [HR3.out, ← HK.out, List.append_assoc]; rfl, K7.out, (by have := O7.out; rwa [List.length_append, List.length_singleton] at this), B7.out⟩
    · obtain rfl : j = n := by omega
      have hR2 := HR.out
      rw [Nat.sub_self, lineP, List.append_nil] at hR2
      have HR2 := Lib.hid hR2
      clear hR2 HR
      go_wp2_with fail
      go_ret
      rw [HR2.out]
      exact ⟨_, rfl, O.out.mono (by have := HGP.out; omega), HGP.out ▸ B.out⟩
end Go.Proofs.Ytnbppbnjkmopeaa
