/- What the hash texts stand on (where there is no package num). No condition. -/
import Derived.Test.YtfopockjakeplaaRows
import Derived.WalkKit
import Derived.WalkSpells
import Derived.WalkLawsBesides
import Derived.Deep.QuietTactic
import Derived.BigQuiet
import Derived.Deep.RegionWith
import Derived.Deep.RegionHeld3
import Derived.Deep.DeepCutAuto
import Derived.Lib.Hide
import Derived.Lib.QuietBelow
import Derived.Lib.BitFns
import Derived.Lib.Mul64
import Derived.Lib.Small
import Derived.Lib.Walk
import Derived.Lib.Strings
import Derived.Lib.Slices
import Derived.Laws.Bits64b
import Derived.Stop.BytesEq
import Derived.Handy
import Derived.Laws.OwnMore
import Derived.Deep.Onto
import Derived.OwnWalk
import Derived.Deep.MidRow
import Derived.Laws.BitsAllLaws
namespace Go.Proofs.Ytfopockjakeplaa
open Go.ChangeShapes Go.WideShapes Go.ChangeAt Go.RowKit

theorem below_drewN {B : Nat} {a w : World} (h : Below B a w) (n : Nat) : Below B a (w.drewN n) := ⟨h.os, h.tape, h.output, h.size, h.block⟩
/-- the world at a place of the code behind a letter, with what is known of it -/
theorem wp_abs {P : Program} {c : Code} {Q : Exit → Act → World → Prop} {a : Act} {w : World} (R : World → Prop) (h0 : R w) (h : ∀ W, R W → c.wp P Q a W) : c.wp P Q a w := h w h0
theorem below_of_regrown {w w' : World} (h : ∃ p : Regrown, w' = Go.Sort.grow (redrawn w p.d) p.os) : Below w.heap.size w w' := by
  obtain ⟨p, rfl⟩ := h; exact below_regrown w p.d p.os
theorem bcell {W w1 : World} (hb : Below W.heap.size W w1) : (∀ b o, b < W.heap.size → w1.cell? ⟨b, o, none⟩ = W.cell? ⟨b, o, none⟩) ∧ (∀ b o, b < W.heap.size → w1.frozen? ⟨b, o, none⟩ = W.frozen? ⟨b, o, none⟩) :=
  ⟨fun b o h => hb.cell (p := ⟨b, o, none⟩) h, fun b o h => hb.frozen (p := ⟨b, o, none⟩) h⟩
theorem block_lt {w : World} {b : Nat} {o : Obj} (h : w.heap[b]? = some o) : b < w.heap.size := (Array.getElem?_eq_some_iff.1 h).1
/-- a block that is below stays -/
theorem below_keeps {B : Nat} {w w' : World} (h : Below B w w') {b : Nat} {o : Obj} (hb : b < B) (ho : w.heap[b]? = some o) : w'.heap[b]? = some o := (h.block b hb).trans ho
theorem below_keep {w w' : World} (h : Below w.heap.size w w') {b : Nat} {o : Obj} (ho : w.heap[b]? = some o) : w'.heap[b]? = some o := (h.block b (block_lt ho)).trans ho
/-- growth behind growth -/
theorem below_then {B : Nat} {w w1 w2 : World} (h : Below B w w1) (hB : B ≤ w1.heap.size) (k : Below w1.heap.size w1 w2) : Below B w w2 := h.trans (k.mono hB)
theorem heap_new (w : World) (o : Obj) : (w.alloc o).heap[w.heap.size]? = some o := by
  show (w.heap.push o)[w.heap.size]? = some o
  simp
theorem run_ext {P : Program} {f : FuncId} {fn : Func} {e : Array Value → Sem Value} (hf : P.funcs[f]? = some fn) (hname : (fn.name == "runtime.NumGoroutine") = false)
    (hb : fn.body.isNone = true) (hn : Extern.findNext fn = none) (he : Extern.find fn = some e) (args : Array Value) (v : Value) (w : World) (h : (e args).run P w = .ok v w) :
    (callFunc f args).run P w = .ok (.value v) w := by
  rw [run_callFunc_extern hf hname hb hn he, h]; rfl
theorem all_range_ints : ∀ (xs ys : List Int), xs.length = ys.length → ((List.range xs.length).all fun i => xs.getD i 0 == ys.getD i 0) = (xs == ys)
  | [], [], _ => rfl
  | x :: xs, y :: ys, h => by
    have ih := all_range_ints xs ys (by simpa using h)
    rw [List.length_cons, List.range_succ_eq_map, List.all_cons, List.all_map]
    simp only [List.getD_cons_zero, Function.comp_def, List.getD_cons_succ, ih]
    simp [List.cons_beq_cons]
  | [], _ :: _, h => by simp at h
  | _ :: _, [], h => by simp at h
/-- '==' of two arrays of whole numbers -/
theorem run_equalIn_ints {P : Program} (w : World) (d : Nat) (t e : TypeId) (n : Nat) (k : IntKind) (ht : P.underlying t = some (.array n e)) (he : P.underlying e = some (.int k)) (hsz : ∀ w, (sizeOf e).run P w = .ok 1 w)
    (xs ys : List Int) (hx : xs.length = n) (hy : ys.length = n) :
    (Op.equalIn (d + 2) t (.agg (xs.map (Value.int k)).toArray) (.agg (ys.map (Value.int k)).toArray)).run P w = .ok (xs == ys) w := by
  rw [← all_range_ints xs ys (hx.trans hy.symm), hx, List.range_eq_range', Op.equalIn]
  simp only [Sem.run_bind, run_underlying ht, Result.andThen_ok, hsz, Std.Legacy.Range.forIn_eq_forIn_range', Std.Legacy.Range.size, Nat.sub_zero, Nat.add_sub_cancel, Nat.div_one]
  have hl : ∀ i ∈ List.range' 0 n 1, i < n := fun i hi => by simpa using (List.mem_range'_1.1 hi).2
  generalize List.range' 0 n 1 = l at hl ⊢
  induction l with
  | nil => simp
  | cons i l ih =>
    have hi : i < n := hl i (by simp)
    have px : (part e (xs.map (Value.int k)).toArray (i * 1)).run P w = .ok (.int k (xs.getD i 0)) w := by
      simp [part, isAgg, run_underlying he, List.getD, List.getElem?_eq_getElem (show i < xs.length by omega)]
    have py : (part e (ys.map (Value.int k)).toArray (i * 1)).run P w = .ok (.int k (ys.getD i 0)) w := by
      simp [part, isAgg, run_underlying he, List.getD, List.getElem?_eq_getElem (show i < ys.length by omega)]
    have pe : (Op.equalIn (d + 1) e (.int k (xs.getD i 0)) (.int k (ys.getD i 0))).run P w = .ok (xs.getD i 0 == ys.getD i 0) w :=
      run_equalIn_int w d e k k _ _ he
    simp only [List.forIn_cons, Sem.run_bind, px, py, pe, Result.andThen_ok, List.all_cons]
    cases hb : (xs.getD i 0 == ys.getD i 0)
    · simp
    · simp only [Bool.not_true, Bool.false_eq_true, if_false, Sem.run_pure, Result.andThen_ok, Bool.true_and]
      exact ih fun j hj => hl j (by simp [hj])
theorem alloc2 (w : World) (A B : Obj) : ((w.alloc A).alloc B).heap[w.heap.size]? = some A ∧ ((w.alloc A).alloc B).heap[w.heap.size + 1]? = some B :=
  ⟨(Below.heap_alloc _ B _ (by simp)).trans (heap_new w A), by have := heap_new (w.alloc A) B; simpa using this⟩
theorem alloc3 (w : World) (A B C : Obj) : (((w.alloc A).alloc B).alloc C).heap[w.heap.size]? = some A ∧ (((w.alloc A).alloc B).alloc C).heap[w.heap.size + 1]? = some B ∧
    (((w.alloc A).alloc B).alloc C).heap[w.heap.size + 2]? = some C := by
  obtain ⟨h1, h2⟩ := alloc2 w A B
  exact ⟨(Below.heap_alloc _ C _ (by simp; omega)).trans h1, (Below.heap_alloc _ C _ (by simp)).trans h2, by have := heap_new ((w.alloc A).alloc B) C; simpa using this⟩
theorem alloc4 (w : World) (A B C D : Obj) : ((((w.alloc A).alloc B).alloc C).alloc D).heap[w.heap.size]? = some A ∧ ((((w.alloc A).alloc B).alloc C).alloc D).heap[w.heap.size + 1]? = some B ∧
    ((((w.alloc A).alloc B).alloc C).alloc D).heap[w.heap.size + 2]? = some C ∧ ((((w.alloc A).alloc B).alloc C).alloc D).heap[w.heap.size + 3]? = some D := by
  obtain ⟨h1, h2, h3⟩ := alloc3 w A B C
  exact ⟨(Below.heap_alloc _ D _ (by simp; omega)).trans h1, (Below.heap_alloc _ D _ (by simp)).trans h2, (Below.heap_alloc _ D _ (by simp)).trans h3,
    by have := heap_new (((w.alloc A).alloc B).alloc C) D; simpa using this⟩
theorem keep_alloc {w : World} {b : Nat} {x : Obj} (o : Obj) (h : w.heap[b]? = some x) : (w.alloc o).heap[b]? = some x := (Below.heap_alloc w o b (block_lt h)).trans h
theorem keep_set {w : World} {b : Nat} {x : Obj} {a : Addr} (v : Value) (hne : b ≠ a.block) (h : w.heap[b]? = some x) : (w.setCell a v).heap[b]? = some x := (Below.heap_setCell w a v b hne).trans h
theorem below_alloc {w W : World} (h : Below w.heap.size w W) (o : Obj) : Below w.heap.size w (W.alloc o) := h.alloc h.size o
theorem below_next {w W W1 : World} (h : Below w.heap.size w W) (hb : Below W.heap.size W W1) : Below w.heap.size w W1 := h.trans (hb.mono h.size)
/-- byte i of a number -/
def lb (n i : Nat) : Int := ((n / 2 ^ (8 * i) % 256 : Nat) : Int)
theorem lb_0 (n i : Nat) : 0 ≤ lb n i := by unfold lb; omega
theorem lb_m (n i : Nat) : lb n i < 256 := by unfold lb; omega
/-- the cells of an ID -/
def ids (n : Nat) : List Value := ((List.range 32).map (lb n)).map (Value.int .u8)
abbrev iv (n : Nat) : Value := .agg (ids n).toArray
def iblk (n : Nat) : Obj := .cells (ids n).toArray 25 (0, 0)
theorem ids_len (n : Nat) : (ids n).length = 32 := by simp [ids]
theorem ids_get (n k : Nat) (hk : k < 32) : (ids n)[k]? = some (.int .u8 (lb n k)) := by simp [ids, hk]
theorem ids_size (n : Nat) : (ids n).toArray.size = 32 := by simp [ids]
theorem ids_aget (n k : Nat) (hk : k < 32) : (ids n).toArray[k]? = some (.int .u8 (lb n k)) := by simp [ids, hk]
theorem low_step (a k : Nat) : a % 2 ^ (8 * (k + 1)) = a % 2 ^ (8 * k) + 2 ^ (8 * k) * (a / 2 ^ (8 * k) % 256) := by
  rw [show 8 * (k + 1) = 8 * k + 8 by omega, Nat.pow_add, Nat.mod_mul]
theorem lb_inj_low (a b : Nat) : ∀ m, (∀ i, i < m → lb a i = lb b i) → a % 2 ^ (8 * m) = b % 2 ^ (8 * m)
  | 0, _ => by simp [Nat.mod_one]
  | m + 1, h => by
    have ih := lb_inj_low a b m fun i hi => h i (by omega)
    have e := h m (by omega)
    unfold lb at e
    rw [low_step, low_step, ih, show a / 2 ^ (8 * m) % 256 = b / 2 ^ (8 * m) % 256 by omega]
theorem lb_inj {a b : Nat} (ha : a < 2 ^ 256) (hb : b < 2 ^ 256) (h : ∀ i, i < 32 → lb a i = lb b i) : a = b := by
  have := lb_inj_low a b 32 h
  rwa [Nat.mod_eq_of_lt ha, Nat.mod_eq_of_lt hb] at this
/-- every row of bytes is the row of a number -/
theorem bytes_num : ∀ (l : List Int), (∀ x ∈ l, 0 ≤ x ∧ x < 256) → ∃ n, n < 2 ^ (8 * l.length) ∧ l = (List.range l.length).map (lb n)
  | [], _ => ⟨0, by simp, rfl⟩
  | x :: l, h => by
    obtain ⟨n, hn, e⟩ := bytes_num l fun y hy => h y (by simp [hy])
    have hx := h x (by simp)
    refine ⟨x.toNat + 256 * n, ?_, ?_⟩
    · rw [List.length_cons, show 8 * (l.length + 1) = 8 * l.length + 8 by omega, Nat.pow_add]; omega
    · rw [List.length_cons, List.range_succ_eq_map, List.map_cons, List.map_map]
      congr 1
      · unfold lb; simp; omega
      · conv => lhs; rw [e]
        apply List.map_congr_left
        intro i _
        simp only [Function.comp_def, lb]
        rw [show 8 * (i + 1) = 8 + 8 * i by omega, Nat.pow_add, ← Nat.div_div_eq_div_mul, show (x.toNat + 256 * n) / 2 ^ 8 = n by omega]
theorem eq_id (a b : Nat) (ha : a < 2 ^ 256) (hb : b < 2 ^ 256) (w : World) : (Op.equalIn 10000 25 (iv a) (iv b)).run Try.prog w = .ok (decide (a = b)) w := by
  have h := run_equalIn_ints (P := Try.prog) w 9998 25 5 32 .u8 (by kernel_rfl) (by kernel_rfl) (fun _ => by kernel_rfl) ((List.range 32).map (lb a)) ((List.range 32).map (lb b)) (by simp) (by simp)
  have e : ((List.range 32).map (lb a) == (List.range 32).map (lb b)) = decide (a = b) := by
    rw [Bool.eq_iff_iff, beq_iff_eq, decide_eq_true_iff]
    constructor
    · intro h
      refine lb_inj ha hb fun i hi => ?_
      have := congrArg (fun l => l[i]?) h
      simpa [hi] using this
    · rintro rfl; rfl
  rw [e] at h
  exact h
theorem iblk_zero : iblk 0 = .cells (Array.replicate 32 (.int .u8 0)) 25 (0, 0) := by kernel_rfl
theorem iblk_lit : Obj.cells #[.int .u8 0, .int .u8 0, .int .u8 0, .int .u8 0, .int .u8 0, .int .u8 0, .int .u8 0, .int .u8 0, .int .u8 0, .int .u8 0, .int .u8 0, .int .u8 0, .int .u8 0, .int .u8 0, .int .u8 0, .int .u8 0, .int .u8 0, .int .u8 0, .int .u8 0, .int .u8 0, .int .u8 0, .int .u8 0, .int .u8 0, .int .u8 0, .int .u8 0, .int .u8 0, .int .u8 0, .int .u8 0, .int .u8 0, .int .u8 0, .int .u8 0, .int .u8 0] 25 (0, 0) = iblk 0 := by kernel_rfl
theorem iv_lit : Value.agg #[.int .u8 0, .int .u8 0, .int .u8 0, .int .u8 0, .int .u8 0, .int .u8 0, .int .u8 0, .int .u8 0, .int .u8 0, .int .u8 0, .int .u8 0, .int .u8 0, .int .u8 0, .int .u8 0, .int .u8 0, .int .u8 0, .int .u8 0, .int .u8 0, .int .u8 0, .int .u8 0, .int .u8 0, .int .u8 0, .int .u8 0, .int .u8 0, .int .u8 0, .int .u8 0, .int .u8 0, .int .u8 0, .int .u8 0, .int .u8 0, .int .u8 0, .int .u8 0] = iv 0 := by kernel_rfl
theorem id_range {w : World} {g n : Nat} (h : w.heap[g]? = some (iblk n)) : w.rangeAt g 0 (ids n) := fun j v hv => by
  rw [Nat.zero_add, cell_of_row w g j _ _ _ h]; simpa using hv
theorem id_there {w : World} {g n : Nat} (h : w.heap[g]? = some (iblk n)) : w.there g 0 32 := fun j hj => by
  refine ⟨?_, frozen_of_row _ _ _ _ _ h⟩
  rw [Nat.zero_add, cell_of_row w g j _ _ _ h, ids_aget n j hj]; rfl
theorem id_cell {w : World} {g n : Nat} (h : w.heap[g]? = some (iblk n)) (k : Nat) (hk : k < 32) : w.cell? ⟨g, k, none⟩ = some (.int .u8 (lb n k)) := by
  rw [cell_of_row w g k _ _ _ h, ids_aget n k hk]
/-- an ID is loaded -/
theorem id_load {w : World} {g n : Nat} (h : w.heap[g]? = some (iblk n)) : (Instr.loadAt 25 (.pointer (some ⟨g, 0, none⟩))).run Try.prog w = .ok (iv n) w :=
  run_loadAt_mid w g 0 25 (ids n) (.array 32 5) (id_range h) (by kernel_rfl) rfl (by rw [ids_len]; kernel_rfl)
theorem run_index_id (n k : Nat) (hk : k < 32) (w : World) : (Instr.index 25 (.agg (ids n).toArray) (.int .i64 (k : Int))).run Try.prog w = .ok (.int .u8 (lb n k)) w := by
  have hu : Try.prog.underlying 25 = some (.array 32 5) := by kernel_rfl
  have he : Try.prog.underlying 5 = some (.int .u8) := by kernel_rfl
  have hs : (sizeOf 5).run Try.prog w = .ok 1 w := by kernel_rfl
  have hg := ids_aget n k hk
  have hc : (0 : Int) ≤ (k : Int) ∧ (k : Int) < ((32 : Nat) : Int) := by omega
  simp only [Instr.index, asIntOf, Sem.run_bind, Sem.run_pure, Result.andThen_ok, run_underlying hu, hc, and_self, if_true, hs, Int.toNat_natCast, Nat.mul_one]
  simp [part, isAgg, run_underlying he, ids, hk]
/-- an ID is loaded, at the list of a plain region's operations -/
theorem wpList_load_id {ops : Array Oper} {rest : List Oper} {op : Oper} {a : Act} {w : World} {Q : Exit → Act → World → Prop} (hgd : op.guard = none) (x : Operand) (ho : op.op = .load 25 x)
    (g n : Nat) (hx : a.eval x = .pointer (some ⟨g, 0, none⟩)) (hb : w.heap[g]? = some (iblk n)) (h : wpList Try.prog ops Q rest (a.put op.dst (iv n)) w) : wpList Try.prog ops Q (op :: rest) a w :=
  wpList_load_mid hgd 25 x ho g 0 hx (ids n) (.array 32 5) (id_range hb) (by kernel_rfl) rfl (by rw [ids_len]; kernel_rfl) h
theorem heap_setCells_row (g : Nat) (t : TypeId) : ∀ (vs old pre : List Value) (w : World), old.length = vs.length → w.heap[g]? = some (.cells (pre ++ old).toArray t (0, 0)) →
    (w.setCells g pre.length vs).heap[g]? = some (.cells (pre ++ vs).toArray t (0, 0))
  | [], old, pre, w, hl, h => by
    obtain rfl : old = [] := by simpa using hl
    simpa [World.setCells] using h
  | v :: vs, o :: old, pre, w, hl, h => by
    have h1 := heap_setCell_same w g pre.length _ t v h
    have e : (pre ++ o :: old).toArray.setIfInBounds pre.length v = ((pre ++ [v]) ++ old).toArray := by simp
    rw [e] at h1
    have ih := heap_setCells_row g t vs old (pre ++ [v]) _ (by simpa using hl) h1
    simpa [World.setCells] using ih
theorem heap_setCells_far (g : Nat) : ∀ (vs : List Value) (o : Nat) (w : World) (b : Nat), b ≠ g → (w.setCells g o vs).heap[b]? = w.heap[b]?
  | [], _, _, _, _ => rfl
  | _ :: vs, o, _, b, h => (heap_setCells_far g vs (o + 1) _ b h).trans (heap_setCell_other _ _ _ _ h)
theorem size_setCells_id (g : Nat) : ∀ (vs : List Value) (o : Nat) (w : World), (w.setCells g o vs).heap.size = w.heap.size
  | [], _, _ => rfl
  | _ :: vs, o, _ => (size_setCells_id g vs (o + 1) _).trans (by simp [World.setCell])
theorem below_setCells_id {B : Nat} {u : World} (g : Nat) (hg : B ≤ g) : ∀ (vs : List Value) (o : Nat) (w : World), Below B u w → Below B u (w.setCells g o vs)
  | [], _, _, h => h
  | v :: vs, o, _, h => below_setCells_id g hg vs (o + 1) _ (Below.setCell h hg v)
/-- an ID is stored, at the list of a plain region's operations -/
theorem wpList_store_id {ops : Array Oper} {rest : List Oper} {op : Oper} {a : Act} {w : World} {Q : Exit → Act → World → Prop} (hgd : op.guard = none) (x y : Operand) (ho : op.op = .store 25 x y)
    (g m n : Nat) (hx : a.eval x = .pointer (some ⟨g, 0, none⟩)) (hy : a.eval y = iv n) (hb : w.heap[g]? = some (iblk m))
    (h : ∀ w', w'.heap[g]? = some (iblk n) → (∀ b, b ≠ g → w'.heap[b]? = w.heap[b]?) → w'.heap.size = w.heap.size → (∀ B u, B ≤ g → Below B u w → Below B u w') → wpList Try.prog ops Q rest (a.put op.dst undef) w') :
    wpList Try.prog ops Q (op :: rest) a w := by
  refine wpList_store_mid hgd 25 x y ho g 0 (ids n).toArray hx hy ?_ (by rw [ids_size]; kernel_rfl) ?_ (h _ ?_ (fun b hne => heap_setCells_far g _ _ _ b hne) (size_setCells_id g _ _ _) fun B u hB hu => below_setCells_id g hB _ _ _ hu)
  · rw [ids_size]; exact id_there hb
  · exact all_oneCell_toArray fun v hv => by
      simp only [ids, List.mem_map] at hv
      obtain ⟨i, _, rfl⟩ := hv
      rfl
  · exact heap_setCells_row g 25 (ids n) (ids m) [] w (by rw [ids_len, ids_len]) hb
theorem loadVar_id {w : World} {g n : Nat} (h : w.heap[g]? = some (iblk n)) : (loadVar 25 ⟨g, 0, none⟩).run Try.prog w = .ok (iv n) w :=
  run_loadVar_mid w g 0 25 (ids n) (.array 32 5) (id_range h) (by kernel_rfl) rfl (by rw [ids_len]; kernel_rfl)
theorem lb_low (n m i : Nat) (h : 8 * (i + 1) ≤ m) : lb (n % 2 ^ m) i = lb n i := by
  unfold lb
  congr 1
  obtain ⟨d, rfl⟩ := Nat.exists_eq_add_of_le (show 8 * i ≤ m by omega)
  have e : (256 : Nat) = 2 ^ 8 := rfl
  rw [Nat.pow_add, Nat.mod_mul_right_div_self, e, Nat.mod_mod_of_dvd _ (Nat.pow_dvd_pow 2 (by omega))]
theorem lb_high (n m i : Nat) (h : m ≤ 8 * i) : lb (n % 2 ^ m) i = 0 := by
  unfold lb
  have h1 : n % 2 ^ m < 2 ^ (8 * i) := Nat.lt_of_lt_of_le (Nat.mod_lt _ (Nat.two_pow_pos m)) (Nat.pow_le_pow_right (by omega) h)
  rw [Nat.div_eq_of_lt h1]; rfl
/-- one byte more -/
theorem id_step (n k : Nat) {w : World} {g : Nat} (h : w.heap[g]? = some (iblk (n % 2 ^ (8 * k)))) :
    (w.setCell ⟨g, k, none⟩ (.int .u8 (lb n k))).heap[g]? = some (iblk (n % 2 ^ (8 * (k + 1)))) := by
  rw [heap_setCell_same w g k _ _ _ h]
  congr 2
  apply Array.ext_getElem?
  intro i
  by_cases hi : i < 32
  · rw [ids_aget _ _ hi, Array.getElem?_setIfInBounds, ids_size]
    by_cases hik : k = i
    · subst hik
      rw [if_pos rfl, if_pos hi, lb_low _ _ _ (by omega)]
    · rw [if_neg hik, ids_aget _ _ hi]
      by_cases hl : i < k
      · rw [lb_low _ _ _ (by omega), lb_low _ _ _ (by omega)]
      · rw [lb_high _ _ _ (by omega), lb_high _ _ _ (by omega)]
  · rw [Array.getElem?_eq_none (by rw [Array.size_setIfInBounds, ids_size]; omega), Array.getElem?_eq_none (by rw [ids_size]; omega)]
theorem cell_new (w : World) (v : Value) (t : TypeId) : (w.alloc (.cells #[v] t (0, 0))).cell? ⟨w.heap.size, 0, none⟩ = some v := by rw [World.cell?_alloc_at _ _ _ _ rfl]; rfl
end Go.Proofs.Ytfopockjakeplaa
