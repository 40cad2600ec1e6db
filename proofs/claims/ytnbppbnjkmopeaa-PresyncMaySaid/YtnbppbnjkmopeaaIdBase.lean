/- An ID (32 bytes) as a natural number below 2^256, its bytes little end first. No condition. -/
import Derived.Test.YtnbppbnjkmopeaaNumPlain
import Derived.Deep.MidRow
namespace Go.Proofs.Ytnbppbnjkmopeaa
open Go.ChangeShapes Go.WideShapes Go.ChangeAt Go.RowKit

/-- byte i of a number -/
def lb (n i : Nat) : Int := ((n / 2 ^ (8 * i) % 256 : Nat) : Int)
theorem lb_0 (n i : Nat) : 0 ≤ lb n i := by unfold lb; omega
theorem lb_m (n i : Nat) : lb n i < 256 := by unfold lb; omega
/-- the cells of an ID -/
def ids (n : Nat) : List Value := ((List.range 32).map (lb n)).map (Value.int .u8)
abbrev iv (n : Nat) : Value := .agg (ids n).toArray
def iblk (n : Nat) : Obj := .cells (ids n).toArray 24 (0, 0)

theorem ids_len (n : Nat) : (ids n).length = 32 := by simp [ids]
theorem ids_get (n k : Nat) (hk : k < 32) : (ids n)[k]? = some (.int .u8 (lb n k)) := by simp [ids, hk]
theorem ids_size (n : Nat) : (ids n).toArray.size = 32 := by simp [ids]
theorem ids_aget (n k : Nat) (hk : k < 32) : (ids n).toArray[k]? = some (.int .u8 (lb n k)) := by simp [ids, hk]

theorem low_step (a k : Nat) : a % 2 ^ (8 * (k + 1)) = a % 2 ^ (8 * k) + 2 ^ (8 * k) * (a / 2 ^ (8 * k) % 256) := by
  rw [show 8 * (k + 1) = 8 * k + 8 by omega, Nat.pow_add, Nat.mod_mul]
theorem lb_inj_low (a b : Nat) : ∀ m, (∀ i, i < m → lb a i = lb b i) → a % 2 ^ (8 * m) = b % 2 ^ (8 * m)
  | 0, _ => by simp [Nat.mod_one]
  | m + 1, h => by
    have ih := lb_inj_low a b m fun i hi => h i (by omega)
    have e := h m (by omega)
    unfold lb at e
    rw [low_step, low_step, ih, show a / 2 ^ (8 * m) % 256 = b / 2 ^ (8 * m) % 256 by omega]
theorem lb_inj {a b : Nat} (ha : a < 2 ^ 256) (hb : b < 2 ^ 256) (h : ∀ i, i < 32 → lb a i = lb b i) : a = b := by
  have := lb_inj_low a b 32 h
  rwa [Nat.mod_eq_of_lt ha, Nat.mod_eq_of_lt hb] at this

/-- every row of bytes is the row of a number -/
theorem bytes_num : ∀ (l : List Int), (∀ x ∈ l, 0 ≤ x ∧ x < 256) → ∃ n, n < 2 ^ (8 * l.length) ∧ l = (List.range l.length).map (lb n)
  | [], _ => ⟨0, by simp, rfl⟩
  | x :: l, h => by
    obtain ⟨n, hn, e⟩ := bytes_num l fun y hy => h y (by simp [hy])
    have hx := h x (by simp)
    refine ⟨x.toNat + 256 * n, ?_, ?_⟩
    · rw [List.length_cons, show 8 * (l.length + 1) = 8 * l.length + 8 by omega, Nat.pow_add]; omega
    · rw [List.length_cons, List.range_succ_eq_map, List.map_cons, List.map_map]
      congr 1
      · unfold lb; simp; omega
      · conv => lhs; rw [e]
        apply List.map_congr_left
        intro i _
        simp only [Function.comp_def, lb]
        rw [show 8 * (i + 1) = 8 + 8 * i by omega, Nat.pow_add, ← Nat.div_div_eq_div_mul, show (x.toNat + 256 * n) / 2 ^ 8 = n by omega]

theorem eq_id (a b : Nat) (ha : a < 2 ^ 256) (hb : b < 2 ^ 256) (w : World) : (Op.equalIn 10000 24 (iv a) (iv b)).run Try.prog w = .ok (decide (a = b)) w := by
  have h := run_equalIn_ints (P := Try.prog) w 9998 24 5 32 .u8 (by kernel_rfl) (by kernel_rfl) (fun _ => by kernel_rfl) ((List.range 32).map (lb a)) ((List.range 32).map (lb b)) (by simp) (by simp)
  have e : ((List.range 32).map (lb a) == (List.range 32).map (lb b)) = decide (a = b) := by
    rw [Bool.eq_iff_iff, beq_iff_eq, decide_eq_true_iff]
    constructor
    · intro h
      refine lb_inj ha hb fun i hi => ?_
      have := congrArg (fun l => l[i]?) h
      simpa [hi] using this
    · rintro rfl; rfl
  rw [e] at h
  exact h

theorem iblk_zero : iblk 0 = .cells (Array.replicate 32 (.int .u8 0)) 24 (0, 0) := by kernel_rfl
theorem iblk_lit : Obj.cells #[.int .u8 0, .int .u8 0, .int .u8 0, .int .u8 0, .int .u8 0, .int .u8 0, .int .u8 0, .int .u8 0, .int .u8 0, .int .u8 0, .int .u8 0, .int .u8 0, .int .u8 0, .int .u8 0, .int .u8 0, .int .u8 0, .int .u8 0, .int .u8 0, .int .u8 0, .int .u8 0, .int .u8 0, .int .u8 0, .int .u8 0, .int .u8 0, .int .u8 0, .int .u8 0, .int .u8 0, .int .u8 0, .int .u8 0, .int .u8 0, .int .u8 0, .int .u8 0] 24 (0, 0) = iblk 0 := by kernel_rfl
theorem iv_lit : Value.agg #[.int .u8 0, .int .u8 0, .int .u8 0, .int .u8 0, .int .u8 0, .int .u8 0, .int .u8 0, .int .u8 0, .int .u8 0, .int .u8 0, .int .u8 0, .int .u8 0, .int .u8 0, .int .u8 0, .int .u8 0, .int .u8 0, .int .u8 0, .int .u8 0, .int .u8 0, .int .u8 0, .int .u8 0, .int .u8 0, .int .u8 0, .int .u8 0, .int .u8 0, .int .u8 0, .int .u8 0, .int .u8 0, .int .u8 0, .int .u8 0, .int .u8 0, .int .u8 0] = iv 0 := by kernel_rfl
theorem id_range {w : World} {g n : Nat} (h : w.heap[g]? = some (iblk n)) : w.rangeAt g 0 (ids n) := fun j v hv => by
  rw [Nat.zero_add, cell_of_row w g j _ _ _ h]; simpa using hv
theorem id_there {w : World} {g n : Nat} (h : w.heap[g]? = some (iblk n)) : w.there g 0 32 := fun j hj => by
  refine ⟨?_, frozen_of_row _ _ _ _ _ h⟩
  rw [Nat.zero_add, cell_of_row w g j _ _ _ h, ids_aget n j hj]; rfl
theorem id_cell {w : World} {g n : Nat} (h : w.heap[g]? = some (iblk n)) (k : Nat) (hk : k < 32) : w.cell? ⟨g, k, none⟩ = some (.int .u8 (lb n k)) := by
  rw [cell_of_row w g k _ _ _ h, ids_aget n k hk]
/-- an ID is loaded -/
theorem id_load {w : World} {g n : Nat} (h : w.heap[g]? = some (iblk n)) : (Instr.loadAt 24 (.pointer (some ⟨g, 0, none⟩))).run Try.prog w = .ok (iv n) w :=
  run_loadAt_mid w g 0 24 (ids n) (.array 32 5) (id_range h) (by kernel_rfl) rfl (by rw [ids_len]; kernel_rfl)
theorem run_index_id (n k : Nat) (hk : k < 32) (w : World) : (Instr.index 24 (.agg (ids n).toArray) (.int .i64 (k : Int))).run Try.prog w = .ok (.int .u8 (lb n k)) w := by
  have hu : Try.prog.underlying 24 = some (.array 32 5) := by kernel_rfl
  have he : Try.prog.underlying 5 = some (.int .u8) := by kernel_rfl
  have hs : (sizeOf 5).run Try.prog w = .ok 1 w := by kernel_rfl
  have hg := ids_aget n k hk
  have hc : (0 : Int) ≤ (k : Int) ∧ (k : Int) < ((32 : Nat) : Int) := by omega
  simp only [Instr.index, asIntOf, Sem.run_bind, Sem.run_pure, Result.andThen_ok, run_underlying hu, hc, and_self, if_true, hs, Int.toNat_natCast, Nat.mul_one]
  simp [part, isAgg, run_underlying he, ids, hk]
/-- an ID is loaded, at the list of a plain region's operations -/
theorem wpList_load_id {ops : Array Oper} {rest : List Oper} {op : Oper} {a : Act} {w : World} {Q : Exit → Act → World → Prop} (hgd : op.guard = none) (x : Operand) (ho : op.op = .load 24 x)
    (g n : Nat) (hx : a.eval x = .pointer (some ⟨g, 0, none⟩)) (hb : w.heap[g]? = some (iblk n)) (h : wpList Try.prog ops Q rest (a.put op.dst (iv n)) w) : wpList Try.prog ops Q (op :: rest) a w :=
  wpList_load_mid hgd 24 x ho g 0 hx (ids n) (.array 32 5) (id_range hb) (by kernel_rfl) rfl (by rw [ids_len]; kernel_rfl) h

theorem heap_setCells_row (g : Nat) (t : TypeId) : ∀ (vs old pre : List Value) (w : World), old.length = vs.length → w.heap[g]? = some (.cells (pre ++ old).toArray t (0, 0)) →
    (w.setCells g pre.length vs).heap[g]? = some (.cells (pre ++ vs).toArray t (0, 0))
  | [], old, pre, w, hl, h => by
    obtain rfl : old = [] := by simpa using hl
    simpa [World.setCells] using h
  | v :: vs, o :: old, pre, w, hl, h => by
    have h1 := heap_setCell_same w g pre.length _ t v h
    have e : (pre ++ o :: old).toArray.setIfInBounds pre.length v = ((pre ++ [v]) ++ old).toArray := by simp
    rw [e] at h1
    have ih := heap_setCells_row g t vs old (pre ++ [v]) _ (by simpa using hl) h1
    simpa [World.setCells] using ih
theorem heap_setCells_far (g : Nat) : ∀ (vs : List Value) (o : Nat) (w : World) (b : Nat), b ≠ g → (w.setCells g o vs).heap[b]? = w.heap[b]?
  | [], _, _, _, _ => rfl
  | _ :: vs, o, _, b, h => (heap_setCells_far g vs (o + 1) _ b h).trans (heap_setCell_other _ _ _ _ h)
theorem size_setCells_id (g : Nat) : ∀ (vs : List Value) (o : Nat) (w : World), (w.setCells g o vs).heap.size = w.heap.size
  | [], _, _ => rfl
  | _ :: vs, o, _ => (size_setCells_id g vs (o + 1) _).trans (by simp [World.setCell])
theorem below_setCells_id {B : Nat} {u : World} (g : Nat) (hg : B ≤ g) : ∀ (vs : List Value) (o : Nat) (w : World), Below B u w → Below B u (w.setCells g o vs)
  | [], _, _, h => h
  | v :: vs, o, _, h => below_setCells_id g hg vs (o + 1) _ (Below.setCell h hg v)
/-- an ID is stored, at the list of a plain region's operations -/
theorem wpList_store_id {ops : Array Oper} {rest : List Oper} {op : Oper} {a : Act} {w : World} {Q : Exit → Act → World → Prop} (hgd : op.guard = none) (x y : Operand) (ho : op.op = .store 24 x y)
    (g m n : Nat) (hx : a.eval x = .pointer (some ⟨g, 0, none⟩)) (hy : a.eval y = iv n) (hb : w.heap[g]? = some (iblk m))
    (h : ∀ w', w'.heap[g]? = some (iblk n) → (∀ b, b ≠ g → w'.heap[b]? = w.heap[b]?) → w'.heap.size = w.heap.size → (∀ B u, B ≤ g → Below B u w → Below B u w') → wpList Try.prog ops Q rest (a.put op.dst undef) w') :
    wpList Try.prog ops Q (op :: rest) a w := by
  refine wpList_store_mid hgd 24 x y ho g 0 (ids n).toArray hx hy ?_ (by rw [ids_size]; kernel_rfl) ?_ (h _ ?_ (fun b hne => heap_setCells_far g _ _ _ b hne) (size_setCells_id g _ _ _) fun B u hB hu => below_setCells_id g hB _ _ _ hu)
  · rw [ids_size]; exact id_there hb
  · exact all_oneCell_toArray fun v hv => by
      simp only [ids, List.mem_map] at hv
      obtain ⟨i, _, rfl⟩ := hv
      rfl
  · exact heap_setCells_row g 24 (ids n) (ids m) [] w (by rw [ids_len, ids_len]) hb
theorem loadVar_id {w : World} {g n : Nat} (h : w.heap[g]? = some (iblk n)) : (loadVar 24 ⟨g, 0, none⟩).run Try.prog w = .ok (iv n) w :=
  run_loadVar_mid w g 0 24 (ids n) (.array 32 5) (id_range h) (by kernel_rfl) rfl (by rw [ids_len]; kernel_rfl)
end Go.Proofs.Ytnbppbnjkmopeaa
