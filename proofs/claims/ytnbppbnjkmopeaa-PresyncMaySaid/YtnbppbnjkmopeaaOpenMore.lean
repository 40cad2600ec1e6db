/- How arguments read that are an ID or a row of numbers. No condition. -/
import Derived.Test.YtnbppbnjkmopeaaNumOpen
import Derived.Test.YtnbppbnjkmopeaaOpenIds
import Derived.Deep.Slices
import Derived.WalkKit
namespace Go.Proofs.Ytnbppbnjkmopeaa
open Go.ChangeShapes Go.WideShapes Go.ChangeAt Go.RowKit

set_option maxRecDepth 100000 in
theorem open_cells {H : Type} {enc : TypeId × Value → H} {w : World} {base : Nat} {sp : Nat → Bool} {hd : Bool} {cs : List Value} {fuel : Nat} {x : DataW H × List MemPlace} (hl4 : cs.length = 4)
    (hf : DataW.trod enc Try.prog w base sp hd fuel 47 cs = some x) : ∃ a, a < 2 ^ 256 ∧ ∀ j, j < 4 → cs[j]? = some (.int .u64 (lw a j)) := by
  have hu : Try.prog.underlying 47 = some (.array 4 45) := by kernel_rfl
  have he : Try.prog.underlying 45 = some (.int .u64) := by kernel_rfl
  have hce : Try.prog.cellsOf 45 = 1 := by kernel_rfl
  obtain ⟨xs, m, _, _, _, hl, hx⟩ := DataW.trod_array hu hf
  match cs, hl4 with
  | [c0, c1, c2, c3], _ =>
    match xs, hl with
    | [x0, x1, x2, x3], _ =>
      have h0 := hx 0 (by omega); have h1 := hx 1 (by omega); have h2 := hx 2 (by omega); have h3 := hx 3 (by omega)
      simp [hce] at h0 h1 h2 h3
      obtain ⟨a0, e0, _, w0⟩ := DataW.trod_int he h0
      obtain ⟨a1, e1, _, w1⟩ := DataW.trod_int he h1
      obtain ⟨a2, e2, _, w2⟩ := DataW.trod_int he h2
      obtain ⟨a3, e3, _, w3⟩ := DataW.trod_int he h3
      simp at e0 e1 e2 e3
      subst e0 e1 e2 e3
      simp [Lit.wf, IntKind.min, IntKind.max, IntKind.signed, IntKind.bits] at w0 w1 w2 w3
      have e := nv_mk w0.1 w1.1 w2.1 w3.1 (by omega) (by omega) (by omega) (by omega)
      simp only [nv, Value.agg.injEq] at e
      have e' := fun j : Nat => congrArg (fun z : Array Value => z[j]?) e
      refine ⟨nOf a0 a1 a2 a3, nOf_lt w0.1 w1.1 w2.1 w3.1 (by omega) (by omega) (by omega) (by omega), fun j hj => ?_⟩
      have hj' : j = 0 ∨ j = 1 ∨ j = 2 ∨ j = 3 := by omega
      rcases hj' with rfl | rfl | rfl | rfl
      · exact (e' 0).symm
      · exact (e' 1).symm
      · exact (e' 2).symm
      · exact (e' 3).symm

set_option maxRecDepth 100000 in
theorem open_nums {H : Type} {enc : TypeId × Value → H} {w : World} {base b0 : Nat} {r : Reach} {sp : Nat → Bool} {hd : Bool} {v : Value} {d : DataW H} {p : List MemPlace}
    (hv : Value.okWide Try.prog w r b0 109 v) (h : DataW.Trod enc Try.prog w base sp hd 109 v d p) :
    ∃ (x : Option Addr) (cap : Nat) (l : List Nat), (∀ x ∈ l, x < 2 ^ 256) ∧ v = .slice x l.length cap ∧ (l ≠ [] → ∃ b o, x = some ⟨b, o, none⟩ ∧ b < w.heap.size ∧ NumsAt w b o l) := by
  have hu : Try.prog.underlying 109 = some (.slice 47) := by kernel_rfl
  have hc4 : Try.prog.cellsOf 47 = 4 := by kernel_rfl
  obtain ⟨a1, len, cap, rfl⟩ := okWide_slice hu hv
  obtain ⟨fuel, hf⟩ := h
  rcases Go.Deep.open_slice hu hf with ⟨e, _⟩ | ⟨a, len', cap', m, n, D, Pl, e, hb, hl, hm, hmm, -, hx⟩
  · simp [Value.cells] at e
    obtain ⟨rfl, rfl, rfl⟩ := e
    exact ⟨none, 0, [], by simp, rfl, fun h => absurd rfl h⟩
  · simp [Value.cells] at e
    obtain ⟨rfl, rfl, rfl⟩ := e
    have hlm : len ≤ m := by rw [hmm]; split <;> omega
    have key : ∀ i, i < len → ∃ y : Nat, y < 2 ^ 256 ∧ ∀ j, j < 4 → w.cell? ((a.add (i * 4)).add j) = some (.int .u64 (lw y j)) := by
      intro i hi
      obtain ⟨cs', h1, h2⟩ := hx i (by omega)
      rw [hc4] at h1
      obtain ⟨_, hlen, hcell⟩ := World.cells?_some h1
      obtain ⟨y, hy, hj⟩ := open_cells hlen h2
      exact ⟨y, hy, fun j hj4 => (hcell j hj4).trans (hj j hj4)⟩
    obtain ⟨f, hf'⟩ := Go.Deep.choose_lt key
    refine ⟨some a, cap, (List.range len).map f, ?_, by simp, ?_⟩
    · intro y hy
      obtain ⟨i, hi, rfl⟩ := List.mem_map.1 hy
      exact (hf' i (List.mem_range.1 hi)).1
    · intro hne
      have h0 : 0 < len := by
        rcases Nat.eq_zero_or_pos len with h | h
        · subst h; simp at hne
        · exact h
      obtain ⟨ab, ao, spot⟩ := a
      have c0 := (hf' 0 h0).2 0 (by omega)
      have hspot : spot = none := by simpa [Addr.add] using World.cell?_spot c0
      subst hspot
      refine ⟨ab, ao, rfl, ?_, ?_⟩
      · simp only [Addr.add, Nat.zero_mul, if_true] at c0
        unfold World.cell? at c0
        split at c0
        · rename_i heq; exact block_lt heq
        · simp at c0
      · intro i hi j hj
        rw [List.length_map, List.length_range] at hi
        have := (hf' i hi).2 j hj
        rw [Addr.add_lit, Addr.add_lit] at this
        rw [this]
        simp [List.getD, hi]
set_option maxRecDepth 100000 in
theorem open_pairint {H : Type} {enc : TypeId × Value → H} {w : World} {base : Nat} {r : Reach} {b0 : Nat} {sp : Nat → Bool} {hd : Bool} {v : Value} {d : DataW H} {p : List MemPlace}
    (hv : Value.okWide Try.prog w r b0 52 v) (h : DataW.Trod enc Try.prog w base sp hd 52 v d p) : ∃ x y : Int, (Lit.int .i64 x).wf = true ∧ (Lit.int .i64 y).wf = true ∧ v = .agg #[.int .i64 x, .int .i64 y] := by
  have hu : Try.prog.underlying 52 = some (.array 2 3) := by kernel_rfl
  have he : Try.prog.underlying 3 = some (.int .i64) := by kernel_rfl
  have hce : Try.prog.cellsOf 3 = 1 := by kernel_rfl
  simp only [Value.okWide, hu] at hv
  obtain ⟨cs, rfl, hcs, _⟩ := hv
  have hc4 : cs.size = 2 := hcs.trans (by kernel_rfl)
  obtain ⟨fuel, hf⟩ := h
  obtain ⟨xs, m, _, _, _, hl, hx⟩ := DataW.trod_array hu hf
  obtain ⟨l⟩ := cs
  match l, hc4 with
  | [c0, c1], _ =>
    match xs, hl with
    | [x0, x1], _ =>
      have h0 := hx 0 (by omega); have h1 := hx 1 (by omega)
      simp [hce, Value.cells] at h0 h1
      obtain ⟨a0, e0, _, w0⟩ := DataW.trod_int he h0
      obtain ⟨a1, e1, _, w1⟩ := DataW.trod_int he h1
      simp at e0 e1
      subst e0 e1
      exact ⟨a0, a1, w0, w1, rfl⟩
set_option maxRecDepth 100000 in
theorem open_pair32 {H : Type} {enc : TypeId × Value → H} {w : World} {base : Nat} {r : Reach} {b0 : Nat} {sp : Nat → Bool} {hd : Bool} {v : Value} {d : DataW H} {p : List MemPlace}
    (hv : Value.okWide Try.prog w r b0 44 v) (h : DataW.Trod enc Try.prog w base sp hd 44 v d p) : ∃ x y : Int, (Lit.int .u32 x).wf = true ∧ (Lit.int .u32 y).wf = true ∧ v = .agg #[.int .u32 x, .int .u32 y] := by
  have hu : Try.prog.underlying 44 = some (.array 2 22) := by kernel_rfl
  have he : Try.prog.underlying 22 = some (.int .u32) := by kernel_rfl
  have hce : Try.prog.cellsOf 22 = 1 := by kernel_rfl
  simp only [Value.okWide, hu] at hv
  obtain ⟨cs, rfl, hcs, _⟩ := hv
  have hc4 : cs.size = 2 := hcs.trans (by kernel_rfl)
  obtain ⟨fuel, hf⟩ := h
  obtain ⟨xs, m, _, _, _, hl, hx⟩ := DataW.trod_array hu hf
  obtain ⟨l⟩ := cs
  match l, hc4 with
  | [c0, c1], _ =>
    match xs, hl with
    | [x0, x1], _ =>
      have h0 := hx 0 (by omega); have h1 := hx 1 (by omega)
      simp [hce, Value.cells] at h0 h1
      obtain ⟨a0, e0, _, w0⟩ := DataW.trod_int he h0
      obtain ⟨a1, e1, _, w1⟩ := DataW.trod_int he h1
      simp at e0 e1
      subst e0 e1
      exact ⟨a0, a1, w0, w1, rfl⟩
end Go.Proofs.Ytnbppbnjkmopeaa
