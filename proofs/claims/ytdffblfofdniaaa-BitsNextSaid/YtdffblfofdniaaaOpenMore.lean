/- How arguments read that are an ID or a row of numbers. No condition. -/
import Derived.Test.YtdffblfofdniaaaNumOpen
import Derived.Test.YtdffblfofdniaaaIdPlain
import Derived.Deep.Slices
import Derived.WalkKit
namespace Go.Proofs.Ytdffblfofdniaaa
open Go.ChangeShapes Go.WideShapes Go.ChangeAt Go.RowKit

theorem open_id {H : Type} {enc : TypeId × Value → H} {w : World} {base : Nat} {r : Reach} {b0 : Nat} {sp : Nat → Bool} {hd : Bool} {v : Value} {d : DataW H} {p : List MemPlace}
    (hv : Value.okWide Try.prog w r b0 49 v) (h : DataW.Trod enc Try.prog w base sp hd 49 v d p) : ∃ a, a < 2 ^ 256 ∧ v = iv a := by
  have hu : Try.prog.underlying 49 = some (.array 32 5) := by kernel_rfl
  have he : Try.prog.underlying 5 = some (.int .u8) := by kernel_rfl
  have hce : Try.prog.cellsOf 5 = 1 := by kernel_rfl
  simp only [Value.okWide, hu] at hv
  obtain ⟨cs, rfl, hcs, _⟩ := hv
  have hc4 : cs.size = 32 := hcs.trans (by kernel_rfl)
  obtain ⟨fuel, hf⟩ := h
  obtain ⟨xs, m, _, _, _, hl, hx⟩ := DataW.trod_array hu hf
  obtain ⟨l⟩ := cs
  have hll : l.length = 32 := by simpa using hc4
  have key : ∀ i, i < 32 → ∃ a : Int, l[i]? = some (.int .u8 a) ∧ 0 ≤ a ∧ a < 256 := by
    intro i hi
    have h0 := hx i hi
    rw [hce, Nat.mul_one, List.getElem?_eq_getElem (by omega)] at h0
    have hd : ((Value.cells (.agg ⟨l⟩)).toList.drop i).take 1 = [l[i]] := by
      show (l.drop i).take 1 = _
      rw [List.drop_eq_getElem_cons (by omega)]
      rfl
    rw [hd] at h0
    obtain ⟨a0, e0, _, w0⟩ := DataW.trod_int he h0
    simp at e0
    simp [Lit.wf, IntKind.min, IntKind.max, IntKind.signed, IntKind.bits] at w0
    exact ⟨a0, by rw [List.getElem?_eq_getElem (by omega), e0], w0.1, by omega⟩
  obtain ⟨f, hf'⟩ := Go.Deep.choose_lt key
  obtain ⟨n, hn, e⟩ := bytes_num ((List.range 32).map f) (fun x hx => by
    obtain ⟨i, hi, rfl⟩ := List.mem_map.1 hx
    exact (hf' i (List.mem_range.1 hi)).2)
  rw [List.length_map, List.length_range] at hn e
  refine ⟨n, hn, ?_⟩
  unfold iv ids
  rw [← e]
  congr 2
  apply List.ext_getElem?
  intro i
  by_cases hi : i < 32
  · rw [(hf' i hi).1]; simp [hi]
  · rw [List.getElem?_eq_none (by omega), List.getElem?_eq_none (by simp; omega)]

theorem open_cells {H : Type} {enc : TypeId × Value → H} {w : World} {base : Nat} {sp : Nat → Bool} {hd : Bool} {cs : List Value} {fuel : Nat} {x : DataW H × List MemPlace} (hl4 : cs.length = 4)
    (hf : DataW.trod enc Try.prog w base sp hd fuel 24 cs = some x) : ∃ a, a < 2 ^ 256 ∧ ∀ j, j < 4 → cs[j]? = some (.int .u64 (lw a j)) := by
  have hu : Try.prog.underlying 24 = some (.array 4 22) := by kernel_rfl
  have he : Try.prog.underlying 22 = some (.int .u64) := by kernel_rfl
  have hce : Try.prog.cellsOf 22 = 1 := by kernel_rfl
  obtain ⟨xs, m, _, _, _, hl, hx⟩ := DataW.trod_array hu hf
  match cs, hl4 with
  | [c0, c1, c2, c3], _ =>
    match xs, hl with
    | [x0, x1, x2, x3], _ =>
      have h0 := hx 0 (by omega); have h1 := hx 1 (by omega); have h2 := hx 2 (by omega); have h3 := hx 3 (by omega)
      simp [hce] at h0 h1 h2 h3
      obtain ⟨a0, e0, _, w0⟩ := DataW.trod_int he h0
      obtain ⟨a1, e1, _, w1⟩ := DataW.trod_int he h1
      obtain ⟨a2, e2, _, w2⟩ := DataW.trod_int he h2
      obtain ⟨a3, e3, _, w3⟩ := DataW.trod_int he h3
      simp at e0 e1 e2 e3
      subst e0 e1 e2 e3
      simp [Lit.wf, IntKind.min, IntKind.max, IntKind.signed, IntKind.bits] at w0 w1 w2 w3
      have e := nv_mk w0.1 w1.1 w2.1 w3.1 (by omega) (by omega) (by omega) (by omega)
      simp only [nv, Value.agg.injEq] at e
      have e' := fun j : Nat => congrArg (fun z : Array Value => z[j]?) e
      refine ⟨nOf a0 a1 a2 a3, nOf_lt w0.1 w1.1 w2.1 w3.1 (by omega) (by omega) (by omega) (by omega), fun j hj => ?_⟩
      have hj' : j = 0 ∨ j = 1 ∨ j = 2 ∨ j = 3 := by omega
      rcases hj' with rfl | rfl | rfl | rfl
      · exact (e' 0).symm
      · exact (e' 1).symm
      · exact (e' 2).symm
      · exact (e' 3).symm

theorem open_nums {H : Type} {enc : TypeId × Value → H} {w : World} {base b0 : Nat} {r : Reach} {sp : Nat → Bool} {hd : Bool} {v : Value} {d : DataW H} {p : List MemPlace}
    (hv : Value.okWide Try.prog w r b0 41 v) (h : DataW.Trod enc Try.prog w base sp hd 41 v d p) :
    ∃ (x : Option Addr) (cap : Nat) (l : List Nat), (∀ x ∈ l, x < 2 ^ 256) ∧ v = .slice x l.length cap ∧ (l ≠ [] → ∃ b o, x = some ⟨b, o, none⟩ ∧ b < w.heap.size ∧ NumsAt w b o l) := by
  have hu : Try.prog.underlying 41 = some (.slice 24) := by kernel_rfl
  have hc4 : Try.prog.cellsOf 24 = 4 := by kernel_rfl
  obtain ⟨a1, len, cap, rfl⟩ := okWide_slice hu hv
  obtain ⟨fuel, hf⟩ := h
  rcases Go.Deep.open_slice hu hf with ⟨e, _⟩ | ⟨a, len', cap', m, n, D, Pl, e, hb, hl, hm, hmm, -, hx⟩
  · simp [Value.cells] at e
    obtain ⟨rfl, rfl, rfl⟩ := e
    exact ⟨none, 0, [], by simp, rfl, fun h => absurd rfl h⟩
  · simp [Value.cells] at e
    obtain ⟨rfl, rfl, rfl⟩ := e
    have hlm : len ≤ m := by rw [hmm]; split <;> omega
    have key : ∀ i, i < len → ∃ y : Nat, y < 2 ^ 256 ∧ ∀ j, j < 4 → w.cell? ((a.add (i * 4)).add j) = some (.int .u64 (lw y j)) := by
      intro i hi
      obtain ⟨cs', h1, h2⟩ := hx i (by omega)
      rw [hc4] at h1
      obtain ⟨_, hlen, hcell⟩ := World.cells?_some h1
      obtain ⟨y, hy, hj⟩ := open_cells hlen h2
      exact ⟨y, hy, fun j hj4 => (hcell j hj4).trans (hj j hj4)⟩
    obtain ⟨f, hf'⟩ := Go.Deep.choose_lt key
    refine ⟨some a, cap, (List.range len).map f, ?_, by simp, ?_⟩
    · intro y hy
      obtain ⟨i, hi, rfl⟩ := List.mem_map.1 hy
      exact (hf' i (List.mem_range.1 hi)).1
    · intro hne
      have h0 : 0 < len := by
        rcases Nat.eq_zero_or_pos len with h | h
        · subst h; simp at hne
        · exact h
      obtain ⟨ab, ao, spot⟩ := a
      have c0 := (hf' 0 h0).2 0 (by omega)
      have hspot : spot = none := by simpa [Addr.add] using World.cell?_spot c0
      subst hspot
      refine ⟨ab, ao, rfl, ?_, ?_⟩
      · simp only [Addr.add, Nat.zero_mul, if_true] at c0
        unfold World.cell? at c0
        split at c0
        · rename_i heq; exact block_lt heq
        · simp at c0
      · intro i hi j hj
        rw [List.length_map, List.length_range] at hi
        have := (hf' i hi).2 j hj
        rw [Addr.add_lit, Addr.add_lit] at this
        rw [this]
        simp [List.getD, hi]
theorem open_pair64 {H : Type} {enc : TypeId × Value → H} {w : World} {base : Nat} {r : Reach} {b0 : Nat} {sp : Nat → Bool} {hd : Bool} {v : Value} {d : DataW H} {p : List MemPlace}
    (hv : Value.okWide Try.prog w r b0 72 v) (h : DataW.Trod enc Try.prog w base sp hd 72 v d p) : ∃ x y : Int, (Lit.int .i64 x).wf = true ∧ (Lit.int .i64 y).wf = true ∧ v = .agg #[.int .i64 x, .int .i64 y] := by
  have hu : Try.prog.underlying 72 = some (.array 2 2) := by kernel_rfl
  have he : Try.prog.underlying 2 = some (.int .i64) := by kernel_rfl
  have hce : Try.prog.cellsOf 2 = 1 := by kernel_rfl
  simp only [Value.okWide, hu] at hv
  obtain ⟨cs, rfl, hcs, _⟩ := hv
  have hc4 : cs.size = 2 := hcs.trans (by kernel_rfl)
  obtain ⟨fuel, hf⟩ := h
  obtain ⟨xs, m, _, _, _, hl, hx⟩ := DataW.trod_array hu hf
  obtain ⟨l⟩ := cs
  match l, hc4 with
  | [c0, c1], _ =>
    match xs, hl with
    | [x0, x1], _ =>
      have h0 := hx 0 (by omega); have h1 := hx 1 (by omega)
      simp [hce, Value.cells] at h0 h1
      obtain ⟨a0, e0, _, w0⟩ := DataW.trod_int he h0
      obtain ⟨a1, e1, _, w1⟩ := DataW.trod_int he h1
      simp at e0 e1
      subst e0 e1
      exact ⟨a0, a1, w0, w1, rfl⟩
theorem open_pair32 {H : Type} {enc : TypeId × Value → H} {w : World} {base : Nat} {r : Reach} {b0 : Nat} {sp : Nat → Bool} {hd : Bool} {v : Value} {d : DataW H} {p : List MemPlace}
    (hv : Value.okWide Try.prog w r b0 83 v) (h : DataW.Trod enc Try.prog w base sp hd 83 v d p) : ∃ x y : Int, (Lit.int .u32 x).wf = true ∧ (Lit.int .u32 y).wf = true ∧ v = .agg #[.int .u32 x, .int .u32 y] := by
  have hu : Try.prog.underlying 83 = some (.array 2 62) := by kernel_rfl
  have he : Try.prog.underlying 62 = some (.int .u32) := by kernel_rfl
  have hce : Try.prog.cellsOf 62 = 1 := by kernel_rfl
  simp only [Value.okWide, hu] at hv
  obtain ⟨cs, rfl, hcs, _⟩ := hv
  have hc4 : cs.size = 2 := hcs.trans (by kernel_rfl)
  obtain ⟨fuel, hf⟩ := h
  obtain ⟨xs, m, _, _, _, hl, hx⟩ := DataW.trod_array hu hf
  obtain ⟨l⟩ := cs
  match l, hc4 with
  | [c0, c1], _ =>
    match xs, hl with
    | [x0, x1], _ =>
      have h0 := hx 0 (by omega); have h1 := hx 1 (by omega)
      simp [hce, Value.cells] at h0 h1
      obtain ⟨a0, e0, _, w0⟩ := DataW.trod_int he h0
      obtain ⟨a1, e1, _, w1⟩ := DataW.trod_int he h1
      simp at e0 e1
      subst e0 e1
      exact ⟨a0, a1, w0, w1, rfl⟩
end Go.Proofs.Ytdffblfofdniaaa
