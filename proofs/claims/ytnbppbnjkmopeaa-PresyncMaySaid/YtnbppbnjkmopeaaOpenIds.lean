/- How arguments read that are an ID or a row of IDs. No condition. -/
import Derived.Test.YtnbppbnjkmopeaaHashBase
import Derived.Test.YtnbppbnjkmopeaaOpenBase
import Derived.Deep.Slices
import Derived.WalkKit
namespace Go.Proofs.Ytnbppbnjkmopeaa
open Go.ChangeShapes Go.WideShapes Go.ChangeAt Go.RowKit

set_option maxRecDepth 100000 in
theorem open_id {H : Type} {enc : TypeId × Value → H} {w : World} {base : Nat} {r : Reach} {b0 : Nat} {sp : Nat → Bool} {hd : Bool} {v : Value} {d : DataW H} {p : List MemPlace}
    (hv : Value.okWide Try.prog w r b0 24 v) (h : DataW.Trod enc Try.prog w base sp hd 24 v d p) : ∃ a, a < 2 ^ 256 ∧ v = iv a := by
  have hu : Try.prog.underlying 24 = some (.array 32 5) := by kernel_rfl
  have he : Try.prog.underlying 5 = some (.int .u8) := by kernel_rfl
  have hce : Try.prog.cellsOf 5 = 1 := by kernel_rfl
  simp only [Value.okWide, hu] at hv
  obtain ⟨cs, rfl, hcs, _⟩ := hv
  have hc4 : cs.size = 32 := hcs.trans (by kernel_rfl)
  obtain ⟨fuel, hf⟩ := h
  obtain ⟨xs, m, _, _, _, hl, hx⟩ := DataW.trod_array hu hf
  obtain ⟨l⟩ := cs
  have hll : l.length = 32 := by simpa using hc4
  have key : ∀ i, i < 32 → ∃ a : Int, l[i]? = some (.int .u8 a) ∧ 0 ≤ a ∧ a < 256 := by
    intro i hi
    have h0 := hx i hi
    rw [hce, Nat.mul_one, List.getElem?_eq_getElem (by omega)] at h0
    have hd : ((Value.cells (.agg ⟨l⟩)).toList.drop i).take 1 = [l[i]] := by
      show (l.drop i).take 1 = _
      rw [List.drop_eq_getElem_cons (by omega)]
      rfl
    rw [hd] at h0
    obtain ⟨a0, e0, _, w0⟩ := DataW.trod_int he h0
    simp at e0
    simp [Lit.wf, IntKind.min, IntKind.max, IntKind.signed, IntKind.bits] at w0
    exact ⟨a0, by rw [List.getElem?_eq_getElem (by omega), e0], w0.1, by omega⟩
  obtain ⟨f, hf'⟩ := Go.Deep.choose_lt key
  obtain ⟨n, hn, e⟩ := bytes_num ((List.range 32).map f) (fun x hx => by
    obtain ⟨i, hi, rfl⟩ := List.mem_map.1 hx
    exact (hf' i (List.mem_range.1 hi)).2)
  rw [List.length_map, List.length_range] at hn e
  refine ⟨n, hn, ?_⟩
  unfold iv ids
  rw [← e]
  congr 2
  apply List.ext_getElem?
  intro i
  by_cases hi : i < 32
  · rw [(hf' i hi).1]; simp [hi]
  · rw [List.getElem?_eq_none (by omega), List.getElem?_eq_none (by simp; omega)]

/-- a row of IDs in memory -/
def IdsAt (w : World) (b o : Nat) (l : List Nat) : Prop := ∀ i, i < l.length → ∀ j, j < 32 → w.cell? ⟨b, o + i * 32 + j, none⟩ = some (.int .u8 (lb (l.getD i 0) j))

set_option maxRecDepth 100000 in
theorem open_id_cells {H : Type} {enc : TypeId × Value → H} {w : World} {base : Nat} {sp : Nat → Bool} {hd : Bool} {cs : List Value} {fuel : Nat} {x : DataW H × List MemPlace} (hl : cs.length = 32)
    (hf : DataW.trod enc Try.prog w base sp hd fuel 24 cs = some x) : ∃ a, a < 2 ^ 256 ∧ ∀ j, j < 32 → cs[j]? = some (.int .u8 (lb a j)) := by
  have hu : Try.prog.underlying 24 = some (.array 32 5) := by kernel_rfl
  have he : Try.prog.underlying 5 = some (.int .u8) := by kernel_rfl
  have hce : Try.prog.cellsOf 5 = 1 := by kernel_rfl
  obtain ⟨xs, m, _, _, _, hl2, hx⟩ := DataW.trod_array hu hf
  have key : ∀ i, i < 32 → ∃ a : Int, cs[i]? = some (.int .u8 a) ∧ 0 ≤ a ∧ a < 256 := by
    intro i hi
    have h0 := hx i hi
    rw [hce, Nat.mul_one, List.getElem?_eq_getElem (by omega)] at h0
    have hd : (cs.drop i).take 1 = [cs[i]] := by
      rw [List.drop_eq_getElem_cons (by omega)]
      rfl
    rw [hd] at h0
    obtain ⟨a0, e0, _, w0⟩ := DataW.trod_int he h0
    simp at e0
    simp [Lit.wf, IntKind.min, IntKind.max, IntKind.signed, IntKind.bits] at w0
    exact ⟨a0, by rw [List.getElem?_eq_getElem (by omega), e0], w0.1, by omega⟩
  obtain ⟨f, hf'⟩ := Go.Deep.choose_lt key
  obtain ⟨n, hn, e⟩ := bytes_num ((List.range 32).map f) (fun x hx => by
    obtain ⟨i, hi, rfl⟩ := List.mem_map.1 hx
    exact (hf' i (List.mem_range.1 hi)).2)
  rw [List.length_map, List.length_range] at hn e
  refine ⟨n, hn, fun j hj => ?_⟩
  rw [(hf' j hj).1]
  have := congrArg (fun l : List Int => l[j]?) e
  simp [hj] at this
  rw [this]

set_option maxRecDepth 100000 in
theorem open_ids {H : Type} {enc : TypeId × Value → H} {w : World} {base b0 : Nat} {r : Reach} {sp : Nat → Bool} {hd : Bool} {v : Value} {d : DataW H} {p : List MemPlace}
    (hv : Value.okWide Try.prog w r b0 116 v) (h : DataW.Trod enc Try.prog w base sp hd 116 v d p) :
    ∃ (x : Option Addr) (cap : Nat) (l : List Nat), (∀ x ∈ l, x < 2 ^ 256) ∧ v = .slice x l.length cap ∧ l.length ≤ cap ∧ cap ≤ maxLen ∧ (x = none → l = [] ∧ cap = 0) ∧ (l ≠ [] → ∃ b o, x = some ⟨b, o, none⟩ ∧ b < w.heap.size ∧ IdsAt w b o l) := by
  have hu : Try.prog.underlying 116 = some (.slice 24) := by kernel_rfl
  have hc4 : Try.prog.cellsOf 24 = 32 := by kernel_rfl
  obtain ⟨a1, len, cap, rfl⟩ := okWide_slice hu hv
  obtain ⟨fuel, hf⟩ := h
  rcases Go.Deep.open_slice hu hf with ⟨e, _⟩ | ⟨a, len', cap', m, n, D, Pl, e, hb, hl, hm, hmm, -, hx⟩
  · simp [Value.cells] at e
    obtain ⟨rfl, rfl, rfl⟩ := e
    exact ⟨none, 0, [], by simp, rfl, Nat.le_refl _, Nat.zero_le _, fun _ => ⟨rfl, rfl⟩, fun h => absurd rfl h⟩
  · simp [Value.cells] at e
    obtain ⟨rfl, rfl, rfl⟩ := e
    have hlm : len ≤ m := by rw [hmm]; split <;> omega
    have key : ∀ i, i < len → ∃ y : Nat, y < 2 ^ 256 ∧ ∀ j, j < 32 → w.cell? ((a.add (i * 32)).add j) = some (.int .u8 (lb y j)) := by
      intro i hi
      obtain ⟨cs', h1, h2⟩ := hx i (by omega)
      rw [hc4] at h1
      obtain ⟨_, hlen, hcell⟩ := World.cells?_some h1
      obtain ⟨y, hy, hj⟩ := open_id_cells hlen h2
      exact ⟨y, hy, fun j hj4 => (hcell j hj4).trans (hj j hj4)⟩
    obtain ⟨f, hf'⟩ := Go.Deep.choose_lt key
    refine ⟨some a, cap, (List.range len).map f, ?_, by simp, by simpa using hl, hm, by simp, ?_⟩
    · intro y hy
      obtain ⟨i, hi, rfl⟩ := List.mem_map.1 hy
      exact (hf' i (List.mem_range.1 hi)).1
    · intro hne
      have h0 : 0 < len := by
        rcases Nat.eq_zero_or_pos len with h | h
        · subst h; simp at hne
        · exact h
      obtain ⟨ab, ao, spot⟩ := a
      have c0 := (hf' 0 h0).2 0 (by omega)
      have hspot : spot = none := by simpa [Addr.add] using World.cell?_spot c0
      subst hspot
      refine ⟨ab, ao, rfl, ?_, ?_⟩
      · simp only [Addr.add, Nat.zero_mul, if_true] at c0
        unfold World.cell? at c0
        split at c0
        · rename_i heq; exact block_lt heq
        · simp at c0
      · intro i hi j hj
        rw [List.length_map, List.length_range] at hi
        have := (hf' i hi).2 j hj
        rw [Addr.add_lit, Addr.add_lit] at this
        rw [this]
        simp [List.getD, hi]
end Go.Proofs.Ytnbppbnjkmopeaa
