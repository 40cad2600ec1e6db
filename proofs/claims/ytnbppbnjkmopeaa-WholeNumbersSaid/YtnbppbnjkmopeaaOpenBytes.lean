/- How arguments read that are bytes, or parts of bytes. No condition. -/
import Derived.Test.YtnbppbnjkmopeaaHash2
import Derived.Test.YtnbppbnjkmopeaaOpenBase
import Derived.Deep.Slices
namespace Go.Proofs.Ytnbppbnjkmopeaa
open Go.ChangeShapes Go.WideShapes Go.ChangeAt Go.RowKit

/-- bytes of an argument: with their capacity -/
def BytesIn (w : World) (v : Value) (l : List Nat) : Prop := (v = .slice none 0 0 ∧ l = []) ∨ ∃ (a : Addr) (c : Nat), v = .slice (some a) l.length c ∧ l.length ≤ c ∧ c ≤ maxLen ∧ ∀ j, j < l.length → w.cell? (a.add j) = some (.int .u8 (l.getD j 0 : Nat))
theorem BytesIn.at {w : World} {v : Value} {l : List Nat} (h : BytesIn w v l) : BytesAt w v l := by
  rcases h with h | ⟨a, c, rfl, _, _, h⟩
  · exact .inl h
  · exact .inr ⟨a, c, rfl, h⟩
theorem BytesIn.keep {w w' : World} {v : Value} {l : List Nat} (h : BytesIn w v l) (hb : Below w.heap.size w w') : BytesIn w' v l := by
  rcases h with h | ⟨a, c, rfl, h1, h2, h⟩
  · exact .inl h
  · exact .inr ⟨a, c, rfl, h1, h2, fun j hj => (hb.cell (block_lt_of_cell (h j hj))).trans (h j hj)⟩
theorem BytesIn.shape {w : World} {v : Value} {l : List Nat} (h : BytesIn w v l) : ∃ x c, v = .slice x l.length c := by
  rcases h with ⟨rfl, rfl⟩ | ⟨a, c, rfl, _⟩
  · exact ⟨_, _, rfl⟩
  · exact ⟨_, _, rfl⟩

set_option maxRecDepth 100000 in
theorem open_bytes_cells {H : Type} {enc : TypeId × Value → H} {w : World} {base : Nat} {sp : Nat → Bool} {hd : Bool} {v : Value} {fuel : Nat} {x : DataW H × List MemPlace}
    (hf : DataW.trod enc Try.prog w base sp hd fuel 27 [v] = some x) : ∃ l : List Nat, (∀ y ∈ l, y < 256) ∧ BytesIn w v l := by
  have hu : Try.prog.underlying 27 = some (.slice 5) := by kernel_rfl
  have he : Try.prog.underlying 5 = some (.int .u8) := by kernel_rfl
  have hce : Try.prog.cellsOf 5 = 1 := by kernel_rfl
  rcases open_ints hu he hce hf with ⟨e, _⟩ | ⟨a, len, cap, zs, e, _, hl, hm, hz, -, hc, hw⟩
  · obtain rfl := List.singleton_inj.1 e
    exact ⟨[], by simp, .inl ⟨rfl, rfl⟩⟩
  · obtain rfl := List.singleton_inj.1 e
    have hlz : len ≤ zs.length := by rw [hz]; split <;> omega
    have hb : ∀ n ∈ zs, 0 ≤ n ∧ n < 256 := fun n hn => by
      have := hw n hn
      simp [Lit.wf, IntKind.min, IntKind.max, IntKind.signed, IntKind.bits] at this
      omega
    refine ⟨(zs.take len).map Int.toNat, ?_, .inr ⟨a, cap, ?_, ?_, hm, ?_⟩⟩
    · intro y hy
      obtain ⟨n, hn, rfl⟩ := List.mem_map.1 hy
      have := hb n (List.mem_of_mem_take hn)
      omega
    · congr 1; simp; omega
    · simp; omega
    · intro j hj
      simp at hj
      rw [hc j (by omega)]
      have hj' : j < zs.length := by omega
      have := hb zs[j] (List.getElem_mem hj')
      simp [List.getD, List.getElem?_map, List.getElem?_take_of_lt (show j < len by omega), List.getElem?_eq_getElem hj']
      omega
set_option maxRecDepth 100000 in
theorem open_bytes {H : Type} {enc : TypeId × Value → H} {w : World} {base b0 : Nat} {r : Reach} {sp : Nat → Bool} {hd : Bool} {v : Value} {d : DataW H} {p : List MemPlace}
    (hv : Value.okWide Try.prog w r b0 27 v) (h : DataW.Trod enc Try.prog w base sp hd 27 v d p) : ∃ l : List Nat, (∀ y ∈ l, y < 256) ∧ BytesIn w v l := by
  have hu : Try.prog.underlying 27 = some (.slice 5) := by kernel_rfl
  obtain ⟨a1, len, cap, rfl⟩ := okWide_slice hu hv
  obtain ⟨fuel, hf⟩ := h
  exact open_bytes_cells hf
set_option maxRecDepth 100000 in
theorem open_parts {H : Type} {enc : TypeId × Value → H} {w : World} {base b0 : Nat} {r : Reach} {sp : Nat → Bool} {hd : Bool} {v : Value} {d : DataW H} {p : List MemPlace}
    (hv : Value.okWide Try.prog w r b0 104 v) (h : DataW.Trod enc Try.prog w base sp hd 104 v d p) :
    ∃ (x : Option Addr) (cap : Nat) (ls : List (List Nat)), (∀ l ∈ ls, ∀ y ∈ l, y < 256) ∧ v = .slice x ls.length cap ∧ PartsAt w x ls := by
  have hu : Try.prog.underlying 104 = some (.slice 27) := by kernel_rfl
  have hc1 : Try.prog.cellsOf 27 = 1 := by kernel_rfl
  obtain ⟨a1, len, cap, rfl⟩ := okWide_slice hu hv
  obtain ⟨fuel, hf⟩ := h
  rcases Go.Deep.open_slice1 hu hc1 hf with ⟨e, _⟩ | ⟨a, len', cap', m, n, V, D, Pl, e, hb, hl, hm, hmm, -, hx⟩
  · simp [Value.cells] at e
    obtain ⟨rfl, rfl, rfl⟩ := e
    exact ⟨none, 0, [], by simp, rfl, fun h => absurd rfl h⟩
  · simp [Value.cells] at e
    obtain ⟨rfl, rfl, rfl⟩ := e
    have hlm : len ≤ m := by rw [hmm]; split <;> omega
    have key : ∀ i, i < len → ∃ l : List Nat, w.cell? (a.add i) = some (V i) ∧ (∀ y ∈ l, y < 256) ∧ BytesAt w (V i) l := by
      intro i hi
      obtain ⟨h1, h2⟩ := hx i (by omega)
      obtain ⟨l, hl, hB⟩ := open_bytes_cells h2
      exact ⟨l, h1, hl, hB.at⟩
    obtain ⟨f, hf'⟩ := Go.Deep.choose_lt key
    refine ⟨some a, cap, (List.range len).map f, ?_, by simp, ?_⟩
    · intro l hl
      obtain ⟨i, hi, rfl⟩ := List.mem_map.1 hl
      exact (hf' i (List.mem_range.1 hi)).2.1
    · intro hne
      have h0 : 0 < len := by
        rcases Nat.eq_zero_or_pos len with h | h
        · subst h; simp at hne
        · exact h
      obtain ⟨ab, ao, spot⟩ := a
      have c0 := (hf' 0 h0).1
      have hspot : spot = none := by simpa [Addr.add] using World.cell?_spot c0
      subst hspot
      refine ⟨ab, ao, rfl, fun j hj => ?_⟩
      rw [List.length_map, List.length_range] at hj
      obtain ⟨h1, h2, h3⟩ := hf' j hj
      rw [Addr.add_lit] at h1
      refine ⟨V j, h1, ?_⟩
      simpa [List.getD, hj] using h3
end Go.Proofs.Ytnbppbnjkmopeaa
