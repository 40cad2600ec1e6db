/- How arguments read that are rows of headers, or rows of numbers. No condition. -/
import Derived.Test.YtnbppbnjkmopeaaSyPg
import Derived.Test.YtnbppbnjkmopeaaOpenMore
import Derived.Deep.Slices
namespace Go.Proofs.Ytnbppbnjkmopeaa
open Go.ChangeShapes Go.WideShapes Go.ChangeAt Go.RowKit

instance : Inhabited Hd := ⟨hd0⟩
/-- a row of headers that came in -/
def HdIn (w : World) (v : Value) (l : List Hd) : Prop := ∃ x c, v = .slice x l.length c ∧ l.length ≤ c ∧ c ≤ maxLen ∧ (0 < l.length → ∃ b o, x = some ⟨b, o, none⟩ ∧ b < w.heap.size ∧ HdsAt w b o l)
theorem HdIn.keep {w w' : World} {v : Value} {l : List Hd} (h : HdIn w v l) (hb : Below w.heap.size w w') : HdIn w' v l := by
  obtain ⟨x, c, e, h1, h2, h3⟩ := h
  refine ⟨x, c, e, h1, h2, fun hl => ?_⟩
  obtain ⟨b, o, e1, e2, e3⟩ := h3 hl
  exact ⟨b, o, e1, by have := hb.size; omega, e3.keep hb⟩
theorem HdIn.gr {D : Nat → Prop} {w w' : World} {v : Value} {l : List Hd} (h : HdIn w v l) (hg : Gr D w w') (hD : ∀ i, i < w.heap.size → ¬ D i) : HdIn w' v l := by
  obtain ⟨x, c, e, h1, h2, h3⟩ := h
  refine ⟨x, c, e, h1, h2, fun hl => ?_⟩
  obtain ⟨b, o, e1, e2, e3⟩ := h3 hl
  exact ⟨b, o, e1, by have := hg.size; omega, e3.gr hg (hD b e2)⟩
set_option maxRecDepth 100000 in
theorem open_hds_cells {H : Type} {enc : TypeId × Value → H} {w : World} {base : Nat} {sp : Nat → Bool} {hd : Bool} {v : Value} {fuel : Nat} {x : DataW H × List MemPlace}
    (hf : DataW.trod enc Try.prog w base sp hd fuel 66 [v] = some x) : ∃ l : List Hd, (∀ h ∈ l, h.ok) ∧ HdIn w v l := by
  have hc4 : Try.prog.cellsOf 26 = 68 := by kernel_rfl
  rcases Go.Deep.open_slice underlying_hds hf with ⟨e, _⟩ | ⟨a, len, cap, m, n, D, Pl, e, hb, hl, hm, hmm, -, hx⟩
  · obtain rfl := List.singleton_inj.1 e
    exact ⟨[], by simp, none, 0, rfl, Nat.le_refl _, Nat.zero_le _, fun h => by cases h⟩
  · obtain rfl := List.singleton_inj.1 e
    have hlm : len ≤ m := by rw [hmm]; split <;> omega
    have key : ∀ i, i < len → ∃ y : Hd, y.ok ∧ ∀ j, j < 68 → w.cell? ((a.add (i * 68)).add j) = (hdcs y)[j]? := by
      intro i hi
      obtain ⟨cs', h1, h2⟩ := hx i (by omega)
      rw [hc4] at h1
      obtain ⟨_, hlen, hcell⟩ := World.cells?_some h1
      obtain ⟨y, hy, e⟩ := open_hd_cells hlen h2
      refine ⟨y, hy, fun j hj => ?_⟩
      rw [hcell j hj, e]
    obtain ⟨f, hf'⟩ := Go.Deep.choose_lt key
    refine ⟨(List.range len).map f, ?_, some a, cap, by simp, by simpa using hl, hm, fun hne => ?_⟩
    · intro y hy
      obtain ⟨i, hi, rfl⟩ := List.mem_map.1 hy
      exact (hf' i (List.mem_range.1 hi)).1
    · have h0 : 0 < len := by simpa using hne
      obtain ⟨ab, ao, spot⟩ := a
      have c0 := (hf' 0 h0).2 0 (by omega)
      rw [hdcs_v] at c0
      have hspot : spot = none := by simpa [Addr.add] using World.cell?_spot c0
      subst hspot
      refine ⟨ab, ao, rfl, ?_, fun j v hv => ?_⟩
      · simp only [Addr.add, Nat.zero_mul, if_true] at c0
        unfold World.cell? at c0
        split at c0
        · rename_i heq; exact block_lt heq
        · simp at c0
      · have hjl : j < len * 68 := by
          have := (List.getElem?_eq_some_iff.1 hv).1
          rw [hdsL_len, List.length_map, List.length_range] at this
          exact this
        have e1 : j = j / 68 * 68 + j % 68 := by omega
        have := (hf' (j / 68) (by omega)).2 (j % 68) (by omega)
        rw [Addr.add_lit, Addr.add_lit] at this
        rw [e1, hdsL_get _ (j / 68) (j % 68) (by rw [List.length_map, List.length_range]; omega) (by omega)] at hv
        rw [e1, show ao + (j / 68 * 68 + j % 68) = ao + j / 68 * 68 + j % 68 by omega, this, ← hv]
        rw [List.getD_eq_getElem?_getD, List.getElem?_map, List.getElem?_range (by omega)]
        rfl
/-- rows of headers that came in -/
def HdsIn (w : World) (x : Option Addr) (ls : List (List Hd)) : Prop := 0 < ls.length → ∃ b o, x = some ⟨b, o, none⟩ ∧ b < w.heap.size ∧ ∀ j, j < ls.length → ∃ u, w.cell? ⟨b, o + j, none⟩ = some u ∧ HdIn w u (ls.getD j [])
set_option maxRecDepth 100000 in
theorem open_hdss {H : Type} {enc : TypeId × Value → H} {w : World} {base b0 : Nat} {r : Reach} {sp : Nat → Bool} {hd : Bool} {v : Value} {d : DataW H} {p : List MemPlace}
    (hv : Value.okWide Try.prog w r b0 101 v) (h : DataW.Trod enc Try.prog w base sp hd 101 v d p) :
    ∃ (x : Option Addr) (cap : Nat) (ls : List (List Hd)), (∀ l ∈ ls, ∀ y ∈ l, y.ok) ∧ v = .slice x ls.length cap ∧ HdsIn w x ls := by
  have hu : Try.prog.underlying 101 = some (.slice 66) := by kernel_rfl
  have hc1 : Try.prog.cellsOf 66 = 1 := by kernel_rfl
  obtain ⟨a1, len, cap, rfl⟩ := okWide_slice hu hv
  obtain ⟨fuel, hf⟩ := h
  rcases Go.Deep.open_slice1 hu hc1 hf with ⟨e, _⟩ | ⟨a, len', cap', m, n, V, D, Pl, e, hb, hl, hm, hmm, -, hx⟩
  · simp [Value.cells] at e
    obtain ⟨rfl, rfl, rfl⟩ := e
    exact ⟨none, 0, [], by simp, rfl, fun h => by cases h⟩
  · simp [Value.cells] at e
    obtain ⟨rfl, rfl, rfl⟩ := e
    have hlm : len ≤ m := by rw [hmm]; split <;> omega
    have key : ∀ i, i < len → ∃ l : List Hd, w.cell? (a.add i) = some (V i) ∧ (∀ y ∈ l, y.ok) ∧ HdIn w (V i) l := by
      intro i hi
      obtain ⟨h1, h2⟩ := hx i (by omega)
      obtain ⟨l, hl, hB⟩ := open_hds_cells h2
      exact ⟨l, h1, hl, hB⟩
    obtain ⟨f, hf'⟩ := Go.Deep.choose_lt key
    refine ⟨some a, cap, (List.range len).map f, ?_, by simp, fun hne => ?_⟩
    · intro l hl
      obtain ⟨i, hi, rfl⟩ := List.mem_map.1 hl
      exact (hf' i (List.mem_range.1 hi)).2.1
    · have h0 : 0 < len := by simpa using hne
      obtain ⟨ab, ao, spot⟩ := a
      have c0 := (hf' 0 h0).1
      have hspot : spot = none := by simpa [Addr.add] using World.cell?_spot c0
      subst hspot
      refine ⟨ab, ao, rfl, ?_, fun j hj => ?_⟩
      · simp only [Addr.add, if_true] at c0
        unfold World.cell? at c0
        split at c0
        · rename_i heq; exact block_lt heq
        · simp at c0
      · rw [List.length_map, List.length_range] at hj
        obtain ⟨h1, h2, h3⟩ := hf' j hj
        rw [Addr.add_lit] at h1
        refine ⟨V j, h1, ?_⟩
        rw [List.getD_eq_getElem?_getD, List.getElem?_map, List.getElem?_range hj]
        exact h3
/-- a row of whole numbers that came in -/
def IntsIn (w : World) (x : Option Addr) (l : List Int) : Prop := 0 < l.length → ∃ b o, x = some ⟨b, o, none⟩ ∧ b < w.heap.size ∧ ∀ j, j < l.length → w.cell? ⟨b, o + j, none⟩ = some (.int .i64 (l.getD j 0))
set_option maxRecDepth 100000 in
theorem open_intl {H : Type} {enc : TypeId × Value → H} {w : World} {base b0 : Nat} {r : Reach} {sp : Nat → Bool} {hd : Bool} {v : Value} {d : DataW H} {p : List MemPlace}
    (hv : Value.okWide Try.prog w r b0 54 v) (h : DataW.Trod enc Try.prog w base sp hd 54 v d p) :
    ∃ (x : Option Addr) (cap : Nat) (l : List Int), (∀ y ∈ l, (Lit.int .i64 y).wf = true) ∧ v = .slice x l.length cap ∧ IntsIn w x l := by
  have hu : Try.prog.underlying 54 = some (.slice 3) := by kernel_rfl
  have he : Try.prog.underlying 3 = some (.int .i64) := by kernel_rfl
  have hce : Try.prog.cellsOf 3 = 1 := by kernel_rfl
  obtain ⟨a1, len0, cap0, rfl⟩ := okWide_slice hu hv
  obtain ⟨fuel, hf⟩ := h
  rcases open_ints hu he hce hf with ⟨e, _⟩ | ⟨a, len, cap, zs, e, _, hl, hm, hz, -, hc, hw⟩
  · have e := (List.singleton_inj.1 e : _ = _)
    rw [e]
    exact ⟨none, 0, [], by simp, rfl, fun h => by cases h⟩
  · have e := (List.singleton_inj.1 e : _ = _)
    rw [e]
    have hlz : len ≤ zs.length := by rw [hz]; split <;> omega
    refine ⟨some a, cap, zs.take len, fun y hy => hw y (List.mem_of_mem_take hy), ?_, fun h0 => ?_⟩
    · congr 1; simp; omega
    · have h0 : 0 < len := by simp at h0; omega
      obtain ⟨ab, ao, spot⟩ := a
      have c0 := hc 0 (by omega)
      have hspot : spot = none := by simpa [Addr.add] using World.cell?_spot c0
      subst hspot
      refine ⟨ab, ao, rfl, ?_, fun j hj => ?_⟩
      · simp only [Addr.add, if_true] at c0
        unfold World.cell? at c0
        split at c0
        · rename_i heq; exact block_lt heq
        · simp at c0
      · rw [List.length_take] at hj
        have := hc j (by omega)
        rw [Addr.add_lit] at this
        rw [this]
        congr 2
        rw [List.getD_eq_getElem?_getD, List.getD_eq_getElem?_getD, List.getElem?_take_of_lt (by omega)]
end Go.Proofs.Ytnbppbnjkmopeaa
