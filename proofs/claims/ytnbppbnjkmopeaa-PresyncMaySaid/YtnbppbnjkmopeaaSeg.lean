/- Blocks made of parts: a part is read, a part is written. No condition. -/
import Derived.Test.YtnbppbnjkmopeaaHd1
namespace Go.Proofs.Ytnbppbnjkmopeaa
open Go.RowKit

theorem heap_setCells_mid (g : Nat) (t : TypeId) : ∀ (vs old pre post : List Value) (w : World), old.length = vs.length → w.heap[g]? = some (.cells (pre ++ (old ++ post)).toArray t (0, 0)) →
    (w.setCells g pre.length vs).heap[g]? = some (.cells (pre ++ (vs ++ post)).toArray t (0, 0))
  | [], old, pre, post, w, hl, h => by
    obtain rfl : old = [] := by simpa using hl
    simpa [World.setCells] using h
  | v :: vs, o :: old, pre, post, w, hl, h => by
    have h1 := heap_setCell_same w g pre.length _ t v h
    have e : (pre ++ (o :: old ++ post)).toArray.setIfInBounds pre.length v = ((pre ++ [v]) ++ (old ++ post)).toArray := by simp
    rw [e] at h1
    have ih := heap_setCells_mid g t vs old (pre ++ [v]) post _ (by simpa using hl) h1
    simpa [World.setCells] using ih
/-- where a part begins -/
def sgo (S : List (List Value)) (k : Nat) : Nat := (S.take k).flatten.length
theorem seg_split {S : List (List Value)} {k : Nat} {cs : List Value} (hk : S[k]? = some cs) : S.flatten = (S.take k).flatten ++ (cs ++ (S.drop (k + 1)).flatten) := by
  obtain ⟨h, e⟩ := List.getElem?_eq_some_iff.1 hk
  conv => lhs; rw [← List.take_append_drop k S, List.drop_eq_getElem_cons h, e]
  rw [List.flatten_append, List.flatten_cons]
theorem seg_set {S : List (List Value)} {k : Nat} {cs : List Value} (hk : S[k]? = some cs) (vs : List Value) : (S.set k vs).flatten = (S.take k).flatten ++ (vs ++ (S.drop (k + 1)).flatten) := by
  obtain ⟨h, _⟩ := List.getElem?_eq_some_iff.1 hk
  have h1 : (S.set k vs)[k]? = some vs := by rw [List.getElem?_set, if_pos rfl, if_pos h]
  rw [seg_split h1, List.take_set_of_le (Nat.le_refl _), List.drop_set_of_lt (by omega)]
theorem seg_range {w : World} {g : Nat} {S : List (List Value)} {t : TypeId} (h : w.heap[g]? = some (.cells S.flatten.toArray t (0, 0))) {k o : Nat} {cs : List Value} (hk : S[k]? = some cs) (ho : sgo S k = o) : w.rangeAt g o cs := fun j v hv => by
  have hj : j < cs.length := (List.getElem?_eq_some_iff.1 hv).1
  rw [cell_of_row _ _ _ _ _ _ h, List.getElem?_toArray, seg_split hk, List.getElem?_append_right (by unfold sgo at ho; omega), show o + j - (S.take k).flatten.length = j by unfold sgo at ho; omega, List.getElem?_append_left hj]
  exact hv
theorem seg_cell {w : World} {g : Nat} {S : List (List Value)} {t : TypeId} (h : w.heap[g]? = some (.cells S.flatten.toArray t (0, 0))) {k o : Nat} {v : Value} (hk : S[k]? = some [v]) (ho : sgo S k = o) : w.cell? ⟨g, o, none⟩ = some v :=
  seg_range h hk ho 0 v rfl
theorem seg_there {w : World} {g : Nat} {S : List (List Value)} {t : TypeId} (h : w.heap[g]? = some (.cells S.flatten.toArray t (0, 0))) {k o : Nat} {cs : List Value} (hk : S[k]? = some cs) (ho : sgo S k = o) : w.there g o cs.length := fun j hj => by
  refine ⟨?_, frozen_of_row _ _ _ _ _ h⟩
  rw [seg_range h hk ho j _ (List.getElem?_eq_getElem hj)]; rfl
theorem seg_write {w : World} {g : Nat} {S : List (List Value)} {t : TypeId} (h : w.heap[g]? = some (.cells S.flatten.toArray t (0, 0))) {k o : Nat} {cs : List Value} (hk : S[k]? = some cs) (ho : sgo S k = o) (vs : List Value) (hl : cs.length = vs.length) :
    (w.setCells g o vs).heap[g]? = some (.cells (S.set k vs).flatten.toArray t (0, 0)) := by
  rw [seg_set hk vs, ← ho]
  rw [seg_split hk] at h
  exact heap_setCells_mid g t vs cs _ _ w hl h
theorem seg_write1 {w : World} {g : Nat} {S : List (List Value)} {t : TypeId} (h : w.heap[g]? = some (.cells S.flatten.toArray t (0, 0))) {k o : Nat} {u : Value} (hk : S[k]? = some [u]) (ho : sgo S k = o) (v : Value) :
    (w.setCell ⟨g, o, none⟩ v).heap[g]? = some (.cells (S.set k [v]).flatten.toArray t (0, 0)) := seg_write h hk ho [v] rfl
theorem range_seg {w : World} {g o : Nat} {S : List (List Value)} (h : w.rangeAt g o S.flatten) {k p : Nat} {cs : List Value} (hk : S[k]? = some cs) (hp : sgo S k = p) : w.rangeAt g (o + p) cs := fun j v hv => by
  have hj : j < cs.length := (List.getElem?_eq_some_iff.1 hv).1
  have := h (p + j) v (by
    rw [seg_split hk, List.getElem?_append_right (by unfold sgo at hp; omega), show p + j - (S.take k).flatten.length = j by unfold sgo at hp; omega, List.getElem?_append_left hj]
    exact hv)
  rwa [show o + (p + j) = o + p + j by omega] at this
theorem range_cell {w : World} {g o : Nat} {S : List (List Value)} (h : w.rangeAt g o S.flatten) {k p : Nat} {v : Value} (hk : S[k]? = some [v]) (hp : sgo S k = p) : w.cell? ⟨g, o + p, none⟩ = some v := range_seg h hk hp 0 v rfl
end Go.Proofs.Ytnbppbnjkmopeaa
