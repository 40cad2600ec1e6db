/- Small words on memory: new blocks, blocks that stay. No condition. -/
import Derived.Test.YtnbppbnjkmopeaaNumBase
namespace Go.Proofs.Ytnbppbnjkmopeaa
open Go.RowKit

theorem alloc2 (w : World) (A B : Obj) : ((w.alloc A).alloc B).heap[w.heap.size]? = some A ∧ ((w.alloc A).alloc B).heap[w.heap.size + 1]? = some B :=
  ⟨(Below.heap_alloc _ B _ (by simp)).trans (heap_new w A), by have := heap_new (w.alloc A) B; simpa using this⟩
theorem alloc3 (w : World) (A B C : Obj) : (((w.alloc A).alloc B).alloc C).heap[w.heap.size]? = some A ∧ (((w.alloc A).alloc B).alloc C).heap[w.heap.size + 1]? = some B ∧
    (((w.alloc A).alloc B).alloc C).heap[w.heap.size + 2]? = some C := by
  obtain ⟨h1, h2⟩ := alloc2 w A B
  exact ⟨(Below.heap_alloc _ C _ (by simp; omega)).trans h1, (Below.heap_alloc _ C _ (by simp)).trans h2, by have := heap_new ((w.alloc A).alloc B) C; simpa using this⟩
theorem alloc4 (w : World) (A B C D : Obj) : ((((w.alloc A).alloc B).alloc C).alloc D).heap[w.heap.size]? = some A ∧ ((((w.alloc A).alloc B).alloc C).alloc D).heap[w.heap.size + 1]? = some B ∧
    ((((w.alloc A).alloc B).alloc C).alloc D).heap[w.heap.size + 2]? = some C ∧ ((((w.alloc A).alloc B).alloc C).alloc D).heap[w.heap.size + 3]? = some D := by
  obtain ⟨h1, h2, h3⟩ := alloc3 w A B C
  exact ⟨(Below.heap_alloc _ D _ (by simp; omega)).trans h1, (Below.heap_alloc _ D _ (by simp)).trans h2, (Below.heap_alloc _ D _ (by simp)).trans h3,
    by have := heap_new (((w.alloc A).alloc B).alloc C) D; simpa using this⟩
theorem keep_alloc {w : World} {b : Nat} {x : Obj} (o : Obj) (h : w.heap[b]? = some x) : (w.alloc o).heap[b]? = some x := (Below.heap_alloc w o b (block_lt h)).trans h
theorem keep_set {w : World} {b : Nat} {x : Obj} {a : Addr} (v : Value) (hne : b ≠ a.block) (h : w.heap[b]? = some x) : (w.setCell a v).heap[b]? = some x := (Below.heap_setCell w a v b hne).trans h
theorem below_alloc {w W : World} (h : Below w.heap.size w W) (o : Obj) : Below w.heap.size w (W.alloc o) := h.alloc h.size o
theorem below_next {w W W1 : World} (h : Below w.heap.size w W) (hb : Below W.heap.size W W1) : Below w.heap.size w W1 := h.trans (hb.mono h.size)
end Go.Proofs.Ytnbppbnjkmopeaa
