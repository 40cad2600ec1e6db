/- Small words on rows of bytes, new blocks, IDs. No condition. -/
import Derived.Test.YtnbppbnjkmopeaaHashE
import Derived.Lib.SlBytesConst
namespace Go.Proofs.Ytnbppbnjkmopeaa
open Go.RowKit

theorem Owns.new (w : World) (base : Nat) (hb : base ≤ w.heap.size) : Owns (w.alloc (.cells #[] 5 (0, 0))) base (.slice (some ⟨w.heap.size, 0, none⟩) 0 0) [] :=
  World.ownsRow_lit w #[] 0 hb (by unfold maxLen; omega) rfl

theorem Owns.keepB {w w' : World} {base : Nat} {v : Value} {q : List Nat} (h : Owns w base v q) (hb : ∀ b, b < w.heap.size → w'.heap[b]? = w.heap[b]?) : Owns w' base v q := by
  refine ⟨h.1, ?_⟩
  rcases h.2 with h' | ⟨g, cap, cur, rfl, h1, h2, h3⟩
  · exact .inl h'
  · exact .inr ⟨g, cap, cur, rfl, h1, (hb g (block_lt h2)).trans h2, h3⟩
theorem Owns.bytes' {w w' : World} {base n : Nat} {x : Option Addr} {c : Nat} {q : List Nat} (h : Owns w base (.slice x n c) q) (hn : q.length = n) (hb : Below w.heap.size w w') : BytesAt w' (.slice x n c) q := by
  subst hn; exact h.bytes.keep hb
/-- a byte of the call's own row is written -/
theorem Owns.set {w : World} {base : Nat} {x : Option Addr} {n c : Nat} {q : List Nat} (h : Owns w base (.slice x n c) q) (hn : q.length = n) {k : Nat} (hk : k < n) :
    ∃ g, x = some ⟨g, 0, none⟩ ∧ base ≤ g ∧ w.cell? ⟨g, k, none⟩ = some (.int .u8 (q.getD k 0 : Nat)) ∧ w.frozen? ⟨g, k, none⟩ = false ∧
      (∀ y : Nat, Owns (w.setCell ⟨g, k, none⟩ (.int .u8 (y : Int))) base (.slice x n c) (q.set k y)) ∧ (∀ b m, w.heap[b]? = some (iblk m) → b ≠ g) := by
  subst hn
  have h' := h
  rcases h'.2 with ⟨e, hq⟩ | ⟨g, cap, cur, e, h1, h2, h3⟩
  · omega
  · obtain ⟨rfl, -, rfl⟩ := Value.slice.inj e
    refine ⟨g, rfl, h1, ?_, World.ownsRow.frozenAt h k, fun y => ?_, fun b m hb hbg => ?_⟩
    · rw [World.ownsRow.cellAt h k (by omega), u8s_get q k hk]
    · have := (World.ownsRow.stored h k (.int .u8 (y : Int))).1
      unfold Owns
      rw [List.length_set]
      have e2 : u8s (q.set k y) = (u8s q).set k (.int .u8 (y : Int)) := by unfold u8s; rw [List.map_set]
      rw [e2]
      exact this
    · subst hbg
      rw [h2] at hb
      unfold iblk at hb
      simp at hb

theorem BytesAt.shape {w : World} {v : Value} {l : List Nat} (h : BytesAt w v l) : ∃ x c, v = .slice x l.length c := by
  rcases h with ⟨rfl, rfl⟩ | ⟨a, c, rfl, _⟩
  · exact ⟨_, _, rfl⟩
  · exact ⟨_, _, rfl⟩
theorem heap_new_at {w : World} {o : Obj} {g : Nat} (h : w.heap.size = g) : (w.alloc o).heap[g]? = some o := by rw [← h]; exact heap_new w o
theorem eq_self (a : Nat) (ha : a < 2 ^ 256) (w : World) : (Op.equalIn 10000 24 (iv a) (iv a)).run Try.prog w = .ok true w := by rw [eq_id a a ha ha w, decide_eq_true rfl]

theorem bytes_three (w : World) (a b c : Nat) (t : TypeId) (fr : Nat × Nat) (cap : Nat) {g : Nat} (h : w.heap[g]? = some (.cells #[.int .u8 (a : Int), .int .u8 (b : Int), .int .u8 (c : Int)] t fr)) : BytesAt w (.slice (some ⟨g, 0, none⟩) 3 cap) [a, b, c] :=
  .inr ⟨_, _, rfl, fun j hj => by
    simp only [List.length_cons, List.length_nil] at hj
    rw [Addr.add_lit, Nat.zero_add]
    unfold World.cell?
    simp only [h]
    have : j = 0 ∨ j = 1 ∨ j = 2 := by omega
    rcases this with rfl | rfl | rfl <;> rfl⟩
theorem underlying_u8 : Try.prog.underlying 5 = some (.int .u8) := by kernel_rfl
theorem ix_id {n k : Nat} (hk : k < 32) {x : Int} (hx : lb n k = x) (w : World) : (Instr.index 24 (iv n) (.int .i64 (k : Int))).run Try.prog w = .ok (.int .u8 x) w := by rw [← hx]; exact run_index_id n k hk w
end Go.Proofs.Ytnbppbnjkmopeaa
