/- Rows of bits ([]bool) that the document's answer of package num works on: a natural number and how many places. No condition. -/
import Derived.Test.YtnbppbnjkmopeaaNumPlain
import Derived.Test.YtnbppbnjkmopeaaMem
import Derived.Laws.OwnMore
import Derived.Deep.Onto
import Derived.OwnWalk
namespace Go.Proofs.Ytnbppbnjkmopeaa
open Go.RowKit

/-- the lowest L bits of a number -/
def bbs (n L : Nat) : List Value := (List.range L).map fun i => .bool (n.testBit i)
theorem bbs_len (n L : Nat) : (bbs n L).length = L := by simp [bbs]
theorem bbs_get (n L i : Nat) (h : i < L) : (bbs n L)[i]? = some (.bool (n.testBit i)) := by simp [bbs, h]
/-- the slice value v is a number's bits, so many of them; its row is the call's own from block 'base' on -/
def BitsIs (w : World) (base : Nat) (v : Value) (n L : Nat) : Prop := w.ownsRow base 4 1 v L (bbs n L)

theorem BitsIs.nil (w : World) (base n : Nat) : BitsIs w base (.slice none 0 0) n 0 := World.ownsRow_nil _ _ _ _
theorem BitsIs.form {w : World} {base : Nat} {v : Value} {n L : Nat} (h : BitsIs w base v n L) :
    (v = .slice none 0 0 ∧ L = 0) ∨ ∃ g cap, v = .slice (some ⟨g, 0, none⟩) L cap ∧ base ≤ g ∧ g < w.heap.size := by
  rcases h.2 with h' | ⟨g, cap, cur, rfl, hb, hg, _⟩
  · exact .inl h'
  · exact .inr ⟨g, cap, rfl, hb, block_lt hg⟩
theorem BitsIs.shape {w : World} {base : Nat} {v : Value} {n L : Nat} (h : BitsIs w base v n L) : ∃ x cap, v = .slice x L cap := by
  rcases h.form with ⟨rfl, rfl⟩ | ⟨g, cap, rfl, _⟩
  · exact ⟨_, _, rfl⟩
  · exact ⟨_, _, rfl⟩
theorem BitsIs.at {w : World} {base : Nat} {v : Value} {n L : Nat} (h : BitsIs w base v n L) (i : Nat) (hi : i < L) :
    ∃ g cap, v = .slice (some ⟨g, 0, none⟩) L cap ∧ base ≤ g ∧ g < w.heap.size ∧ w.cell? ⟨g, i, none⟩ = some (.bool (n.testBit i)) ∧ w.frozen? ⟨g, i, none⟩ = false := by
  rcases h.form with ⟨rfl, rfl⟩ | ⟨g, cap, rfl, hb, hg⟩
  · omega
  · exact ⟨g, cap, rfl, hb, hg, by rw [World.ownsRow.cellAt h i (by omega), bbs_get n L i hi], World.ownsRow.frozenAt h i⟩
theorem BitsIs.keep {w w' : World} {base : Nat} {v : Value} {n L : Nat} (h : BitsIs w base v n L) (hb : Below w.heap.size w w') : BitsIs w' base v n L := by
  refine ⟨h.1, ?_⟩
  rcases h.2 with h' | ⟨g, cap, cur, rfl, h1, h2, h3⟩
  · exact .inl h'
  · exact .inr ⟨g, cap, cur, rfl, h1, below_keep hb h2, h3⟩
theorem BitsIs.mono {w : World} {base base' : Nat} {v : Value} {n L : Nat} (h : BitsIs w base v n L) (hb : base' ≤ base) : BitsIs w base' v n L := World.ownsRow.mono h hb
theorem BitsIs.congr {w : World} {base : Nat} {v : Value} {n m L : Nat} (h : BitsIs w base v n L) (e : ∀ i, i < L → n.testBit i = m.testBit i) : BitsIs w base v m L := by
  have : bbs n L = bbs m L := by
    unfold bbs
    exact List.map_congr_left fun i hi => by rw [e i (List.mem_range.1 hi)]
  unfold BitsIs at *
  rwa [← this]
theorem BitsIs.alloc {w : World} {base : Nat} {v : Value} {n L : Nat} (h : BitsIs w base v n L) (o : Obj) : BitsIs (w.alloc o) base v n L := World.ownsRow.alloc h o
theorem cell_new (w : World) (v : Value) (t : TypeId) : (w.alloc (.cells #[v] t (0, 0))).cell? ⟨w.heap.size, 0, none⟩ = some v := by rw [World.cell?_alloc_at _ _ _ _ rfl]; rfl
theorem bbs_snoc (n L : Nat) : bbs n (L + 1) = bbs n L ++ [.bool (n.testBit L)] := by simp [bbs, List.range_succ]
theorem bbs_congr {n m L : Nat} (e : ∀ i, i < L → n.testBit i = m.testBit i) : bbs n L = bbs m L := by
  unfold bbs
  exact List.map_congr_left fun i hi => by rw [e i (List.mem_range.1 hi)]
theorem info_bool : (Try.prog.info? 4).map (fun i => (i.zero, i.size, i.bytes)) = some (some (.bool false), 1, 1) := by kernel_rfl
theorem underlying_bits : Try.prog.underlying 82 = some (.slice 4) := by kernel_rfl

/-- one bit is appended (behind the block that the bit is laid in first) -/
theorem wpList_append_bit {ops : Array Oper} {rest : List Oper} {o : Oper} {a : Act} {w : World} {Q : Exit → Act → World → Prop} (hgd : o.guard = none) (s x : Operand)
    (ho : o.op = .call { callee := .builtin .append, args := #[s, x], argTypes := #[82, 82] })
    (base : Nat) (v : Value) (n m L : Nat) (hs : a.eval s = v) (hown : BitsIs w base v n L) (g : Nat) (b : Bool) (hx : a.eval x = .slice (some ⟨g, 0, none⟩) 1 1) (hc : w.cell? ⟨g, 0, none⟩ = some (.bool b))
    (hm : ∀ i, i < L → n.testBit i = m.testBit i) (hb : m.testBit L = b) (hL : L ≤ 1000000) (hbase : base ≤ w.heap.size)
    (h : ∀ v' w', BitsIs w' base v' m (L + 1) → (∀ B u, B ≤ base → Below B u w → Below B u w') → wpList Try.prog ops Q rest (a.put o.dst v') w') :
    wpList Try.prog ops Q (o :: rest) a w := by
  obtain ⟨i0, hi, hz0, hz1, hz2⟩ := info_parts info_bool
  refine wpList_append_own w hgd s x 82 ho base 4 i0 (.bool false) 1 1 underlying_bits hi hz0 hz1 hz2 rfl (by decide) v L (bbs n L) hs hown ⟨g, 0, none⟩ 1 1 [.bool b] hx rfl
    (fun j u hj => ?_) (fun u hu => by simp at hu; subst hu; rfl) (by unfold maxLen; omega) (by omega) hbase fun v' w' hown' hgrow _ => ?_
  · match j, hj with
    | 0, hj => simp at hj; subst hj; simpa [Addr.add] using hc
  · refine h v' w' ?_ fun B u hB hu => ?_
    · unfold BitsIs
      rw [bbs_snoc, ← bbs_congr hm, hb]
      exact hown'
    · exact hu.grown hgrow (by omega) (fun j hj => by have := (World.ownsRow.lt hown j hj).1; omega)
end Go.Proofs.Ytnbppbnjkmopeaa
