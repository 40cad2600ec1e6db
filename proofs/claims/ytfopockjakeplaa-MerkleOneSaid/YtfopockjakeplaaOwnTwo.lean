/- An append upon one of two own rows of IDs. No condition. -/
import Derived.Test.YtfopockjakeplaaMkA
import Derived.ArgAppend
namespace Go.Proofs.Ytfopockjakeplaa
open Go.RowKit

theorem OwnsI.kept {w w' : World} {base : Nat} {v : Value} {l : List Nat} {row : Option Nat} (h : OwnsI w base v l) (hg : w.grownBy w' row) (hne : v.ownBlock = none ∨ v.ownBlock ≠ row) : OwnsI w' base v l :=
  World.ownsRow.kept h hg hne

set_option maxRecDepth 100000 in
/-- one ID is appended to one of two own rows: the other stays, and they still lie apart -/
theorem wpList_append_two {ops : Array Oper} {rest : List Oper} {o : Oper} {a : Act} {w : World} {Q : Exit → Act → World → Prop} (hgd : o.guard = none) (s x : Operand)
    (ho : o.op = .call { callee := .builtin .append, args := #[s, x], argTypes := #[37, 37] })
    (base : Nat) (v : Value) (q : List Nat) (hs : a.eval s = v) (hown : OwnsI w base v q) (y : Nat) (b c : Nat) (hx : a.eval x = .slice (some ⟨b, 0, none⟩) 1 c) (hc : IdsAt w b 0 [y])
    (hL : q.length ≤ 1000000) (hbase : base ≤ w.heap.size) (u : Value) (r : List Nat) (hu : OwnsI w base u r) (hne : v.ownBlock = none ∨ u.ownBlock = none ∨ v.ownBlock ≠ u.ownBlock)
    (h : ∀ v' w', OwnsI w' base v' (q ++ [y]) → OwnsI w' base u r → (v'.ownBlock = none ∨ u.ownBlock = none ∨ v'.ownBlock ≠ u.ownBlock) → (∀ B z, B ≤ base → Below B z w → Below B z w') → (∀ k z, w.heap[k]? = some z → v.ownBlock ≠ some k → w'.heap[k]? = some z) → w.heap.size ≤ w'.heap.size → wpList Try.prog ops Q rest (a.put o.dst v') w') :
    wpList Try.prog ops Q (o :: rest) a w := by
  obtain ⟨i0, hi, hz0, hz1, hz2⟩ := info_parts info_id
  have hcell : ∀ j z, (idsL [y])[j]? = some z → w.cell? ((⟨b, 0, none⟩ : Addr).add j) = some z := fun j z hj => by
    have hjl : j < 1 * 32 := by
      have := (List.getElem?_eq_some_iff.1 hj).1
      rwa [idsL_len] at this
    have := idsL_get [y] 0 j (by simp) (by omega)
    rw [Nat.zero_mul, Nat.zero_add] at this
    rw [this] at hj
    rw [Addr.add_lit, ← hj, ← hc 0 (by simp) j (by omega)]
  have hone : ∀ z ∈ idsL [y], z.oneCell' = true := fun z hz => by
    simp only [idsL, ids, List.append_nil, List.mem_map] at hz
    obtain ⟨i, _, rfl⟩ := hz
    rfl
  have hnew : ∀ v' w', w'.ownsRow w.heap.size 25 32 v' (q.length + 1) (idsL q ++ idsL [y]) → w.grownBy w' none → wpList Try.prog ops Q rest (a.put o.dst v') w' := fun v' w' h1 h2 => by
    refine h v' w' ?_ (hu.kept h2 ?_) ?_ (fun B z hB hz => hz.grown h2 (by omega) (fun j hj => by cases hj)) (fun k z hk _ => (h2.block k (block_lt hk) (by simp)).trans hk) h2.size
    · have := World.ownsRow.mono h1 hbase
      unfold OwnsI
      rw [List.length_append, idsL_app]
      exact this
    · cases hub : u.ownBlock with
      | none => exact .inl rfl
      | some k => exact .inr (by simp)
    · cases hub : u.ownBlock with
      | none => exact .inr (.inl rfl)
      | some k =>
        cases hvb : v'.ownBlock with
        | none => exact .inl rfl
        | some k2 =>
          have e1 := (World.ownsRow.lt hu k hub).2
          have e2 := (World.ownsRow.lt h1 k2 hvb).1
          exact .inr (.inr (by intro e; have := Option.some.inj e; omega))
  have hown2 := hown
  rcases hown.2 with ⟨rfl, hq⟩ | ⟨g, cap, cur, rfl, g1, g2, g3⟩
  · have hq0 : q.length = 0 := hq
    refine wpList_append_grows w hgd s x 37 ho 25 i0 (iv 0) 32 32 underlying_ids hi hz0 hz1 hz2 (by kernel_rfl) (by decide) none 0 0 [] hs (fun _ => ⟨rfl, rfl⟩) rfl (fun _ e => by cases e) ⟨b, 0, none⟩ 1 c (idsL [y]) hx (by rw [idsL_len]; rfl) hcell hone (by omega) (by decide) (by decide) fun v' w' h1 h2 => ?_
    have : q = [] := List.eq_nil_of_length_eq_zero hq0
    subst this
    exact hnew v' w' (by simpa [idsL] using h1) h2
  · by_cases hroom : q.length + 1 ≤ cap
    · refine wpList_append_fits w hgd s x 37 ho base 25 i0 32 underlying_ids hi hz1 g q.length cap (idsL q) hs hown2 ⟨b, 0, none⟩ 1 c (idsL [y]) hx (by rw [idsL_len]; rfl) hcell hone hroom fun w' h1 h2 => ?_
      refine h _ w' ?_ (hu.kept h2 ?_) ?_ (fun B z hB hz => hz.grown h2 (by omega) (fun j hj => by cases hj; omega)) (fun k z hk hne => (h2.block k (block_lt hk) (fun e => hne e.symm)).trans hk) h2.size
      · unfold OwnsI
        rw [List.length_append, idsL_app]
        exact h1
      · rcases hne with hne | hne | hne
        · cases hne
        · exact .inl hne
        · exact .inr (Ne.symm hne)
      · rcases hne with hne | hne | hne
        · cases hne
        · exact .inr (.inl hne)
        · exact .inr (.inr hne)
    · refine wpList_append_grows w hgd s x 37 ho 25 i0 (iv 0) 32 32 underlying_ids hi hz0 hz1 hz2 (by kernel_rfl) (by decide) (some ⟨g, 0, none⟩) q.length cap (idsL q) hs (fun e => by cases e) (by rw [idsL_len]) (fun b' e j z hj => by cases e; exact World.ownsRow.cells hown2 rfl j z hj) ⟨b, 0, none⟩ 1 c (idsL [y]) hx (by rw [idsL_len]; rfl) hcell hone (by omega) (by unfold maxLen; omega) (by omega) fun v' w' h1 h2 => hnew v' w' h1 h2
end Go.Proofs.Ytfopockjakeplaa
