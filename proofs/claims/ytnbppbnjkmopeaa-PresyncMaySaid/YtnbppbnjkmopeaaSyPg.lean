/- Headers appended to an empty row without room. No condition. -/
import Derived.Test.YtnbppbnjkmopeaaSyPf
import Derived.ArgAppend
import Derived.Deep.Upon
namespace Go.Proofs.Ytnbppbnjkmopeaa
open Go.RowKit

theorem src_hd0 (w : World) (b o c : Nat) : Src Try.prog 68 66 (.slice (some ⟨b, o, none⟩) 0 c) 0 [] w :=
  Src.ofSlice w underlying_hds ⟨b, o, none⟩ 0 c [] (by simp) (fun j u h => by simp at h) (fun u h => by cases h)
theorem wpList_append_newh {ops : Array Oper} {rest : List Oper} {o : Oper} {a : Act} {w : World} {Q : Exit → Act → World → Prop} (hgd : o.guard = none) (s x : Operand)
    (ho : o.op = .call { callee := .builtin .append, args := #[s, x], argTypes := #[66, 66] })
    (g : Nat) (hs : a.eval s = .slice (some ⟨g, 0, none⟩) 0 0) (hg : w.heap[g]? = some (.cells #[] 26 (0, 0))) (l : List Hd) (b o' k c : Nat) (hk : k = l.length) (hx : a.eval x = .slice (some ⟨b, o', none⟩) k c) (hI : HdsAt w b o' l) (hL : l.length ≤ 1000000)
    (h : ∀ v' w', OwnsH w' 0 v' l → Below w.heap.size w w' → (∀ i, v'.ownBlock = some i → i = g ∨ w.heap.size ≤ i) → wpList Try.prog ops Q rest (a.put o.dst v') w') :
    wpList Try.prog ops Q (o :: rest) a w := by
  subst hk
  obtain ⟨i0, hi, hz0, hz1, hz2⟩ := info_parts info_hd
  by_cases h0 : l = []
  · subst h0
    refine wpList_plain hgd fun K hK => ?_
    have hrun := run_append_nothing (P := Try.prog) w 66 66 o.type 26 i0 underlying_hds hi (some ⟨g, 0, none⟩) 0 0 (Nat.le_refl _) (.slice (some ⟨b, o', none⟩) 0 c) (by rw [hz1]; exact src_hd0 w b o' c)
    unfold Oper.wp
    simp only [List.length_nil] at hx
    simp [execOp, ho, resolve, invoke, builtin, hs, hx, hrun, Result.andThen]
    exact hK _ _ (h _ _ ⟨rfl, .inr ⟨g, 0, #[], rfl, Nat.zero_le _, hg, Nat.le_refl _, Nat.zero_le _, rfl, rfl⟩⟩ (Below.refl _ _) (fun i e => .inl (Option.some.inj e).symm))
  · have hpos : 0 < l.length := List.length_pos_iff.2 h0
    refine wpList_append_grows w hgd s x 66 ho 26 i0 (hdv hd0) 68 80 underlying_hds hi hz0 hz1 hz2 (by kernel_rfl) (by decide) (some ⟨g, 0, none⟩) 0 0 [] hs (fun e => by cases e) rfl (fun _ _ j u hj => by simp at hj) ⟨b, o', none⟩ l.length c (hdsL l) hx (hdsL_len l)
      (fun j u hj => by rw [Addr.add_lit]; exact hI j u hj) (hdsL_one l) (by omega) (by unfold maxLen; omega) (by omega) fun v' w' hown' hgrow => ?_
    have ho2 : OwnsH w' w.heap.size v' l := by
      unfold OwnsH
      simpa using hown'
    exact h v' w' (ho2.mono (Nat.zero_le _)) ((Below.refl _ _).grown hgrow (Nat.le_refl _) (fun j hj => by cases hj)) (fun i e => .inr (ho2.ge e))
/-- an empty row that is new -/
def EmptyRow (Z : Nat) : Value → World → Prop := fun v w => ∃ g, v = .slice (some ⟨g, 0, none⟩) 0 0 ∧ Z ≤ g ∧ w.heap[g]? = some (.cells #[] 26 (0, 0))
theorem EmptyRow.kept (Z : Nat) : Kept (EmptyRow Z) := fun _ _ _ hb ⟨g, e, h1, h⟩ => ⟨g, e, h1, block_keep hb h⟩
/-- an own row of headers that is new -/
def OwnRow (Z : Nat) (l : List Hd) : Value → World → Prop := fun v w => OwnsH w Z v l
theorem OwnRow.kept (Z : Nat) (l : List Hd) : Kept (OwnRow Z l) := fun _ _ _ hb h => OwnsH.keep h hb
theorem OwnsH.raise {w : World} {b c : Nat} {v : Value} {l : List Hd} (h : OwnsH w b v l) (hc : ∀ k, v.ownBlock = some k → c ≤ k) : OwnsH w c v l := by
  refine ⟨h.1, ?_⟩
  rcases h.2 with h' | ⟨g, cap, cur, rfl, h1, h2⟩
  · exact .inl h'
  · exact .inr ⟨g, cap, cur, rfl, hc g rfl, h2⟩
theorem OwnsH.cap {w : World} {base n c : Nat} {a : Addr} {l : List Hd} (h : OwnsH w base (.slice (some a) n c) l) : n ≤ c ∧ c ≤ maxLen := by
  rcases h.rows with ⟨e, _⟩ | ⟨b, cap, e, _, _, h3, h4, _⟩
  · cases e
  · obtain ⟨_, e2, e3⟩ := Value.slice.inj e
    rw [e2, e3]
    exact ⟨h3, h4⟩
theorem OwnsH.src {w : World} {base n c : Nat} {x : Option Addr} {l : List Hd} (h : OwnsH w base (.slice x n c) l) : (x = none → l = [] ∧ c = 0) ∧ ∀ ad, x = some ad → ad.spot = none ∧ HdsAt w ad.block ad.off l := by
  rcases h.rows with ⟨e, el⟩ | ⟨b, cap, e, _, _, _, _, h3⟩
  · obtain ⟨e1, _, e3⟩ := Value.slice.inj e
    exact ⟨fun _ => ⟨el, e3⟩, (fun ad he => by rw [e1] at he; cases he)⟩
  · obtain ⟨e1, _, e3⟩ := Value.slice.inj e
    refine ⟨(fun he => by rw [e1] at he; cases he), fun ad he => ?_⟩
    rw [e1] at he
    cases he
    exact ⟨rfl, h3⟩
/-- all of a line is taken in the first phase, and again -/
theorem first_take {x : Nd} {I : Nat} (hx : GenX x I) (work : Nat) (hw : work ≤ 200) (S : Nat) (l : List Hd) (hc : Chn 545259519 I l) (hl : enN work ≤ l.length) :
    takeP (newP (rlR (work : Int) 0) S x) true l = (scnP work S x (mks S 0 (l.take (enN work))), []) := by
  have e := first_run hx work hw S l hc hl
  unfold takeP
  rw [if_neg (by show ¬ (1 = 3 ∨ 1 = 4); omega), show (newP (rlR (work : Int) 0) S x).phase = 1 from rfl, e]
  dsimp only
  rw [if_neg (by show ¬ 2 = 4; omega), if_neg (by simp)]
  rfl
theorem second_take {x : Nd} {I : Nat} (hx : GenX x I) (work : Nat) (hw : work ≤ 200) (S : Nat) (l : List Hd) (hc : Chn 545259519 I l) (hl : enN work ≤ l.length) :
    (takeP (scnP work S x (mks S 0 (l.take (enN work)))) true l).1.phase = 3 ∧ (takeP (scnP work S x (mks S 0 (l.take (enN work)))) true l).2 = l.take (enN work) := by
  have e := second_run hx work hw S l hc hl
  obtain ⟨P, hP⟩ : ∃ P, P = scnP work S x (mks S 0 (l.take (enN work))) := ⟨_, rfl⟩
  have h2 : P.phase = 2 := by rw [hP]; rfl
  rw [← hP] at e ⊢
  unfold takeP
  rw [if_neg (by omega), h2, e]
  dsimp only
  rw [if_neg (by show ¬ 3 = 4; omega), if_neg (by simp)]
  refine ⟨rfl, ?_⟩
  show (l.take (enN work)).take ((l.take (enN work)).length - _) = _
  rw [if_pos rfl, Nat.sub_zero, List.take_length]
theorem second_take_bad {x : Nd} {I : Nat} (hx : GenX x I) (work : Nat) (hw0 : 2 ≤ work) (hw : work ≤ 200) (S : Nat) (one l : List Hd) (hc : Chn 545259519 I l) (hl : enN work ≤ l.length) (ho : enN work ≤ one.length) (j : Nat) (hj : j < enN work) (hm : (j + 1) % 4 = S % 256 % 4) (hb : hbit S (hdid (one.getD j hd0)) ≠ hbit S (hdid (l.getD j hd0)))
    (ha : ∀ i, i < j → (i + 1) % 4 = S % 256 % 4 → hbit S (hdid (one.getD i hd0)) = hbit S (hdid (l.getD i hd0))) :
    (takeP (scnP work S x (mks S 0 (one.take (enN work)))) true l).1.phase = 4 ∧ (takeP (scnP work S x (mks S 0 (one.take (enN work)))) true l).1.reason = 150 ∧ (takeP (scnP work S x (mks S 0 (one.take (enN work)))) true l).2 = [] := by
  obtain ⟨q, e⟩ := second_bad hx work hw0 hw S one l hc hl ho j hj hm hb ha
  obtain ⟨P, hP⟩ : ∃ P, P = scnP work S x (mks S 0 (one.take (enN work))) := ⟨_, rfl⟩
  have h2 : P.phase = 2 := by rw [hP]; rfl
  rw [← hP] at e ⊢
  unfold takeP
  rw [if_neg (by omega), h2, e]
  dsimp only
  rw [if_pos (show (failP q 150).phase = 4 from rfl)]
  exact ⟨rfl, rfl, rfl⟩
end Go.Proofs.Ytnbppbnjkmopeaa
