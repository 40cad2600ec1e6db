/- Regions that draw, order by order: what only reads is taken first, the rest comes up one by one. No condition. -/
import Derived.Test.YtnbppbnjkmopeaaReg
import Derived.Deep.RegionHeld3
namespace Go.Proofs.Ytnbppbnjkmopeaa
open Go.RowKit

abbrev StepK (K : Act → World → Prop) : Exit → Act → World → Prop
  | .normal, a, w => K a w
  | _, _, _ => False

section
variable {P : Program} {md : Region.Mode} {ops : Array Oper} {Q : Exit → Act → World → Prop} {S : World → Prop} {fuel : Nat} {listed : Array Bool} {a : Act} {w : World}
theorem any_abs (C : World → Prop) (h : C w) (k : ∀ V, C V → wpAnyH P md ops Q S fuel listed a V) : wpAnyH P md ops Q S fuel listed a w := k w h
theorem wp_of_list {o : Oper} {K : Act → World → Prop} (h : wpList P ops (StepK K) [o] a w) : if Region.wanted o (yielded ops a.tmps) = true then Oper.wp P o a w K Q else K (a.put o.dst undef) w := by
  have nol : ¬ LetsOut (StepK K) := by
    rintro ⟨_, _, h⟩
    exact h
  unfold wpList at h
  split
  · rename_i hwn
    rw [if_pos hwn] at h
    replace h := h.resolve_right fun x => nol x.2
    unfold Oper.wp at *
    generalize (execOp a.eval o).run P w = r at *
    cases r with
    | ok n w' =>
      cases n <;> simp only [Oper.upon, wpList] at h ⊢
      case value u => exact h
      case skip => exact h
      case defer d => exact h
      case enter f args =>
        refine Calls.mono h fun e w'' he => ?_
        cases e with
        | returned u => exact he
        | panicked c => exact absurd he (by simp [StepK])
        | outgrown => exact absurd he nol
      case row row args => exact Rows.mono h fun u w'' he => he
    | halt x w' =>
      cases x <;> simp only [Oper.upon] at h ⊢
      case panic u => exact absurd h (by simp [StepK])
  · rename_i hwn
    rw [if_neg hwn] at h
    exact h
/-- one operation alone may come up -/
theorem any_one {i : Nat} {o : Oper} (hr : Region.ready md ops listed = [i]) (ho : ops[i]? = some o)
    (h : ∀ K : Act → World → Prop, Shut (∀ a w, S w → (S w → wpAnyH P md ops Q S fuel (listed.setIfInBounds i true) a w) → K a w) → wpList P ops (StepK K) [o] a w) : wpAnyH P md ops Q S (fuel + 1) listed a w :=
  wpAnyH_ready hr (by simp) (AllReadyH.cons ho (fun K hK => wp_of_list (h K hK)) AllReadyH.nil)
/-- one of two -/
theorem any_two {i j : Nat} {o p : Oper} (hr : Region.ready md ops listed = [i, j]) (ho : ops[i]? = some o) (hp : ops[j]? = some p)
    (h : ∀ K : Act → World → Prop, Shut (∀ a w, S w → (S w → wpAnyH P md ops Q S fuel (listed.setIfInBounds i true) a w) → K a w) → wpList P ops (StepK K) [o] a w)
    (k : ∀ K : Act → World → Prop, Shut (∀ a w, S w → (S w → wpAnyH P md ops Q S fuel (listed.setIfInBounds j true) a w) → K a w) → wpList P ops (StepK K) [p] a w) : wpAnyH P md ops Q S (fuel + 1) listed a w :=
  wpAnyH_ready hr (by simp) (AllReadyH.cons ho (fun K hK => wp_of_list (h K hK)) (AllReadyH.cons hp (fun K hK => wp_of_list (k K hK)) AllReadyH.nil))
end
end Go.Proofs.Ytnbppbnjkmopeaa
