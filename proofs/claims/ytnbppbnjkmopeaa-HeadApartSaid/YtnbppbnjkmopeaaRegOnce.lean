/- A region that draws its order, some of whose operations make new blocks, and one of which writes into memory that was there (an append to an own row). No condition. -/
import Derived.Test.YtnbppbnjkmopeaaRegTwo
namespace Go.Proofs.Ytnbppbnjkmopeaa
open Go.RowKit

section
variable {P : Program} {ops : Array Oper} {Q : Exit → Act → World → Prop} {N : Nat → Bool} {I : Nat → Value → World → Prop} {A : List (List Nat)} {T : List Nat} {m x : Nat} {Rel P0 : World → Prop}

/-- behind the one that writes -/
def StepX (I : Nat → Value → World → Prop) (Rel : World → Prop) (x : Nat) (d : Option Tmp) (a : Act) (w : World) : Exit → Act → World → Prop
  | .normal, a', w' => ∃ v, a' = a.put d v ∧ I x v w' ∧ w.heap.size ≤ w'.heap.size ∧ Rel w' ∧ ∀ j u, j ≠ x → I j u w → I j u w'
  | _, _, _ => False
/-- what an operation must show -/
def StepO (N : Nat → Bool) (I : Nat → Value → World → Prop) (Rel : World → Prop) (x i : Nat) (d : Option Tmp) (a : Act) (w : World) : Exit → Act → World → Prop := if i = x then StepX I Rel x d a w else StepN N I i d a w
def stepAtO (P : Program) (ops : Array Oper) (N : Nat → Bool) (I : Nat → Value → World → Prop) (Rel : World → Prop) (x i : Nat) (a : Act) (w : World) : Prop :=
  match ops[i]? with
  | some o => wpList P ops (StepO N I Rel x i o.dst a w) [o] a w
  | none => True
/-- the state behind the listed operations -/
def HeldO (ops : Array Oper) (N : Nat → Bool) (I : Nat → Value → World → Prop) (Rel P0 : World → Prop) (x : Nat) (a0 : Act) (w0 : World) (listed : Array Bool) (a : Act) (w : World) : Prop :=
  listed.size = ops.size ∧ Closed ops listed ∧ (w0.heap.size ≤ w.heap.size ∧ Rel w ∧ (listed.getD x false = false → P0 w)) ∧ ∃ vs : Nat → Value, a = putL ops vs ((List.range ops.size).filter fun j => listed.getD j false) a0 ∧ (∀ j, listed.getD j false = true → I j (vs j) w) ∧
    (∀ j, listed.getD j false = true → N j = true → ∃ g, blkOf (vs j) = some g ∧ w0.heap.size ≤ g ∧ g < w.heap.size) ∧
    (∀ j k, listed.getD j false = true → listed.getD k false = true → N j = true → N k = true → j ≠ k → blkOf (vs j) ≠ blkOf (vs k))
/-- what one step gives: of i its value, of the others that they stay -/
def Gives (N : Nat → Bool) (I : Nat → Value → World → Prop) (Rel P0 : World → Prop) (x i : Nat) (v : Value) (w w' : World) : Prop :=
  I i v w' ∧ w.heap.size ≤ w'.heap.size ∧ (Rel w → Rel w') ∧ (i ≠ x → P0 w → P0 w') ∧ (N i = true → New v w w') ∧ ∀ j u, j ≠ i → I j u w → I j u w'
theorem StepO.gives {i : Nat} {d : Option Tmp} {a a' : Act} {w w' : World} (hmono : ∀ i v w w', Below w.heap.size w w' → I i v w → I i v w') (hrel : ∀ w w', Below w.heap.size w w' → Rel w → Rel w') (hp0 : ∀ w w', Below w.heap.size w w' → P0 w → P0 w') (hN : N x = false)
    (h : StepO N I Rel x i d a w .normal a' w') : ∃ v, a' = a.put d v ∧ Gives N I Rel P0 x i v w w' := by
  unfold StepO at h
  split at h
  · rename_i e
    subst e
    obtain ⟨v, e, h1, h2, h3, h4⟩ := h
    exact ⟨v, e, h1, h2, fun _ => h3, fun hne => absurd rfl hne, fun hn => (by rw [hN] at hn; cases hn), h4⟩
  · rename_i hne
    obtain ⟨v, e, h1, h2, h3⟩ := h
    exact ⟨v, e, h1, h2.size, hrel _ _ h2, fun _ => hp0 _ _ h2, h3, fun j u _ => hmono j u _ _ h2⟩
theorem StepO.only {i : Nat} {d : Option Tmp} {a a' : Act} {w w' : World} {e : Exit} (h : StepO N I Rel x i d a w e a' w') : e = .normal := by
  unfold StepO at h
  split at h <;> cases e <;> first | rfl | exact h.elim

theorem step_execO {o : Oper} {i : Nat} {a F : Act} {w : World} {K : Act → World → Prop} (hmono : ∀ i v w w', Below w.heap.size w w' → I i v w → I i v w') (hrel : ∀ w w', Below w.heap.size w w' → Rel w → Rel w') (hp0 : ∀ w w', Below w.heap.size w w' → P0 w → P0 w') (hN : N x = false)
    (hx : execOp a.eval o = execOp F.eval o) (hw : Region.wanted o (yielded ops a.tmps) = Region.wanted o (yielded ops F.tmps))
    (hput : ∀ u v, F.put o.dst u = F.put o.dst v → a.put o.dst u = a.put o.dst v)
    (hK : ∀ v w', Gives N I Rel P0 x i v w w' → K (a.put o.dst v) w')
    (h : wpList P ops (StepO N I Rel x i o.dst F w) [o] F w) : if Region.wanted o (yielded ops a.tmps) then o.wp P a w K Q ∨ (o.asks P a w ∧ LetsOut Q) else K (a.put o.dst undef) w := by
  have key : ∀ u w', StepO N I Rel x i o.dst F w .normal (F.put o.dst u) w' → K (a.put o.dst u) w' := by
    intro u w' h
    obtain ⟨v, e, hG⟩ := h.gives hmono hrel hp0 hN
    rw [hput u v e]
    exact hK v w' hG
  have nol : ¬ LetsOut (StepO N I Rel x i o.dst F w) := by
    rintro ⟨_, _, h⟩
    exact absurd h.only (by simp)
  unfold wpList at h
  rw [hw]
  split
  · rename_i hwn
    rw [if_pos hwn] at h
    left
    replace h := h.resolve_right fun x => nol x.2
    unfold Oper.wp at *
    rw [hx]
    generalize (execOp F.eval o).run P w = r at *
    cases r with
    | ok n w' =>
      cases n <;> simp only [Oper.upon, wpList] at h ⊢
      case value u => exact key u w' h
      case skip => exact key undef w' h
      case defer d =>
        exfalso
        obtain ⟨v, e, _⟩ := h.gives hmono hrel hp0 hN
        have := congrArg Act.defers e
        have hd : ∀ (x : Act) (u : Value), (x.put o.dst u).defers = x.defers := fun x u => by cases o.dst <;> rfl
        rw [hd, hd] at this
        have := congrArg List.length this
        simp at this
      case enter f args =>
        refine Calls.mono h fun e w'' he => ?_
        cases e with
        | returned u => exact key u w'' he
        | panicked c => exact absurd he.only (by simp)
        | outgrown => exact absurd he nol
      case row row args => exact Rows.mono h fun u w'' he => key u w'' he
    | halt x w' =>
      cases x <;> simp only [Oper.upon] at h ⊢
      case panic u => exact absurd h.only (by simp)
  · rename_i hwn
    rw [if_neg hwn] at h
    exact key undef w h

theorem held_stepO {a0 : Act} {w0 : World} (hok : regOk ops A T = true) (hmono : ∀ i v w w', Below w.heap.size w w' → I i v w → I i v w') (hrel : ∀ w w', Below w.heap.size w w' → Rel w → Rel w') (hp0 : ∀ w w', Below w.heap.size w w' → P0 w → P0 w') (hN : N x = false)
    {listed : Array Bool} {a : Act} {w : World} (hH : HeldO ops N I Rel P0 x a0 w0 listed a w) {i : Nat} (hi : i ∈ Region.ready .any ops listed)
    (hstep : (i = x → P0 w) → onL ops I w (ancL A i) a0 (fun a => stepAtO P ops N I Rel x i a w)) {K : Act → World → Prop} (hK : ∀ a' w', HeldO ops N I Rel P0 x a0 w0 (listed.setIfInBounds i true) a' w' → K a' w') : wpOp P ops Q i K a w := by
  obtain ⟨h0, o, ho, haft⟩ := mem_ready.1 hi
  have hin : i < ops.size := (Array.getElem?_eq_some_iff.1 ho).1
  obtain ⟨hs, hc, ⟨hb, hrl, hpx⟩, vs, ha, hI, hN1, hN2⟩ := hH
  have hil : i < listed.size := by omega
  have h0' : listed.getD i false = false := by simpa [hil] using h0
  have hsel : ∀ cs b, o.op ≠ .select cs b := fun cs b => Region.noSelect_spec (regOk_select hok) i o cs b ho
  have hdst := regOk_dst hok
  -- what comes before i is listed
  have hlt : ∀ i o, ops[i]? = some o → ∀ e ∈ o.after, Region.binds .any e = true → e.on < i := fun i o ho => regOk_after hok ho
  have hanc : ∀ j, ancB T i j = true → listed.getD j false = true := fun j h => anc_listed hok hc i j ho (fun e he hbd => ⟨haft e he hbd, by have := hlt i o ho e he hbd; omega⟩) hlt h
  obtain ⟨hned, hnea⟩ := regOk_ned hok ho
  have hnedb : ∀ j, nedB A i j = true → listed.getD j false = true := fun j h => hanc j (hnea j (by simpa [nedB, ancL] using h))
  have hnot : ∀ j, listed.getD j false = true → ancB T j i = false := fun j hj => by
    cases hcase : ancB T j i
    · rfl
    · have hjl : j < listed.size := by
        rcases Nat.lt_or_ge j listed.size with h' | h'
        · exact h'
        · simp [Array.getElem?_eq_none h'] at hj
      have ho' : ops[j]? = some ops[j] := Array.getElem?_eq_getElem (by omega)
      have := anc_listed hok hc j i ho' (fun e he hbd => ⟨hc j _ hj ho' e he hbd, by have := hlt j _ ho' e he hbd; omega⟩) hlt hcase
      rw [h0'] at this; cases this
  obtain ⟨F, hF⟩ : ∃ F, F = putL ops vs (ancL A i) a0 := ⟨_, rfl⟩
  obtain ⟨L, hL⟩ : ∃ L, L = (List.range ops.size).filter fun j => listed.getD j false := ⟨_, rfl⟩
  obtain ⟨R, hR⟩ : ∃ R, R = L.filter fun j => !nedB A i j := ⟨_, rfl⟩
  have hLa : L.filter (nedB A i) = ancL A i := by
    rw [hL, List.filter_filter, ← hned]
    apply List.filter_congr
    intro j _
    cases hcase : nedB A i j
    · rfl
    · rw [hnedb j hcase]; rfl
  have hLm : ∀ j ∈ L, listed.getD j false = true := fun j hj => by rw [hL] at hj; exact (List.mem_filter.1 hj).2
  have hperm : (ancL A i ++ R).Perm L := by rw [← hLa, hR]; exact List.filter_append_perm _ _
  have haF : a = putL ops vs R F := by rw [ha, hF, ← putL_append, ← hL]; exact (putL_perm hdst hperm a0).symm
  have hRm : ∀ j ∈ R, listed.getD j false = true ∧ nedB A i j = false := fun j hj => by
    rw [hR] at hj
    obtain ⟨h1, h2⟩ := List.mem_filter.1 hj
    exact ⟨hLm j h1, by simpa using h2⟩
  have hne : ∀ j, listed.getD j false = true → i ≠ j := fun j hj e => by subst e; rw [h0'] at hj; cases hj
  have hlook : ∀ j ∈ R, ∀ d, dstOf ops j = some d → d ∉ o.looksAt ops := fun j hj => regOk_look hok ho (hne j (hRm j hj).1) (hRm j hj).2 (hnot j (hRm j hj).1)
  obtain ⟨hx, hw⟩ := execOp_putL (ops := ops) o hsel (vs := vs) R hlook F
  rw [← haF] at hx hw
  have hod : o.dst = dstOf ops i := by simp [dstOf, ho]
  have hputR : ∀ v, a.put o.dst v = putL ops vs R (F.put o.dst v) := fun v => by
    rw [haF]
    exact putL_put R (fun j hj e he => by
      rw [hod]
      intro he2
      exact hdst i j e (hne j (hRm j hj).1) he2 he) F
  have hst := onL_put (vs := vs) (ancL A i) a0 (hstep fun e => hpx (e ▸ h0')) (fun j hj => hI j (hanc j (hnea j hj)))
  rw [← hF] at hst
  unfold stepAtO at hst
  rw [ho] at hst
  simp only at hst
  unfold wpOp
  rw [ho]
  simp only
  refine step_execO hmono hrel hp0 hN hx hw (fun u v e => by rw [hputR, hputR, e]) (fun v w' hG => ?_) hst
  obtain ⟨hIv, hsz, hrl', hpx', hNv, hoth⟩ := hG
  refine hK _ _ ⟨by simpa using hs, ?_, ⟨Nat.le_trans hb hsz, hrl' hrl, fun hlx => ?_⟩, fun j => if j = i then v else vs j, ?_, ?_, ?_, ?_⟩
  · intro j o' hj ho' e he hbd
    by_cases hji : j = i
    · subst hji
      rw [ho] at ho'; cases ho'
      exact getD_set_true (haft e he hbd)
    · have hji' : i ≠ j := fun e => hji e.symm
      rw [getD_set_ne false hji'] at hj
      exact getD_set_true (hc j o' hj ho' e he hbd)
  · have hix : i ≠ x := fun e => by subst e; simp [hil] at hlx
    rw [getD_set_ne false hix] at hlx
    exact hpx' hix (hpx hlx)
  · have hiL : i ∉ L := fun h => by have := hLm i h; rw [h0'] at this; cases this
    have e1 : a.put o.dst v = putL ops (fun j => if j = i then v else vs j) (L ++ [i]) a0 := by
      rw [putL_append, ha, ← hL, putL_congr (us := vs) (l := L) (fun j hj => if_neg (fun e : j = i => hiL (e ▸ hj)))]
      show _ = (putL ops vs L a0).put (dstOf ops i) (if i = i then v else vs i)
      rw [if_pos rfl, hod]
    rw [e1]
    refine putL_perm hdst ?_ a0
    refine (List.perm_ext_iff_of_nodup ?_ ?_).2 fun j => ?_
    · rw [List.nodup_append]
      refine ⟨by rw [hL]; exact List.Pairwise.filter _ List.nodup_range, by simp, ?_⟩
      intro x hx y hy e
      simp at hy
      subst hy e
      exact hiL hx
    · exact List.Pairwise.filter _ List.nodup_range
    · simp only [List.mem_append, List.mem_singleton, hL, List.mem_filter, List.mem_range]
      by_cases hji : j = i
      · subst hji; simp [hin, hil]
      · have hji' : i ≠ j := fun e => hji e.symm
        rw [getD_set_ne false hji']; simp [hji]
  · intro j hj
    by_cases hji : j = i
    · subst hji; simpa using hIv
    · have hji' : i ≠ j := fun e => hji e.symm
      rw [getD_set_ne false hji'] at hj
      simp only [if_neg hji]
      exact hoth j _ hji (hI j hj)
  · intro j hj hnj
    by_cases hji : j = i
    · subst hji
      obtain ⟨g, h1, h2, h3⟩ := hNv hnj
      exact ⟨g, by simpa using h1, Nat.le_trans hb h2, h3⟩
    · have hji' : i ≠ j := fun e => hji e.symm
      rw [getD_set_ne false hji'] at hj
      simp only [if_neg hji]
      obtain ⟨g, h1, h2, h3⟩ := hN1 j hj hnj
      exact ⟨g, h1, h2, Nat.lt_of_lt_of_le h3 hsz⟩
  · intro j k hj hk hnj hnk hjk
    by_cases hji : j = i
    · subst hji
      rw [getD_set_ne false hjk] at hk
      have hkj : k ≠ j := fun e => hjk e.symm
      simp only [if_neg hkj, if_pos]
      obtain ⟨g, h1, h2, h3⟩ := hNv hnj
      obtain ⟨g', h1', h2', h3'⟩ := hN1 k hk hnk
      rw [h1, h1']
      intro e
      have := Option.some.inj e
      omega
    · have hji' : i ≠ j := fun e => hji e.symm
      rw [getD_set_ne false hji'] at hj
      by_cases hki : k = i
      · subst hki
        simp only [if_neg hji, if_pos]
        obtain ⟨g, h1, h2, h3⟩ := hNv hnk
        obtain ⟨g', h1', h2', h3'⟩ := hN1 j hj hnj
        rw [h1, h1']
        intro e
        have := Option.some.inj e
        omega
      · have hki' : i ≠ k := fun e => hki e.symm
        rw [getD_set_ne false hki'] at hk
        simp only [if_neg hji, if_neg hki]
        exact hN2 j k hj hk hnj hnk hjk

theorem held_tailO {a0 : Act} {w0 : World} (hok : regOk ops A T = true) (ht : tailOk ops T m = true) (hmono : ∀ i v w w', Below w.heap.size w w' → I i v w → I i v w') (hrel : ∀ w w', Below w.heap.size w w' → Rel w → Rel w') (hp0 : ∀ w w', Below w.heap.size w w' → P0 w → P0 w') (hN : N x = false)
    (hstep : ∀ i, i < m → ∀ w, w0.heap.size ≤ w.heap.size → Rel w → (i = x → P0 w) → onL ops I w (ancL A i) a0 (fun a => stepAtO P ops N I Rel x i a w))
    (hend : ∀ w (vs : Nat → Value), w0.heap.size ≤ w.heap.size → Rel w → (∀ j, j < m → I j (vs j) w) → (∀ j, j < m → N j = true → ∃ g, blkOf (vs j) = some g ∧ w0.heap.size ≤ g ∧ g < w.heap.size) → (∀ j k, j < m → k < m → N j = true → N k = true → j ≠ k → blkOf (vs j) ≠ blkOf (vs k)) → wpList P ops Q (ops.toList.drop m) (putL ops vs (List.range m) a0) w) :
    ∀ (fuel : Nat) (listed : Array Bool) (a : Act) (w : World), ((List.range m).filter fun j => !listed.getD j false).length + (ops.size - m) ≤ fuel → (∀ j, m ≤ j → listed.getD j false = false) → HeldO ops N I Rel P0 x a0 w0 listed a w → wpAny P .any ops Q fuel listed a w := by
  intro fuel
  have hms := tailOk_le ht
  have fin : ∀ (fuel : Nat) (listed : Array Bool) (a : Act) (w : World), ops.size - m ≤ fuel → (∀ j, m ≤ j → listed.getD j false = false) → (∀ j, j < m → listed.getD j false = true) → HeldO ops N I Rel P0 x a0 w0 listed a w → wpAny P .any ops Q fuel listed a w := by
    rintro fuel listed a w hf hno hall ⟨hs, hc, ⟨hb, hrl, hpx⟩, vs, ha, hI, hN1, hN2⟩
    have e : ((List.range ops.size).filter fun j => listed.getD j false) = List.range m := by
      have e1 : ∀ j, listed.getD j false = decide (j < m) := fun j => by
        by_cases hj : j < m
        · rw [hall j hj, decide_eq_true hj]
        · rw [hno j (by omega), decide_eq_false hj]
      simp only [e1]
      obtain ⟨d, hd⟩ := Nat.exists_eq_add_of_le hms
      rw [hd, List.range_add, List.filter_append, List.filter_eq_self.2 (fun j hj => by simpa using hj), List.filter_eq_nil_iff.2 (fun j hj => by
        obtain ⟨k, _, rfl⟩ := List.mem_map.1 hj
        simp), List.append_nil]
    rw [e] at ha
    have h := hend w vs hb hrl (fun j hj => hI j (hall j hj)) (fun j hj => hN1 j (hall j hj)) (fun j k hj hk => hN2 j k (hall j hj) (hall k hk))
    rw [← ha] at h
    refine tail_run hok ht _ m fuel listed a w rfl (Nat.le_refl _) hs hc (fun j _ => ?_) (by simpa using hf) h
    by_cases hj : j < m
    · rw [hall j hj, decide_eq_true hj]
    · rw [hno j (by omega), decide_eq_false hj]
  induction fuel with
  | zero =>
    intro listed a w hf hno hH
    refine fin 0 listed a w (by omega) hno (fun j hj => ?_) hH
    have h0 : ((List.range m).filter fun j => !listed.getD j false) = [] := List.length_eq_zero_iff.1 (by omega)
    have := List.filter_eq_nil_iff.1 h0 j (List.mem_range.2 hj)
    simpa using this
  | succ fuel ih =>
    intro listed a w hf hno hH
    by_cases hall : ∀ j, j < m → listed.getD j false = true
    · exact fin _ listed a w (by omega) hno hall hH
    · obtain ⟨j0, hj0⟩ := Classical.not_forall.1 hall
      obtain ⟨hj0m, hj0l⟩ := Classical.not_imp.1 hj0
      refine ⟨fun hr => absurd (all_listed hok hH.1 hr j0 (by omega)) hj0l, fun i hi => ?_⟩
      obtain ⟨h0, o, ho, -⟩ := mem_ready.1 hi
      have hin : i < ops.size := (Array.getElem?_eq_some_iff.1 ho).1
      have him : i < m := by
        rcases Nat.lt_or_ge i m with h' | h'
        · exact h'
        · exact absurd (ready_anc hok hH.2.1 hi (tailOk_anc ht hin h' (by omega))) hj0l
      have hil : i < listed.size := by rw [hH.1]; exact hin
      refine held_stepO hok hmono hrel hp0 hN hH hi (hstep i him w hH.2.2.1.1 hH.2.2.1.2.1) fun a' w' hH' => ih _ _ _ ?_ (fun j hj => ?_) hH'
      · have := count_less him hil (by simpa [hil] using h0)
        omega
      · rw [getD_set_ne false (by omega)]; exact hno j hj

def stepsLO (P : Program) (ops : Array Oper) (N : Nat → Bool) (I : Nat → Value → World → Prop) (Rel P0 : World → Prop) (x : Nat) (a0 : Act) (w0 : World) : Nat → List Oper → List (List (Nat × Option Tmp)) → Prop
  | i, o :: l, an :: A => (∀ w, w0.heap.size ≤ w.heap.size → Rel w → (i = x → P0 w) → onP I w an a0 (fun a => wpList P ops (StepO N I Rel x i o.dst a w) [o] a w)) ∧ stepsLO P ops N I Rel P0 x a0 w0 (i + 1) l A
  | _, [], _ => True
  | _, _ :: _, [] => False
theorem stepsLO_at {a0 : Act} {w0 : World} : ∀ (l : List Oper) (A : List (List (Nat × Option Tmp))) (i : Nat), stepsLO P ops N I Rel P0 x a0 w0 i l A → ∀ k o, l[k]? = some o → ∃ an, A[k]? = some an ∧ ∀ w, w0.heap.size ≤ w.heap.size → Rel w → (i + k = x → P0 w) → onP I w an a0 (fun a => wpList P ops (StepO N I Rel x (i + k) o.dst a w) [o] a w)
  | [], _, _, _, k, o, h => by simp at h
  | _ :: _, [], _, h, _, _, _ => h.elim
  | o :: l, an :: A, i, h, 0, o', ho => by
    simp at ho
    subst ho
    exact ⟨an, rfl, h.1⟩
  | o :: l, an :: A, i, h, k + 1, o', ho => by
    obtain ⟨an', h1, h2⟩ := stepsLO_at l A (i + 1) h.2 k o' (by simpa using ho)
    exact ⟨an', by simpa using h1, by rw [show i + (k + 1) = i + 1 + k by omega]; exact h2⟩
/-- a region that draws: the predicates of its head's operations (number m begins the tail), those of N make new blocks, which differ; then the tail as it stands -/
theorem wp_region_once {id : Nat} {a0 : Act} {w0 : World} (m x : Nat) (N : Nat → Bool) (Rel P0 : World → Prop) (L : List (Value → World → Prop)) (A : List (List (Nat × Option Tmp))) (E : List (Nat × Option Tmp)) (T : List Nat) (hm : P.follows .mixedOrders = true) (hok : regOk ops (A.map (·.map (·.1))) T = true) (ht : tailOk ops T m = true)
    (hd : (A.all fun l => l.all fun p => p.2 == dstOf ops p.1) = true) (hE : (E.all (fun p => p.2 == dstOf ops p.1) && E.map (·.1) == List.range m) = true)
    (hk : keptL L) (hrel : ∀ w w', Below w.heap.size w w' → Rel w → Rel w') (hp0 : ∀ w w', Below w.heap.size w w' → P0 w → P0 w') (hN : N x = false) (hR0 : ∀ w, w.heap = w0.heap → Below w0.heap.size w0 w → Rel w) (hP0 : ∀ w, Below w0.heap.size w0 w → P0 w) (hstep : stepsLO P ops N (atL L) Rel P0 x a0 w0 0 (ops.toList.take m) A)
    (hend : ∀ w (G : Nat → Option Nat), w0.heap.size ≤ w.heap.size → Rel w → (∀ j, j < m → N j = true → ∃ g, G j = some g ∧ w0.heap.size ≤ g ∧ g < w.heap.size) → (∀ j k, j < m → k < m → N j = true → N k = true → j ≠ k → G j ≠ G k) →
      onP (fun j v w => atL L j v w ∧ (N j = true → blkOf v = G j)) w E a0 (fun a => wpList P ops Q (ops.toList.drop m) a w)) : (Code.region id ops true).wp P Q a0 w0 := by
  simp only [Bool.and_eq_true, beq_iff_eq] at hE
  have hmono : ∀ i v w w', Below w.heap.size w w' → atL L i v w → atL L i v w' := fun i => keptL_at L hk i
  have hend' : ∀ w (vs : Nat → Value), w0.heap.size ≤ w.heap.size → Rel w → (∀ j, j < m → atL L j (vs j) w) → (∀ j, j < m → N j = true → ∃ g, blkOf (vs j) = some g ∧ w0.heap.size ≤ g ∧ g < w.heap.size) → (∀ j k, j < m → k < m → N j = true → N k = true → j ≠ k → blkOf (vs j) ≠ blkOf (vs k)) → wpList P ops Q (ops.toList.drop m) (putL ops vs (List.range m) a0) w := fun w vs hw hr hI h1 h2 => by
    have h := onP_onL (ops := ops) (I := fun j v w => atL L j v w ∧ (N j = true → blkOf v = (fun j => blkOf (vs j)) j)) (w := w) (k := fun a => wpList P ops Q (ops.toList.drop m) a w) E a0 hE.1 (hend w (fun j => blkOf (vs j)) hw hr h1 h2)
    rw [hE.2] at h
    exact onL_put (vs := vs) _ _ h fun j hj => ⟨hI j (List.mem_range.1 hj), fun _ => rfl⟩
  have hst : ∀ i, i < m → ∀ w, w0.heap.size ≤ w.heap.size → Rel w → (i = x → P0 w) → onL ops (atL L) w (ancL (A.map (·.map (·.1))) i) a0 (fun a => stepAtO P ops N (atL L) Rel x i a w) := fun i hi w hw hr hp => by
    have hi' : i < ops.size := Nat.lt_of_lt_of_le hi (tailOk_le ht)
    have ho : ops[i]? = some ops[i] := Array.getElem?_eq_getElem hi'
    obtain ⟨an, h1, h2⟩ := stepsLO_at (ops.toList.take m) A 0 hstep i ops[i] (by rw [List.getElem?_take, if_pos hi]; simp)
    have e : ancL (A.map (·.map (·.1))) i = an.map (·.1) := by
      unfold ancL
      simp [h1]
    rw [Nat.zero_add] at h2
    have h3 := h2 w hw hr hp
    rw [e]
    have h4 := onP_onL (ops := ops) an a0 (List.all_eq_true.1 hd an (List.mem_of_getElem? h1)) h3
    unfold stepAtO
    rw [ho]
    exact h4
  refine wp_region_any hm (held_tailO hok ht hmono hrel hp0 hN hst hend' _ _ _ _ ?_ (fun j _ => rep_false _ _) ⟨by simp, ?_, ⟨?_, ?_, fun _ => ?_⟩, fun _ => undef, ?_, ?_, ?_, ?_⟩)
  · have h1 := List.length_filter_le (fun j => !(Array.replicate ops.size false).getD j false) (List.range m)
    have := tailOk_le ht
    rw [List.length_range] at h1
    omega
  · intro i o hi
    rw [rep_false] at hi; cases hi
  · exact Nat.le_refl _
  · exact hR0 _ rfl (Below.drew (Below.refl _ _))
  · exact hP0 _ (Below.drew (Below.refl _ _))
  · have e : ((List.range ops.size).filter fun j => (Array.replicate ops.size false).getD j false) = [] := List.filter_eq_nil_iff.2 fun j _ => by rw [rep_false]; exact Bool.false_ne_true
    rw [e]; rfl
  · intro j hj
    rw [rep_false] at hj; cases hj
  · intro j hj
    rw [rep_false] at hj; cases hj
  · intro j k hj
    rw [rep_false] at hj; cases hj
theorem StepO.of_ne {i : Nat} {d : Option Tmp} {a a' : Act} {w w' : World} {e : Exit} (hne : i ≠ x) (h : StepN N I i d a w e a' w') : StepO N I Rel x i d a w e a' w' := by
  unfold StepO; rw [if_neg hne]; exact h
theorem StepO.of_eq {i : Nat} {d : Option Tmp} {a a' : Act} {w w' : World} {e : Exit} (he : i = x) (h : StepX I Rel x d a w e a' w') : StepO N I Rel x i d a w e a' w' := by
  unfold StepO; rw [if_pos he]; exact h
def keepL (x : Nat) (w w' : World) : Nat → List (Value → World → Prop) → Prop
  | _, [] => True
  | i, p :: l => (i ≠ x → ∀ u, p u w → p u w') ∧ keepL x w w' (i + 1) l
theorem keepL_any {w w' : World} : ∀ (L : List (Value → World → Prop)) (i : Nat), keepL x w w' i L → ∀ j u, i + j ≠ x → atL L j u w → atL L j u w'
  | [], _, _, j, u, _, _ => by unfold atL; trivial
  | _ :: _, i, h, 0, u, hne, hu => h.1 hne u hu
  | _ :: l, i, h, j + 1, u, hne, hu => keepL_any l (i + 1) h.2 j u (by omega) hu
theorem keepL_at {w w' : World} (L : List (Value → World → Prop)) (x : Nat) (h : keepL x w w' 0 L) : ∀ j u, j ≠ x → atL L j u w → atL L j u w' := fun j u hne => keepL_any L 0 h j u (by omega)
end
end Go.Proofs.Ytnbppbnjkmopeaa
