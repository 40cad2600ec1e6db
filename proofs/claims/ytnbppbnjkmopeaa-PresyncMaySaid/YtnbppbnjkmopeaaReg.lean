/- A region that draws its order, walked once: each operation is met alone, its value told by a predicate that later worlds keep. No condition. A region that draws its order of what stands ahead of a forced tail: the head by predicates (RegInv), the tail in the text's order. No condition. A region that draws its order, some of whose operations make new blocks: those blocks differ. No condition. A region that draws its order, some of whose operations make new blocks, and one of which writes into memory that was there (an append to an own row). No condition. A region that draws its order, some of whose operations make new blocks, and some of which, in a forced order, write into memory that was there (appends to an own row). No condition. -/
import Derived.Test.YtnbppbnjkmopeaaRows
import Derived.WalkKit
import Derived.Orders
import Derived.Deep.RegionWith
import Derived.Below
namespace Go.Proofs.Ytnbppbnjkmopeaa
open Go.RowKit

/-- where operation j lays its value -/
def dstOf (ops : Array Oper) (j : Nat) : Option Tmp := (ops[j]?).bind (·.dst)
def putL (ops : Array Oper) (vs : Nat → Value) (l : List Nat) (a : Act) : Act := l.foldl (fun a j => a.put (dstOf ops j) (vs j)) a
/-- what comes before an operation in every order, as bits, out of the table of all -/
def ancM (T : List Nat) (o : Oper) : Nat := o.after.toList.foldl (fun m e => if Region.binds .any e then m ||| (2 ^ e.on ||| T.getD e.on 0) else m) 0
def ancB (T : List Nat) (i j : Nat) : Bool := (T.getD i 0).testBit j
/-- of number i: the operations whose values it looks at -/
def nedB (A : List (List Nat)) (i j : Nat) : Bool := (A.getD i []).contains j
def ancL (A : List (List Nat)) (i : Nat) : List Nat := A.getD i []
/-- each operation looks only at what comes before it, lays its value where no other does -/
def regOk (ops : Array Oper) (A : List (List Nat)) (T : List Nat) : Bool :=
  Region.noSelect ops &&
  (List.range ops.size).all fun i => match ops[i]? with
    | some o => (T.getD i 0 == ancM T o) && (o.after.all fun e => !Region.binds .any e || decide (e.on < i)) && ((List.range ops.size).filter (nedB A i) == ancL A i) && ((ancL A i).all (ancB T i)) && (List.range ops.size).all fun j =>
        (i == j || nedB A i j || ancB T j i || (match dstOf ops j with | some d => !(o.looksAt ops).contains d | none => true)) &&
        (i == j || (match dstOf ops j with | some d => o.dst != some d | none => true))
    | none => true
/-- the values of the operations l, one behind the other, each with its predicate -/
def onL (ops : Array Oper) (I : Nat → Value → World → Prop) (w : World) : List Nat → Act → (Act → Prop) → Prop
  | [], a, k => k a
  | j :: l, a, k => ∀ v, I j v w → onL ops I w l (a.put (dstOf ops j) v) k
def StepQ (I : Nat → Value → World → Prop) (i : Nat) (d : Option Tmp) (a : Act) (w : World) : Exit → Act → World → Prop
  | .normal, a', w' => ∃ v, a' = a.put d v ∧ I i v w' ∧ Below w.heap.size w w'
  | _, _, _ => False
def stepAt (P : Program) (ops : Array Oper) (I : Nat → Value → World → Prop) (i : Nat) (a : Act) (w : World) : Prop :=
  match ops[i]? with
  | some o => wpList P ops (StepQ I i o.dst a w) [o] a w
  | none => True

section
variable {P : Program} {ops : Array Oper} {Q : Exit → Act → World → Prop} {I : Nat → Value → World → Prop} {A : List (List Nat)} {T : List Nat}

theorem onL_put {w : World} {k : Act → Prop} {vs : Nat → Value} : ∀ (l : List Nat) (a : Act), onL ops I w l a k → (∀ j ∈ l, I j (vs j) w) → k (putL ops vs l a)
  | [], _, h, _ => h
  | j :: l, a, h, hI => onL_put l _ (h (vs j) (hI j (by simp))) fun i hi => hI i (by simp [hi])
theorem putL_congr {vs us : Nat → Value} {l : List Nat} (h : ∀ j ∈ l, vs j = us j) : ∀ a : Act, putL ops vs l a = putL ops us l a := by
  induction l with
  | nil => intro a; rfl
  | cons j l ih =>
    intro a
    simp only [putL, List.foldl_cons]
    rw [h j (by simp)]
    exact ih (fun i hi => h i (by simp [hi])) _
theorem putL_append (vs : Nat → Value) (l m : List Nat) (a : Act) : putL ops vs (l ++ m) a = putL ops vs m (putL ops vs l a) := by simp [putL]
theorem putL_perm {vs : Nat → Value} {l m : List Nat} (hd : ∀ i j d, i ≠ j → dstOf ops i = some d → dstOf ops j ≠ some d) (p : l.Perm m) (a : Act) : putL ops vs l a = putL ops vs m a := by
  refine List.Perm.foldl_eq' p (fun x _ y _ z => ?_) a
  by_cases h : x = y
  · subst h; rfl
  · exact Act.put_comm z (vs x) (vs y) fun d h1 h2 => hd x y d h h1 h2
theorem execOp_putL (o : Oper) (hs : ∀ cs b, o.op ≠ .select cs b) {vs : Nat → Value} : ∀ (l : List Nat), (∀ j ∈ l, ∀ d, dstOf ops j = some d → d ∉ o.looksAt ops) → ∀ a : Act,
    execOp (putL ops vs l a).eval o = execOp a.eval o ∧ Region.wanted o (yielded ops (putL ops vs l a).tmps) = Region.wanted o (yielded ops a.tmps)
  | [], _, a => ⟨rfl, rfl⟩
  | j :: l, h, a => by
    obtain ⟨h1, h2⟩ := execOp_putL o hs (vs := vs) l (fun i hi => h i (by simp [hi])) (a.put (dstOf ops j) (vs j))
    exact ⟨h1.trans (execOp_put o hs a _ _ (h j (by simp))), h2.trans (wanted_put o a _ _ (h j (by simp)))⟩
theorem putL_put {vs : Nat → Value} {d : Option Tmp} {v : Value} : ∀ (l : List Nat), (∀ j ∈ l, ∀ e, dstOf ops j = some e → d ≠ some e) → ∀ a : Act, (putL ops vs l a).put d v = putL ops vs l (a.put d v)
  | [], _, _ => rfl
  | j :: l, h, a => by
    have ih := putL_put (vs := vs) (d := d) (v := v) l (fun i hi => h i (by simp [hi])) (a.put (dstOf ops j) (vs j))
    show (putL ops vs l (a.put (dstOf ops j) (vs j))).put d v = putL ops vs l ((a.put d v).put (dstOf ops j) (vs j))
    rw [ih, Act.put_comm a (vs j) v (h j (by simp))]

/-- listed is closed: with an operation all that come before it -/
def Closed (ops : Array Oper) (listed : Array Bool) : Prop := ∀ i o, listed.getD i false = true → ops[i]? = some o → ∀ e ∈ o.after, Region.binds .any e = true → listed.getD e.on false = true
theorem ancM_bit (T : List Nat) (j : Nat) : ∀ (l : List Edge) (m : Nat), (l.foldl (fun m e => if Region.binds .any e then m ||| (2 ^ e.on ||| T.getD e.on 0) else m) m).testBit j = true →
    m.testBit j = true ∨ ∃ e ∈ l, Region.binds .any e = true ∧ (e.on = j ∨ (T.getD e.on 0).testBit j = true)
  | [], m, h => .inl h
  | e :: l, m, h => by
    rw [List.foldl_cons] at h
    rcases ancM_bit T j l _ h with h1 | ⟨e', he, hb⟩
    · split at h1
      · rename_i hbd
        rw [Nat.testBit_or, Nat.testBit_or, Bool.or_eq_true, Bool.or_eq_true] at h1
        rcases h1 with h1 | h1 | h1
        · exact .inl h1
        · refine .inr ⟨e, by simp, hbd, .inl ?_⟩
          simpa [Nat.testBit_two_pow] using h1
        · exact .inr ⟨e, by simp, hbd, .inr h1⟩
      · exact .inl h1
    · exact .inr ⟨e', by simp [he], hb⟩
theorem regOk_tab (h : regOk ops A T = true) {i : Nat} {o : Oper} (ho : ops[i]? = some o) : T.getD i 0 = ancM T o := by
  have hi : i < ops.size := (Array.getElem?_eq_some_iff.1 ho).1
  unfold regOk at h
  simp only [Bool.and_eq_true, List.all_eq_true, List.mem_range] at h
  have hh := h.2 i hi
  rw [ho] at hh
  simp only [Bool.and_eq_true, beq_iff_eq] at hh
  exact hh.1.1.1.1
theorem anc_listed (hok : regOk ops A T = true) {listed : Array Bool} (hc : Closed ops listed) (i j : Nat) {o : Oper} (ho : ops[i]? = some o) (hi : ∀ e ∈ o.after, Region.binds .any e = true → listed.getD e.on false = true ∧ e.on < ops.size)
    (hlt : ∀ i o, ops[i]? = some o → ∀ e ∈ o.after, Region.binds .any e = true → e.on < i) (h : ancB T i j = true) : listed.getD j false = true := by
  induction i using Nat.strongRecOn generalizing o with
  | ind i ih =>
    unfold ancB at h
    rw [regOk_tab hok ho] at h
    rcases ancM_bit T j _ _ h with h0 | ⟨e, he, hbd, h1⟩
    · simp at h0
    · have he' : e ∈ o.after := by simpa using he
      obtain ⟨hl, hs⟩ := hi e he' hbd
      rcases h1 with rfl | h1
      · exact hl
      · have ho' : ops[e.on]? = some ops[e.on] := Array.getElem?_eq_getElem hs
        exact ih e.on (hlt i o ho e he' hbd) ho' (fun e2 he2 hb2 => ⟨hc e.on _ hl ho' e2 he2 hb2, by have := hlt _ _ ho' e2 he2 hb2; omega⟩) h1

theorem regOk_select (h : regOk ops A T = true) : Region.noSelect ops = true := by
  unfold regOk at h
  simp only [Bool.and_eq_true] at h
  exact h.1
theorem regOk_look (h : regOk ops A T = true) {i j : Nat} {o : Oper} (ho : ops[i]? = some o) (hij : i ≠ j) (h1 : nedB A i j = false) (h2 : ancB T j i = false) : ∀ d, dstOf ops j = some d → d ∉ o.looksAt ops := by
  intro d hd
  have hi : i < ops.size := (Array.getElem?_eq_some_iff.1 ho).1
  have hj : j < ops.size := by
    unfold dstOf at hd
    rcases hc : ops[j]? with _ | oj
    · rw [hc] at hd; cases hd
    · exact (Array.getElem?_eq_some_iff.1 hc).1
  unfold regOk at h
  simp only [Bool.and_eq_true, List.all_eq_true, List.mem_range] at h
  have hh := h.2 i hi
  rw [ho] at hh
  simp only [List.all_eq_true, List.mem_range, Bool.and_eq_true, Bool.or_eq_true] at hh
  have := (hh.2 j hj).1
  rw [hd, h1, h2] at this
  simp [hij] at this
  exact this
theorem regOk_dst (h : regOk ops A T = true) (i j : Nat) (d : Tmp) (hij : i ≠ j) (hi' : dstOf ops i = some d) : dstOf ops j ≠ some d := by
  intro hd
  have hi : i < ops.size := by
    unfold dstOf at hi'
    rcases hc : ops[i]? with _ | oj
    · rw [hc] at hi'; cases hi'
    · exact (Array.getElem?_eq_some_iff.1 hc).1
  have hj : j < ops.size := by
    unfold dstOf at hd
    rcases hc : ops[j]? with _ | oj
    · rw [hc] at hd; cases hd
    · exact (Array.getElem?_eq_some_iff.1 hc).1
  obtain ⟨o, ho⟩ : ∃ o, ops[i]? = some o := ⟨ops[i], Array.getElem?_eq_getElem hi⟩
  unfold regOk at h
  simp only [Bool.and_eq_true, List.all_eq_true, List.mem_range] at h
  have hh := h.2 i hi
  rw [ho] at hh
  simp only [List.all_eq_true, List.mem_range, Bool.and_eq_true, Bool.or_eq_true] at hh
  have := (hh.2 j hj).2
  have hod : o.dst = some d := by simpa [dstOf, ho] using hi'
  rw [hd] at this
  simp [hij, hod] at this

/-- the state behind the listed operations -/
def Held (ops : Array Oper) (I : Nat → Value → World → Prop) (a0 : Act) (w0 : World) (listed : Array Bool) (a : Act) (w : World) : Prop :=
  listed.size = ops.size ∧ Closed ops listed ∧ Below w0.heap.size w0 w ∧ ∃ vs : Nat → Value, a = putL ops vs ((List.range ops.size).filter fun j => listed.getD j false) a0 ∧ ∀ j, listed.getD j false = true → I j (vs j) w

theorem step_exec {o : Oper} {i : Nat} {a F : Act} {w : World} {K : Act → World → Prop} (hx : execOp a.eval o = execOp F.eval o) (hw : Region.wanted o (yielded ops a.tmps) = Region.wanted o (yielded ops F.tmps))
    (hput : ∀ u v, F.put o.dst u = F.put o.dst v → a.put o.dst u = a.put o.dst v)
    (hK : ∀ v w', I i v w' → Below w.heap.size w w' → K (a.put o.dst v) w')
    (h : wpList P ops (StepQ I i o.dst F w) [o] F w) : if Region.wanted o (yielded ops a.tmps) then o.wp P a w K Q ∨ (o.asks P a w ∧ LetsOut Q) else K (a.put o.dst undef) w := by
  have key : ∀ u w', StepQ I i o.dst F w .normal (F.put o.dst u) w' → K (a.put o.dst u) w' := by
    rintro u w' ⟨v, e, hI, hb⟩
    rw [hput u v e]
    exact hK v w' hI hb
  have nol : ¬ LetsOut (StepQ I i o.dst F w) := by
    rintro ⟨_, _, h⟩
    exact h
  unfold wpList at h
  rw [hw]
  split
  · rename_i hwn
    rw [if_pos hwn] at h
    left
    replace h := h.resolve_right fun x => nol x.2
    unfold Oper.wp at *
    rw [hx]
    generalize (execOp F.eval o).run P w = r at *
    cases r with
    | ok n w' =>
      cases n <;> simp only [Oper.upon, wpList] at h ⊢
      case value u => exact key u w' h
      case skip => exact key undef w' h
      case defer d =>
        exfalso
        obtain ⟨v, e, _⟩ := h
        have := congrArg Act.defers e
        have hd : ∀ (x : Act) (u : Value), (x.put o.dst u).defers = x.defers := fun x u => by cases o.dst <;> rfl
        rw [hd, hd] at this
        have := congrArg List.length this
        simp at this
      case enter f args =>
        refine Calls.mono h fun e w'' he => ?_
        cases e with
        | returned u => exact key u w'' he
        | panicked c => exact absurd he (by simp [StepQ])
        | outgrown => exact absurd he nol
      case row row args => exact Rows.mono h fun u w'' he => key u w'' he
    | halt x w' =>
      cases x <;> simp only [Oper.upon] at h ⊢
      case panic u => exact absurd h (by simp [StepQ])
  · rename_i hwn
    rw [if_neg hwn] at h
    exact key undef w h

theorem regOk_after (h : regOk ops A T = true) {i : Nat} {o : Oper} (ho : ops[i]? = some o) : ∀ e ∈ o.after, Region.binds .any e = true → e.on < i := by
  have hi : i < ops.size := (Array.getElem?_eq_some_iff.1 ho).1
  unfold regOk at h
  simp only [Bool.and_eq_true, List.all_eq_true, List.mem_range] at h
  have hh := h.2 i hi
  rw [ho] at hh
  simp only [Bool.and_eq_true] at hh
  intro e he hb
  have := Array.all_eq_true.1 hh.1.1.1.2
  obtain ⟨k, hk, rfl⟩ := Array.mem_iff_getElem.1 he
  have := this k hk
  rw [hb] at this
  simpa using this
theorem regOk_ned (h : regOk ops A T = true) {i : Nat} {o : Oper} (ho : ops[i]? = some o) : (List.range ops.size).filter (nedB A i) = ancL A i ∧ ∀ j ∈ ancL A i, ancB T i j = true := by
  have hi : i < ops.size := (Array.getElem?_eq_some_iff.1 ho).1
  unfold regOk at h
  simp only [Bool.and_eq_true, List.all_eq_true, List.mem_range] at h
  have hh := h.2 i hi
  rw [ho] at hh
  simp only [Bool.and_eq_true, beq_iff_eq, List.all_eq_true] at hh
  exact ⟨hh.1.1.2, hh.1.2⟩
theorem all_listed (hok : regOk ops A T = true) {listed : Array Bool} (hs : listed.size = ops.size) (hr : Region.ready .any ops listed = []) : ∀ j, j < ops.size → listed.getD j false = true := by
  intro j
  induction j using Nat.strongRecOn with
  | ind j ih =>
    intro hj
    by_cases hl : listed.getD j false = true
    · exact hl
    · exfalso
      have ho : ops[j]? = some ops[j] := Array.getElem?_eq_getElem hj
      have : j ∈ Region.ready .any ops listed := mem_ready.2 ⟨by
        have hj' : j < listed.size := by omega
        simp [hj'] at hl ⊢
        exact hl, _, ho, fun e he hb => by
          have := regOk_after hok ho e he hb
          exact ih _ this (by omega)⟩
      rw [hr] at this
      cases this

theorem held_step {a0 : Act} {w0 : World} (hok : regOk ops A T = true) (hmono : ∀ i v w w', Below w.heap.size w w' → I i v w → I i v w')
    {listed : Array Bool} {a : Act} {w : World} (hH : Held ops I a0 w0 listed a w) {i : Nat} (hi : i ∈ Region.ready .any ops listed)
    (hstep : onL ops I w (ancL A i) a0 (fun a => stepAt P ops I i a w)) {K : Act → World → Prop} (hK : ∀ a' w', Held ops I a0 w0 (listed.setIfInBounds i true) a' w' → K a' w') : wpOp P ops Q i K a w := by
  obtain ⟨h0, o, ho, haft⟩ := mem_ready.1 hi
  have hin : i < ops.size := (Array.getElem?_eq_some_iff.1 ho).1
  obtain ⟨hs, hc, hb, vs, ha, hI⟩ := hH
  have hil : i < listed.size := by omega
  have h0' : listed.getD i false = false := by simpa [hil] using h0
  have hsel : ∀ cs b, o.op ≠ .select cs b := fun cs b => Region.noSelect_spec (regOk_select hok) i o cs b ho
  have hdst := regOk_dst hok
  -- what comes before i is listed
  have hlt : ∀ i o, ops[i]? = some o → ∀ e ∈ o.after, Region.binds .any e = true → e.on < i := fun i o ho => regOk_after hok ho
  have hanc : ∀ j, ancB T i j = true → listed.getD j false = true := fun j h => anc_listed hok hc i j ho (fun e he hbd => ⟨haft e he hbd, by have := hlt i o ho e he hbd; omega⟩) hlt h
  obtain ⟨hned, hnea⟩ := regOk_ned hok ho
  have hnedb : ∀ j, nedB A i j = true → listed.getD j false = true := fun j h => hanc j (hnea j (by simpa [nedB, ancL] using h))
  have hnot : ∀ j, listed.getD j false = true → ancB T j i = false := fun j hj => by
    cases hcase : ancB T j i
    · rfl
    · have hjl : j < listed.size := by
        rcases Nat.lt_or_ge j listed.size with h' | h'
        · exact h'
        · simp [Array.getElem?_eq_none h'] at hj
      have ho' : ops[j]? = some ops[j] := Array.getElem?_eq_getElem (by omega)
      have := anc_listed hok hc j i ho' (fun e he hbd => ⟨hc j _ hj ho' e he hbd, by have := hlt j _ ho' e he hbd; omega⟩) hlt hcase
      rw [h0'] at this; cases this
  obtain ⟨F, hF⟩ : ∃ F, F = putL ops vs (ancL A i) a0 := ⟨_, rfl⟩
  obtain ⟨L, hL⟩ : ∃ L, L = (List.range ops.size).filter fun j => listed.getD j false := ⟨_, rfl⟩
  obtain ⟨R, hR⟩ : ∃ R, R = L.filter fun j => !nedB A i j := ⟨_, rfl⟩
  have hLa : L.filter (nedB A i) = ancL A i := by
    rw [hL, List.filter_filter, ← hned]
    apply List.filter_congr
    intro j _
    cases hcase : nedB A i j
    · rfl
    · rw [hnedb j hcase]; rfl
  have hLm : ∀ j ∈ L, listed.getD j false = true := fun j hj => by rw [hL] at hj; exact (List.mem_filter.1 hj).2
  have hperm : (ancL A i ++ R).Perm L := by rw [← hLa, hR]; exact List.filter_append_perm _ _
  have haF : a = putL ops vs R F := by rw [ha, hF, ← putL_append, ← hL]; exact (putL_perm hdst hperm a0).symm
  have hRm : ∀ j ∈ R, listed.getD j false = true ∧ nedB A i j = false := fun j hj => by
    rw [hR] at hj
    obtain ⟨h1, h2⟩ := List.mem_filter.1 hj
    exact ⟨hLm j h1, by simpa using h2⟩
  have hne : ∀ j, listed.getD j false = true → i ≠ j := fun j hj e => by subst e; rw [h0'] at hj; cases hj
  have hlook : ∀ j ∈ R, ∀ d, dstOf ops j = some d → d ∉ o.looksAt ops := fun j hj => regOk_look hok ho (hne j (hRm j hj).1) (hRm j hj).2 (hnot j (hRm j hj).1)
  obtain ⟨hx, hw⟩ := execOp_putL (ops := ops) o hsel (vs := vs) R hlook F
  rw [← haF] at hx hw
  have hod : o.dst = dstOf ops i := by simp [dstOf, ho]
  have hputR : ∀ v, a.put o.dst v = putL ops vs R (F.put o.dst v) := fun v => by
    rw [haF]
    exact putL_put R (fun j hj e he => by
      rw [hod]
      intro he2
      exact hdst i j e (hne j (hRm j hj).1) he2 he) F
  have hst := onL_put (vs := vs) (ancL A i) a0 hstep (fun j hj => hI j (hanc j (hnea j hj)))
  rw [← hF] at hst
  unfold stepAt at hst
  rw [ho] at hst
  simp only at hst
  unfold wpOp
  rw [ho]
  simp only
  refine step_exec hx hw (fun u v e => by rw [hputR, hputR, e]) (fun v w' hIv hbw => ?_) hst
  refine hK _ _ ⟨by simpa using hs, ?_, hb.trans (hbw.mono hb.size), fun j => if j = i then v else vs j, ?_, ?_⟩
  · intro j o' hj ho' e he hbd
    by_cases hji : j = i
    · subst hji
      rw [ho] at ho'; cases ho'
      exact getD_set_true (haft e he hbd)
    · have hji' : i ≠ j := fun e => hji e.symm
      rw [getD_set_ne false hji'] at hj
      exact getD_set_true (hc j o' hj ho' e he hbd)
  · have hiL : i ∉ L := fun h => by have := hLm i h; rw [h0'] at this; cases this
    have e1 : a.put o.dst v = putL ops (fun j => if j = i then v else vs j) (L ++ [i]) a0 := by
      rw [putL_append, ha, ← hL, putL_congr (us := vs) (l := L) (fun j hj => if_neg (fun e : j = i => hiL (e ▸ hj)))]
      show _ = (putL ops vs L a0).put (dstOf ops i) (if i = i then v else vs i)
      rw [if_pos rfl, hod]
    rw [e1]
    refine putL_perm hdst ?_ a0
    refine (List.perm_ext_iff_of_nodup ?_ ?_).2 fun j => ?_
    · rw [List.nodup_append]
      refine ⟨by rw [hL]; exact List.Pairwise.filter _ List.nodup_range, by simp, ?_⟩
      intro x hx y hy e
      simp at hy
      subst hy e
      exact hiL hx
    · exact List.Pairwise.filter _ List.nodup_range
    · simp only [List.mem_append, List.mem_singleton, hL, List.mem_filter, List.mem_range]
      by_cases hji : j = i
      · subst hji; simp [hin, hil]
      · have hji' : i ≠ j := fun e => hji e.symm
        rw [getD_set_ne false hji']; simp [hji]
  · intro j hj
    by_cases hji : j = i
    · subst hji; simpa using hIv
    · have hji' : i ≠ j := fun e => hji e.symm
      rw [getD_set_ne false hji'] at hj
      simp only [if_neg hji]
      exact hmono j _ _ _ hbw (hI j hj)

theorem count_less {n i : Nat} (hin : i < n) {listed : Array Bool} (hil : i < listed.size) (h0' : listed.getD i false = false) : ((List.range n).filter fun j => !(listed.setIfInBounds i true).getD j false).length < ((List.range n).filter fun j => !listed.getD j false).length := by
  have hsub : ((List.range n).filter fun j => !(listed.setIfInBounds i true).getD j false) = (((List.range n).filter fun j => !listed.getD j false).filter fun j => j != i) := by
    rw [List.filter_filter]
    apply List.filter_congr
    intro j _
    by_cases hji : j = i
    · subst hji; simp [hil]
    · have hji' : i ≠ j := fun e => hji e.symm
      rw [getD_set_ne false hji']; simp [hji]
  rw [hsub]
  have hmem : i ∈ (List.range n).filter fun j => !listed.getD j false := List.mem_filter.2 ⟨List.mem_range.2 hin, by rw [h0']; rfl⟩
  refine Nat.lt_of_le_of_ne (List.length_filter_le _ _) fun e => ?_
  have := List.length_filter_eq_length_iff.1 e i hmem
  simp at this
theorem held_run {a0 : Act} {w0 : World} (hok : regOk ops A T = true) (hmono : ∀ i v w w', Below w.heap.size w w' → I i v w → I i v w')
    (hstep : ∀ i, i < ops.size → ∀ w, Below w0.heap.size w0 w → onL ops I w (ancL A i) a0 (fun a => stepAt P ops I i a w))
    (hend : ∀ w, Below w0.heap.size w0 w → onL ops I w (List.range ops.size) a0 (fun a => Q .normal a w)) :
    ∀ (fuel : Nat) (listed : Array Bool) (a : Act) (w : World), ((List.range ops.size).filter fun j => !listed.getD j false).length ≤ fuel → Held ops I a0 w0 listed a w → wpAny P .any ops Q fuel listed a w := by
  intro fuel
  have fin : ∀ (listed : Array Bool) (a : Act) (w : World), (∀ j, j < ops.size → listed.getD j false = true) → Held ops I a0 w0 listed a w → Q .normal a w := by
    rintro listed a w hall ⟨hs, hc, hb, vs, rfl, hI⟩
    have e : ((List.range ops.size).filter fun j => listed.getD j false) = List.range ops.size := List.filter_eq_self.2 fun j hj => hall j (List.mem_range.1 hj)
    rw [e]
    exact onL_put _ _ (hend w hb) fun j hj => hI j (hall j (List.mem_range.1 hj))
  induction fuel with
  | zero =>
    intro listed a w hf hH
    have hall : ∀ j, j < ops.size → listed.getD j false = true := fun j hj => by
      have h0 : ((List.range ops.size).filter fun j => !listed.getD j false) = [] := List.length_eq_zero_iff.1 (by omega)
      have := List.filter_eq_nil_iff.1 h0 j (List.mem_range.2 hj)
      simpa using this
    refine ⟨?_, fin listed a w hall hH⟩
    apply List.eq_nil_iff_forall_not_mem.2
    intro j hj
    obtain ⟨h0, o, ho, _⟩ := mem_ready.1 hj
    have hjl : j < ops.size := (Array.getElem?_eq_some_iff.1 ho).1
    have := hall j hjl
    have hs := hH.1
    have hj' : j < listed.size := by omega
    simp [hj'] at h0 this
    rw [h0] at this; cases this
  | succ fuel ih =>
    intro listed a w hf hH
    refine ⟨fun hr => fin listed a w (all_listed hok hH.1 hr) hH, fun i hi => ?_⟩
    refine held_step hok hmono hH hi (hstep i (by obtain ⟨_, o, ho, _⟩ := mem_ready.1 hi; exact (Array.getElem?_eq_some_iff.1 ho).1) w hH.2.2.1) fun a' w' hH' => ih _ _ _ ?_ hH'
    obtain ⟨h0, o, ho, -⟩ := mem_ready.1 hi
    have hin : i < ops.size := (Array.getElem?_eq_some_iff.1 ho).1
    have hil : i < listed.size := by rw [hH.1]; exact hin
    have := count_less hin hil (by simpa [hil] using h0)
    omega

theorem rep_false (n j : Nat) : (Array.replicate n false).getD j false = false := by
  rw [Array.getD_eq_getD_getElem?, Array.getElem?_replicate]
  split <;> rfl
/-- A REGION THAT DRAWS: each operation alone, then what stands behind them all. -/
theorem wp_region_inv {id : Nat} {a0 : Act} {w0 : World} (I : Nat → Value → World → Prop) (hm : P.follows .mixedOrders = true) (hok : regOk ops A T = true) (hmono : ∀ i v w w', Below w.heap.size w w' → I i v w → I i v w')
    (hstep : ∀ i, i < ops.size → ∀ w, Below w0.heap.size w0 w → onL ops I w (ancL A i) a0 (fun a => stepAt P ops I i a w))
    (hend : ∀ w, Below w0.heap.size w0 w → onL ops I w (List.range ops.size) a0 (fun a => Q .normal a w)) : (Code.region id ops true).wp P Q a0 w0 := by
  refine wp_region_any hm (held_run hok hmono hstep hend _ _ _ _ ?_ ⟨by simp, ?_, ?_, fun _ => undef, ?_, ?_⟩)
  · exact Nat.le_trans (List.length_filter_le _ _) (by simp)
  · intro i o hi
    rw [rep_false] at hi; cases hi
  · exact Below.drew (Below.refl _ _)
  · have e : ((List.range ops.size).filter fun j => (Array.replicate ops.size false).getD j false) = [] := List.filter_eq_nil_iff.2 fun j _ => by rw [rep_false]; exact Bool.false_ne_true
    rw [e]; rfl
  · intro j hj
    rw [rep_false] at hj; cases hj

/-- a guarded operation that is wanted, as an unguarded one -/
theorem wpList_unguard {o : Oper} {rest : List Oper} {a : Act} {w : World} (hw : Region.wanted o (yielded ops a.tmps) = true) (h : wpList P ops Q ({ o with guard := none } :: rest) a w) : wpList P ops Q (o :: rest) a w := by
  unfold wpList at h ⊢
  rw [if_pos hw]
  have hw2 : Region.wanted { o with guard := none } (yielded ops a.tmps) = true := rfl
  rw [if_pos hw2] at h
  have e : execOp a.eval { o with guard := none } = execOp a.eval o := by
    obtain ⟨dst, op, type, pos, after, guard⟩ := o
    cases op <;> rfl
  unfold Oper.asks Oper.wp at *
  rw [e] at h
  exact h
/-- what a predicate of a value says later worlds keep -/
def Kept (p : Value → World → Prop) : Prop := ∀ v w w', Below w.heap.size w w' → p v w → p v w'
def Is (x : Value) : Value → World → Prop := fun v _ => v = x
def RowOf (cs : Array Value) (t : TypeId) (n c : Nat) : Value → World → Prop := fun v w => ∃ g, v = .slice (some ⟨g, 0, none⟩) n c ∧ w.heap[g]? = some (.cells cs t (0, 0))
def BoxOf (o : Obj) : Value → World → Prop := fun v w => ∃ g, v = .pointer (some ⟨g, 0, none⟩) ∧ w.heap[g]? = some o
theorem Is.kept (x : Value) : Kept (Is x) := fun _ _ _ _ h => h
theorem block_keep {w w' : World} {g : Nat} {o : Obj} (hb : Below w.heap.size w w') (h : w.heap[g]? = some o) : w'.heap[g]? = some o := (hb.block g (Array.getElem?_eq_some_iff.1 h).1).trans h
theorem RowOf.kept (cs : Array Value) (t : TypeId) (n c : Nat) : Kept (RowOf cs t n c) := fun _ _ _ hb ⟨g, e, h⟩ => ⟨g, e, block_keep hb h⟩
theorem BoxOf.kept (o : Obj) : Kept (BoxOf o) := fun _ _ _ hb ⟨g, e, h⟩ => ⟨g, e, block_keep hb h⟩
def atL : List (Value → World → Prop) → Nat → Value → World → Prop
  | [], _ => fun _ _ => True
  | p :: _, 0 => p
  | _ :: l, i + 1 => atL l i
/-- the values of the operations of a list, each with where it is laid -/
def onP (I : Nat → Value → World → Prop) (w : World) : List (Nat × Option Tmp) → Act → (Act → Prop) → Prop
  | [], a, k => k a
  | (j, d) :: l, a, k => ∀ v, I j v w → onP I w l (a.put d v) k
theorem onP_onL {w : World} {k : Act → Prop} : ∀ (l : List (Nat × Option Tmp)) (a : Act), (l.all fun p => p.2 == dstOf ops p.1) = true → onP I w l a k → onL ops I w (l.map (·.1)) a k
  | [], _, _, h => h
  | (j, d) :: l, a, hd, h => fun v hv => by
    simp only [List.all_cons, Bool.and_eq_true, beq_iff_eq] at hd
    have := onP_onL l (a.put d v) hd.2 (h v hv)
    rw [hd.1] at this
    exact this
def stepsL (P : Program) (ops : Array Oper) (I : Nat → Value → World → Prop) (a0 : Act) (w0 : World) : Nat → List Oper → List (List (Nat × Option Tmp)) → Prop
  | i, o :: l, an :: A => (∀ w, Below w0.heap.size w0 w → onP I w an a0 (fun a => wpList P ops (StepQ I i o.dst a w) [o] a w)) ∧ stepsL P ops I a0 w0 (i + 1) l A
  | _, [], _ => True
  | _, _ :: _, [] => False
theorem stepsL_at {a0 : Act} {w0 : World} : ∀ (l : List Oper) (A : List (List (Nat × Option Tmp))) (i : Nat), stepsL P ops I a0 w0 i l A → ∀ k o, l[k]? = some o → ∃ an, A[k]? = some an ∧ ∀ w, Below w0.heap.size w0 w → onP I w an a0 (fun a => wpList P ops (StepQ I (i + k) o.dst a w) [o] a w)
  | [], _, _, _, k, o, h => by simp at h
  | _ :: _, [], _, h, _, _, _ => h.elim
  | o :: l, an :: A, i, h, 0, o', ho => by
    simp at ho
    subst ho
    exact ⟨an, rfl, h.1⟩
  | o :: l, an :: A, i, h, k + 1, o', ho => by
    obtain ⟨an', h1, h2⟩ := stepsL_at l A (i + 1) h.2 k o' (by simpa using ho)
    exact ⟨an', by simpa using h1, by rw [show i + (k + 1) = i + 1 + k by omega]; exact h2⟩
def keptL : List (Value → World → Prop) → Prop
  | [] => True
  | p :: l => Kept p ∧ keptL l
theorem keptL_at : ∀ (L : List (Value → World → Prop)), keptL L → ∀ i, Kept (atL L i)
  | [], _, i => fun _ _ _ _ _ => by unfold atL; trivial
  | p :: l, h, 0 => h.1
  | p :: l, h, i + 1 => keptL_at l h.2 i
/-- a region that draws, by lists: the predicates of its operations, what comes before each -/
theorem wp_region_by {id : Nat} {a0 : Act} {w0 : World} (L : List (Value → World → Prop)) (A : List (List (Nat × Option Tmp))) (E : List (Nat × Option Tmp)) (T : List Nat) (hm : P.follows .mixedOrders = true) (hok : regOk ops (A.map (·.map (·.1))) T = true)
    (hd : (A.all fun l => l.all fun p => p.2 == dstOf ops p.1) = true) (hE : (E.all (fun p => p.2 == dstOf ops p.1) && E.map (·.1) == List.range ops.size) = true)
    (hk : keptL L) (hstep : stepsL P ops (atL L) a0 w0 0 ops.toList A)
    (hend : ∀ w, Below w0.heap.size w0 w → onP (atL L) w E a0 (fun a => Q .normal a w)) : (Code.region id ops true).wp P Q a0 w0 := by
  simp only [Bool.and_eq_true, beq_iff_eq] at hE
  have hmono : ∀ i v w w', Below w.heap.size w w' → atL L i v w → atL L i v w' := fun i => keptL_at L hk i
  have hend' : ∀ w, Below w0.heap.size w0 w → onL ops (atL L) w (List.range ops.size) a0 (fun a => Q .normal a w) := fun w hw => by
    have h := onP_onL (ops := ops) (I := atL L) (w := w) (k := fun a => Q .normal a w) E a0 hE.1 (hend w hw)
    rw [hE.2] at h
    exact h
  have hst : ∀ i, i < ops.size → ∀ w, Below w0.heap.size w0 w → onL ops (atL L) w (ancL (A.map (·.map (·.1))) i) a0 (fun a => stepAt P ops (atL L) i a w) := fun i hi w hw => by
    have ho : ops[i]? = some ops[i] := Array.getElem?_eq_getElem hi
    obtain ⟨an, h1, h2⟩ := stepsL_at ops.toList A 0 hstep i ops[i] (by simp)
    have e : ancL (A.map (·.map (·.1))) i = an.map (·.1) := by
      unfold ancL
      simp [h1]
    have h3 := h2 w hw
    rw [Nat.zero_add] at h3
    rw [e]
    have h4 := onP_onL (ops := ops) an a0 (List.all_eq_true.1 hd an (List.mem_of_getElem? h1)) h3
    unfold stepAt
    rw [ho]
    exact h4
  exact wp_region_inv (atL L) hm hok hmono hst hend'
end
end Go.Proofs.Ytnbppbnjkmopeaa
namespace Go.Proofs.Ytnbppbnjkmopeaa
open Go.RowKit

def tailOk (ops : Array Oper) (T : List Nat) (m : Nat) : Bool := decide (m ≤ ops.size) && (List.range ops.size).all fun i => decide (i < m) || (List.range i).all fun j => ancB T i j

section
variable {P : Program} {ops : Array Oper} {Q : Exit → Act → World → Prop} {I : Nat → Value → World → Prop} {A : List (List Nat)} {T : List Nat} {m : Nat}

theorem tailOk_le (h : tailOk ops T m = true) : m ≤ ops.size := by
  unfold tailOk at h
  simp only [Bool.and_eq_true, decide_eq_true_eq] at h
  exact h.1
theorem tailOk_anc (h : tailOk ops T m = true) {i j : Nat} (hi : i < ops.size) (hm : m ≤ i) (hj : j < i) : ancB T i j = true := by
  unfold tailOk at h
  simp only [Bool.and_eq_true, List.all_eq_true, List.mem_range, Bool.or_eq_true, decide_eq_true_eq] at h
  rcases h.2 i hi with h1 | h1
  · omega
  · exact h1 j hj
theorem ready_anc (hok : regOk ops A T = true) {listed : Array Bool} (hc : Closed ops listed) {i j : Nat} (hi : i ∈ Region.ready .any ops listed) (h : ancB T i j = true) : listed.getD j false = true := by
  obtain ⟨h0, o, ho, haft⟩ := mem_ready.1 hi
  have hin : i < ops.size := (Array.getElem?_eq_some_iff.1 ho).1
  exact anc_listed hok hc i j ho (fun e he hbd => ⟨haft e he hbd, by have := regOk_after hok ho e he hbd; omega⟩) (fun i o ho => regOk_after hok ho) h
theorem tail_run (hok : regOk ops A T = true) (ht : tailOk ops T m = true) : ∀ (l : List Oper) (k fuel : Nat) (listed : Array Bool) (a : Act) (w : World), ops.toList.drop k = l → m ≤ k → listed.size = ops.size → Closed ops listed →
    (∀ j, j < ops.size → listed.getD j false = decide (j < k)) → l.length ≤ fuel → wpList P ops Q l a w → wpAny P .any ops Q fuel listed a w
  | [], k, fuel, listed, a, w, hl, hm, hs, hc, hall, hf, h => by
    have hk : ops.size ≤ k := by simpa using List.drop_eq_nil_iff.1 hl
    have hr : Region.ready .any ops listed = [] := by
      apply List.eq_nil_iff_forall_not_mem.2
      intro j hj
      obtain ⟨h0, o, ho, _⟩ := mem_ready.1 hj
      have hjl : j < ops.size := (Array.getElem?_eq_some_iff.1 ho).1
      have h1 := hall j hjl
      rw [decide_eq_true (by omega)] at h1
      have hj' : j < listed.size := by omega
      simp [hj'] at h0 h1
      rw [h0] at h1; cases h1
    cases fuel with
    | zero => exact ⟨hr, h⟩
    | succ f => exact ⟨fun _ => h, by rw [hr]; simp⟩
  | o :: l, k, 0, listed, a, w, hl, hm, hs, hc, hall, hf, h => by simp at hf
  | o :: l, k, f + 1, listed, a, w, hl, hm, hs, hc, hall, hf, h => by
    have hkl : k < ops.size := by
      rcases Nat.lt_or_ge k ops.size with h' | h'
      · exact h'
      · rw [List.drop_eq_nil_iff.2 (by simpa using h')] at hl; cases hl
    have ho : ops[k]? = some o := by
      have : (ops.toList.drop k)[0]? = some o := by rw [hl]; rfl
      simpa using this
    have hl' : ops.toList.drop (k + 1) = l := by rw [← List.tail_drop, hl]; rfl
    have hkr : k ∈ Region.ready .any ops listed := mem_ready.2 ⟨by
      have h1 := hall k hkl
      rw [decide_eq_false (by omega)] at h1
      have hj' : k < listed.size := by omega
      simp [hj'] at h1 ⊢
      exact h1, o, ho, fun e he hb => by
        have := regOk_after hok ho e he hb
        rw [hall e.on (by omega), decide_eq_true this]⟩
    refine ⟨fun hr => by (rw [hr] at hkr; cases hkr), fun i hi => ?_⟩
    have hik : i = k := by
      obtain ⟨h0, oi, hoi, _⟩ := mem_ready.1 hi
      have hil : i < ops.size := (Array.getElem?_eq_some_iff.1 hoi).1
      have h1 := hall i hil
      have hj' : i < listed.size := by omega
      have h2 : listed.getD i false = false := by simpa [hj'] using h0
      rw [h2] at h1
      have hge : ¬ i < k := by simpa using h1.symm
      rcases Nat.lt_or_ge k i with hlt | hle
      · have := ready_anc hok hc hi (tailOk_anc ht hil (by omega) hlt)
        rw [hall k hkl, decide_eq_false (by omega)] at this
        cases this
      · omega
    subst hik
    unfold wpList at h
    unfold wpOp
    rw [ho]
    simp only
    have key : ∀ a' w', wpList P ops Q l a' w' → wpAny P .any ops Q f (listed.setIfInBounds i true) a' w' := fun a' w' h' => by
      refine tail_run hok ht l (i + 1) f _ a' w' hl' (by omega) (by simpa using hs) ?_ ?_ (by simpa using hf) h'
      · intro j o' hj ho' e he hbd
        by_cases hji : j = i
        · subst hji
          rw [ho] at ho'; cases ho'
          have := regOk_after hok ho e he hbd
          refine getD_set_true ?_
          rw [hall e.on (by omega), decide_eq_true this]
        · have hji' : i ≠ j := fun e => hji e.symm
          rw [getD_set_ne false hji'] at hj
          exact getD_set_true (hc j o' hj ho' e he hbd)
      · intro j hj
        by_cases hji : j = i
        · subst hji
          have hj' : j < listed.size := by omega
          simp [hj']
        · have hji' : i ≠ j := fun e => hji e.symm
          rw [getD_set_ne false hji', hall j hj]
          have : (j < i) ↔ (j < i + 1) := by omega
          simp [this]
    split
    · rename_i hw
      rw [if_pos hw] at h
      exact h.imp (Oper.wp_mono key) id
    · rename_i hw
      rw [if_neg hw] at h
      exact key _ _ h

theorem held_tail {a0 : Act} {w0 : World} (hok : regOk ops A T = true) (ht : tailOk ops T m = true) (hmono : ∀ i v w w', Below w.heap.size w w' → I i v w → I i v w')
    (hstep : ∀ i, i < m → ∀ w, Below w0.heap.size w0 w → onL ops I w (ancL A i) a0 (fun a => stepAt P ops I i a w))
    (hend : ∀ w, Below w0.heap.size w0 w → onL ops I w (List.range m) a0 (fun a => wpList P ops Q (ops.toList.drop m) a w)) :
    ∀ (fuel : Nat) (listed : Array Bool) (a : Act) (w : World), ((List.range m).filter fun j => !listed.getD j false).length + (ops.size - m) ≤ fuel → (∀ j, m ≤ j → listed.getD j false = false) → Held ops I a0 w0 listed a w → wpAny P .any ops Q fuel listed a w := by
  intro fuel
  have hms := tailOk_le ht
  have fin : ∀ (fuel : Nat) (listed : Array Bool) (a : Act) (w : World), ops.size - m ≤ fuel → (∀ j, m ≤ j → listed.getD j false = false) → (∀ j, j < m → listed.getD j false = true) → Held ops I a0 w0 listed a w → wpAny P .any ops Q fuel listed a w := by
    rintro fuel listed a w hf hno hall ⟨hs, hc, hb, vs, ha, hI⟩
    have e : ((List.range ops.size).filter fun j => listed.getD j false) = List.range m := by
      have e1 : ∀ j, listed.getD j false = decide (j < m) := fun j => by
        by_cases hj : j < m
        · rw [hall j hj, decide_eq_true hj]
        · rw [hno j (by omega), decide_eq_false hj]
      simp only [e1]
      obtain ⟨d, hd⟩ := Nat.exists_eq_add_of_le hms
      rw [hd, List.range_add, List.filter_append, List.filter_eq_self.2 (fun j hj => by simpa using hj), List.filter_eq_nil_iff.2 (fun j hj => by
        obtain ⟨k, _, rfl⟩ := List.mem_map.1 hj
        simp), List.append_nil]
    rw [e] at ha
    have h := onL_put (vs := vs) _ _ (hend w hb) fun j hj => hI j (hall j (List.mem_range.1 hj))
    rw [← ha] at h
    refine tail_run hok ht _ m fuel listed a w rfl (Nat.le_refl _) hs hc (fun j _ => ?_) (by simpa using hf) h
    by_cases hj : j < m
    · rw [hall j hj, decide_eq_true hj]
    · rw [hno j (by omega), decide_eq_false hj]
  induction fuel with
  | zero =>
    intro listed a w hf hno hH
    refine fin 0 listed a w (by omega) hno (fun j hj => ?_) hH
    have h0 : ((List.range m).filter fun j => !listed.getD j false) = [] := List.length_eq_zero_iff.1 (by omega)
    have := List.filter_eq_nil_iff.1 h0 j (List.mem_range.2 hj)
    simpa using this
  | succ fuel ih =>
    intro listed a w hf hno hH
    by_cases hall : ∀ j, j < m → listed.getD j false = true
    · exact fin _ listed a w (by omega) hno hall hH
    · obtain ⟨j0, hj0⟩ := Classical.not_forall.1 hall
      obtain ⟨hj0m, hj0l⟩ := Classical.not_imp.1 hj0
      refine ⟨fun hr => absurd (all_listed hok hH.1 hr j0 (by omega)) hj0l, fun i hi => ?_⟩
      obtain ⟨h0, o, ho, -⟩ := mem_ready.1 hi
      have hin : i < ops.size := (Array.getElem?_eq_some_iff.1 ho).1
      have him : i < m := by
        rcases Nat.lt_or_ge i m with h' | h'
        · exact h'
        · exact absurd (ready_anc hok hH.2.1 hi (tailOk_anc ht hin h' (by omega))) hj0l
      have hil : i < listed.size := by rw [hH.1]; exact hin
      refine held_step hok hmono hH hi (hstep i him w hH.2.2.1) fun a' w' hH' => ih _ _ _ ?_ (fun j hj => ?_) hH'
      · have := count_less him hil (by simpa [hil] using h0)
        omega
      · rw [getD_set_ne false (by omega)]; exact hno j hj

/-- a region that draws: the predicates of its head's operations (number m begins the tail), then the tail as it stands -/
theorem wp_region_tail {id : Nat} {a0 : Act} {w0 : World} (m : Nat) (L : List (Value → World → Prop)) (A : List (List (Nat × Option Tmp))) (E : List (Nat × Option Tmp)) (T : List Nat) (hm : P.follows .mixedOrders = true) (hok : regOk ops (A.map (·.map (·.1))) T = true) (ht : tailOk ops T m = true)
    (hd : (A.all fun l => l.all fun p => p.2 == dstOf ops p.1) = true) (hE : (E.all (fun p => p.2 == dstOf ops p.1) && E.map (·.1) == List.range m) = true)
    (hk : keptL L) (hstep : stepsL P ops (atL L) a0 w0 0 (ops.toList.take m) A)
    (hend : ∀ w, Below w0.heap.size w0 w → onP (atL L) w E a0 (fun a => wpList P ops Q (ops.toList.drop m) a w)) : (Code.region id ops true).wp P Q a0 w0 := by
  simp only [Bool.and_eq_true, beq_iff_eq] at hE
  have hmono : ∀ i v w w', Below w.heap.size w w' → atL L i v w → atL L i v w' := fun i => keptL_at L hk i
  have hend' : ∀ w, Below w0.heap.size w0 w → onL ops (atL L) w (List.range m) a0 (fun a => wpList P ops Q (ops.toList.drop m) a w) := fun w hw => by
    have h := onP_onL (ops := ops) (I := atL L) (w := w) (k := fun a => wpList P ops Q (ops.toList.drop m) a w) E a0 hE.1 (hend w hw)
    rw [hE.2] at h
    exact h
  have hst : ∀ i, i < m → ∀ w, Below w0.heap.size w0 w → onL ops (atL L) w (ancL (A.map (·.map (·.1))) i) a0 (fun a => stepAt P ops (atL L) i a w) := fun i hi w hw => by
    have hi' : i < ops.size := Nat.lt_of_lt_of_le hi (tailOk_le ht)
    have ho : ops[i]? = some ops[i] := Array.getElem?_eq_getElem hi'
    obtain ⟨an, h1, h2⟩ := stepsL_at (ops.toList.take m) A 0 hstep i ops[i] (by rw [List.getElem?_take, if_pos hi]; simp)
    have e : ancL (A.map (·.map (·.1))) i = an.map (·.1) := by
      unfold ancL
      simp [h1]
    have h3 := h2 w hw
    rw [Nat.zero_add] at h3
    rw [e]
    have h4 := onP_onL (ops := ops) an a0 (List.all_eq_true.1 hd an (List.mem_of_getElem? h1)) h3
    unfold stepAt
    rw [ho]
    exact h4
  refine wp_region_any hm (held_tail hok ht hmono hst hend' _ _ _ _ ?_ (fun j _ => rep_false _ _) ⟨by simp, ?_, ?_, fun _ => undef, ?_, ?_⟩)
  · have h1 := List.length_filter_le (fun j => !(Array.replicate ops.size false).getD j false) (List.range m)
    have := tailOk_le ht
    rw [List.length_range] at h1
    omega
  · intro i o hi
    rw [rep_false] at hi; cases hi
  · exact Below.drew (Below.refl _ _)
  · have e : ((List.range ops.size).filter fun j => (Array.replicate ops.size false).getD j false) = [] := List.filter_eq_nil_iff.2 fun j _ => by rw [rep_false]; exact Bool.false_ne_true
    rw [e]; rfl
  · intro j hj
    rw [rep_false] at hj; cases hj
end
end Go.Proofs.Ytnbppbnjkmopeaa
namespace Go.Proofs.Ytnbppbnjkmopeaa
open Go.RowKit

def blkOf : Value → Option Nat
  | .pointer (some a) => some a.block
  | .slice (some a) _ _ => some a.block
  | _ => none
/-- the value's block is new -/
def New (v : Value) (w w' : World) : Prop := ∃ g, blkOf v = some g ∧ w.heap.size ≤ g ∧ g < w'.heap.size
def StepN (N : Nat → Bool) (I : Nat → Value → World → Prop) (i : Nat) (d : Option Tmp) (a : Act) (w : World) : Exit → Act → World → Prop
  | .normal, a', w' => ∃ v, a' = a.put d v ∧ I i v w' ∧ Below w.heap.size w w' ∧ (N i = true → New v w w')
  | _, _, _ => False
def stepAtN (P : Program) (ops : Array Oper) (N : Nat → Bool) (I : Nat → Value → World → Prop) (i : Nat) (a : Act) (w : World) : Prop :=
  match ops[i]? with
  | some o => wpList P ops (StepN N I i o.dst a w) [o] a w
  | none => True
/-- the state behind the listed operations -/
def HeldN (ops : Array Oper) (N : Nat → Bool) (I : Nat → Value → World → Prop) (a0 : Act) (w0 : World) (listed : Array Bool) (a : Act) (w : World) : Prop :=
  listed.size = ops.size ∧ Closed ops listed ∧ Below w0.heap.size w0 w ∧ ∃ vs : Nat → Value, a = putL ops vs ((List.range ops.size).filter fun j => listed.getD j false) a0 ∧ (∀ j, listed.getD j false = true → I j (vs j) w) ∧
    (∀ j, listed.getD j false = true → N j = true → ∃ g, blkOf (vs j) = some g ∧ w0.heap.size ≤ g ∧ g < w.heap.size) ∧
    (∀ j k, listed.getD j false = true → listed.getD k false = true → N j = true → N k = true → j ≠ k → blkOf (vs j) ≠ blkOf (vs k))

section
variable {P : Program} {ops : Array Oper} {Q : Exit → Act → World → Prop} {N : Nat → Bool} {I : Nat → Value → World → Prop} {A : List (List Nat)} {T : List Nat} {m : Nat}

theorem step_execN {o : Oper} {i : Nat} {a F : Act} {w : World} {K : Act → World → Prop} (hx : execOp a.eval o = execOp F.eval o) (hw : Region.wanted o (yielded ops a.tmps) = Region.wanted o (yielded ops F.tmps))
    (hput : ∀ u v, F.put o.dst u = F.put o.dst v → a.put o.dst u = a.put o.dst v)
    (hK : ∀ v w', I i v w' → Below w.heap.size w w' → (N i = true → New v w w') → K (a.put o.dst v) w')
    (h : wpList P ops (StepN N I i o.dst F w) [o] F w) : if Region.wanted o (yielded ops a.tmps) then o.wp P a w K Q ∨ (o.asks P a w ∧ LetsOut Q) else K (a.put o.dst undef) w := by
  have key : ∀ u w', StepN N I i o.dst F w .normal (F.put o.dst u) w' → K (a.put o.dst u) w' := by
    rintro u w' ⟨v, e, hI, hb, hN⟩
    rw [hput u v e]
    exact hK v w' hI hb hN
  have nol : ¬ LetsOut (StepN N I i o.dst F w) := by
    rintro ⟨_, _, h⟩
    exact h
  unfold wpList at h
  rw [hw]
  split
  · rename_i hwn
    rw [if_pos hwn] at h
    left
    replace h := h.resolve_right fun x => nol x.2
    unfold Oper.wp at *
    rw [hx]
    generalize (execOp F.eval o).run P w = r at *
    cases r with
    | ok n w' =>
      cases n <;> simp only [Oper.upon, wpList] at h ⊢
      case value u => exact key u w' h
      case skip => exact key undef w' h
      case defer d =>
        exfalso
        obtain ⟨v, e, _⟩ := h
        have := congrArg Act.defers e
        have hd : ∀ (x : Act) (u : Value), (x.put o.dst u).defers = x.defers := fun x u => by cases o.dst <;> rfl
        rw [hd, hd] at this
        have := congrArg List.length this
        simp at this
      case enter f args =>
        refine Calls.mono h fun e w'' he => ?_
        cases e with
        | returned u => exact key u w'' he
        | panicked c => exact absurd he (by simp [StepN])
        | outgrown => exact absurd he nol
      case row row args => exact Rows.mono h fun u w'' he => key u w'' he
    | halt x w' =>
      cases x <;> simp only [Oper.upon] at h ⊢
      case panic u => exact absurd h (by simp [StepN])
  · rename_i hwn
    rw [if_neg hwn] at h
    exact key undef w h

theorem held_stepN {a0 : Act} {w0 : World} (hok : regOk ops A T = true) (hmono : ∀ i v w w', Below w.heap.size w w' → I i v w → I i v w')
    {listed : Array Bool} {a : Act} {w : World} (hH : HeldN ops N I a0 w0 listed a w) {i : Nat} (hi : i ∈ Region.ready .any ops listed)
    (hstep : onL ops I w (ancL A i) a0 (fun a => stepAtN P ops N I i a w)) {K : Act → World → Prop} (hK : ∀ a' w', HeldN ops N I a0 w0 (listed.setIfInBounds i true) a' w' → K a' w') : wpOp P ops Q i K a w := by
  obtain ⟨h0, o, ho, haft⟩ := mem_ready.1 hi
  have hin : i < ops.size := (Array.getElem?_eq_some_iff.1 ho).1
  obtain ⟨hs, hc, hb, vs, ha, hI, hN1, hN2⟩ := hH
  have hil : i < listed.size := by omega
  have h0' : listed.getD i false = false := by simpa [hil] using h0
  have hsel : ∀ cs b, o.op ≠ .select cs b := fun cs b => Region.noSelect_spec (regOk_select hok) i o cs b ho
  have hdst := regOk_dst hok
  -- what comes before i is listed
  have hlt : ∀ i o, ops[i]? = some o → ∀ e ∈ o.after, Region.binds .any e = true → e.on < i := fun i o ho => regOk_after hok ho
  have hanc : ∀ j, ancB T i j = true → listed.getD j false = true := fun j h => anc_listed hok hc i j ho (fun e he hbd => ⟨haft e he hbd, by have := hlt i o ho e he hbd; omega⟩) hlt h
  obtain ⟨hned, hnea⟩ := regOk_ned hok ho
  have hnedb : ∀ j, nedB A i j = true → listed.getD j false = true := fun j h => hanc j (hnea j (by simpa [nedB, ancL] using h))
  have hnot : ∀ j, listed.getD j false = true → ancB T j i = false := fun j hj => by
    cases hcase : ancB T j i
    · rfl
    · have hjl : j < listed.size := by
        rcases Nat.lt_or_ge j listed.size with h' | h'
        · exact h'
        · simp [Array.getElem?_eq_none h'] at hj
      have ho' : ops[j]? = some ops[j] := Array.getElem?_eq_getElem (by omega)
      have := anc_listed hok hc j i ho' (fun e he hbd => ⟨hc j _ hj ho' e he hbd, by have := hlt j _ ho' e he hbd; omega⟩) hlt hcase
      rw [h0'] at this; cases this
  obtain ⟨F, hF⟩ : ∃ F, F = putL ops vs (ancL A i) a0 := ⟨_, rfl⟩
  obtain ⟨L, hL⟩ : ∃ L, L = (List.range ops.size).filter fun j => listed.getD j false := ⟨_, rfl⟩
  obtain ⟨R, hR⟩ : ∃ R, R = L.filter fun j => !nedB A i j := ⟨_, rfl⟩
  have hLa : L.filter (nedB A i) = ancL A i := by
    rw [hL, List.filter_filter, ← hned]
    apply List.filter_congr
    intro j _
    cases hcase : nedB A i j
    · rfl
    · rw [hnedb j hcase]; rfl
  have hLm : ∀ j ∈ L, listed.getD j false = true := fun j hj => by rw [hL] at hj; exact (List.mem_filter.1 hj).2
  have hperm : (ancL A i ++ R).Perm L := by rw [← hLa, hR]; exact List.filter_append_perm _ _
  have haF : a = putL ops vs R F := by rw [ha, hF, ← putL_append, ← hL]; exact (putL_perm hdst hperm a0).symm
  have hRm : ∀ j ∈ R, listed.getD j false = true ∧ nedB A i j = false := fun j hj => by
    rw [hR] at hj
    obtain ⟨h1, h2⟩ := List.mem_filter.1 hj
    exact ⟨hLm j h1, by simpa using h2⟩
  have hne : ∀ j, listed.getD j false = true → i ≠ j := fun j hj e => by subst e; rw [h0'] at hj; cases hj
  have hlook : ∀ j ∈ R, ∀ d, dstOf ops j = some d → d ∉ o.looksAt ops := fun j hj => regOk_look hok ho (hne j (hRm j hj).1) (hRm j hj).2 (hnot j (hRm j hj).1)
  obtain ⟨hx, hw⟩ := execOp_putL (ops := ops) o hsel (vs := vs) R hlook F
  rw [← haF] at hx hw
  have hod : o.dst = dstOf ops i := by simp [dstOf, ho]
  have hputR : ∀ v, a.put o.dst v = putL ops vs R (F.put o.dst v) := fun v => by
    rw [haF]
    exact putL_put R (fun j hj e he => by
      rw [hod]
      intro he2
      exact hdst i j e (hne j (hRm j hj).1) he2 he) F
  have hst := onL_put (vs := vs) (ancL A i) a0 hstep (fun j hj => hI j (hanc j (hnea j hj)))
  rw [← hF] at hst
  unfold stepAtN at hst
  rw [ho] at hst
  simp only at hst
  unfold wpOp
  rw [ho]
  simp only
  refine step_execN hx hw (fun u v e => by rw [hputR, hputR, e]) (fun v w' hIv hbw hNv => ?_) hst
  refine hK _ _ ⟨by simpa using hs, ?_, hb.trans (hbw.mono hb.size), fun j => if j = i then v else vs j, ?_, ?_, ?_, ?_⟩
  · intro j o' hj ho' e he hbd
    by_cases hji : j = i
    · subst hji
      rw [ho] at ho'; cases ho'
      exact getD_set_true (haft e he hbd)
    · have hji' : i ≠ j := fun e => hji e.symm
      rw [getD_set_ne false hji'] at hj
      exact getD_set_true (hc j o' hj ho' e he hbd)
  · have hiL : i ∉ L := fun h => by have := hLm i h; rw [h0'] at this; cases this
    have e1 : a.put o.dst v = putL ops (fun j => if j = i then v else vs j) (L ++ [i]) a0 := by
      rw [putL_append, ha, ← hL, putL_congr (us := vs) (l := L) (fun j hj => if_neg (fun e : j = i => hiL (e ▸ hj)))]
      show _ = (putL ops vs L a0).put (dstOf ops i) (if i = i then v else vs i)
      rw [if_pos rfl, hod]
    rw [e1]
    refine putL_perm hdst ?_ a0
    refine (List.perm_ext_iff_of_nodup ?_ ?_).2 fun j => ?_
    · rw [List.nodup_append]
      refine ⟨by rw [hL]; exact List.Pairwise.filter _ List.nodup_range, by simp, ?_⟩
      intro x hx y hy e
      simp at hy
      subst hy e
      exact hiL hx
    · exact List.Pairwise.filter _ List.nodup_range
    · simp only [List.mem_append, List.mem_singleton, hL, List.mem_filter, List.mem_range]
      by_cases hji : j = i
      · subst hji; simp [hin, hil]
      · have hji' : i ≠ j := fun e => hji e.symm
        rw [getD_set_ne false hji']; simp [hji]
  · intro j hj
    by_cases hji : j = i
    · subst hji; simpa using hIv
    · have hji' : i ≠ j := fun e => hji e.symm
      rw [getD_set_ne false hji'] at hj
      simp only [if_neg hji]
      exact hmono j _ _ _ hbw (hI j hj)
  · intro j hj hnj
    by_cases hji : j = i
    · subst hji
      obtain ⟨g, h1, h2, h3⟩ := hNv hnj
      exact ⟨g, by simpa using h1, Nat.le_trans hb.size h2, h3⟩
    · have hji' : i ≠ j := fun e => hji e.symm
      rw [getD_set_ne false hji'] at hj
      simp only [if_neg hji]
      obtain ⟨g, h1, h2, h3⟩ := hN1 j hj hnj
      exact ⟨g, h1, h2, Nat.lt_of_lt_of_le h3 hbw.size⟩
  · intro j k hj hk hnj hnk hjk
    by_cases hji : j = i
    · subst hji
      rw [getD_set_ne false hjk] at hk
      have hkj : k ≠ j := fun e => hjk e.symm
      simp only [if_neg hkj, if_pos]
      obtain ⟨g, h1, h2, h3⟩ := hNv hnj
      obtain ⟨g', h1', h2', h3'⟩ := hN1 k hk hnk
      rw [h1, h1']
      intro e
      have := Option.some.inj e
      omega
    · have hji' : i ≠ j := fun e => hji e.symm
      rw [getD_set_ne false hji'] at hj
      by_cases hki : k = i
      · subst hki
        simp only [if_neg hji, if_pos]
        obtain ⟨g, h1, h2, h3⟩ := hNv hnk
        obtain ⟨g', h1', h2', h3'⟩ := hN1 j hj hnj
        rw [h1, h1']
        intro e
        have := Option.some.inj e
        omega
      · have hki' : i ≠ k := fun e => hki e.symm
        rw [getD_set_ne false hki'] at hk
        simp only [if_neg hji, if_neg hki]
        exact hN2 j k hj hk hnj hnk hjk

theorem held_tailN {a0 : Act} {w0 : World} (hok : regOk ops A T = true) (ht : tailOk ops T m = true) (hmono : ∀ i v w w', Below w.heap.size w w' → I i v w → I i v w')
    (hstep : ∀ i, i < m → ∀ w, Below w0.heap.size w0 w → onL ops I w (ancL A i) a0 (fun a => stepAtN P ops N I i a w))
    (hend : ∀ w (vs : Nat → Value), Below w0.heap.size w0 w → (∀ j, j < m → I j (vs j) w) → (∀ j, j < m → N j = true → ∃ g, blkOf (vs j) = some g ∧ w0.heap.size ≤ g ∧ g < w.heap.size) → (∀ j k, j < m → k < m → N j = true → N k = true → j ≠ k → blkOf (vs j) ≠ blkOf (vs k)) → wpList P ops Q (ops.toList.drop m) (putL ops vs (List.range m) a0) w) :
    ∀ (fuel : Nat) (listed : Array Bool) (a : Act) (w : World), ((List.range m).filter fun j => !listed.getD j false).length + (ops.size - m) ≤ fuel → (∀ j, m ≤ j → listed.getD j false = false) → HeldN ops N I a0 w0 listed a w → wpAny P .any ops Q fuel listed a w := by
  intro fuel
  have hms := tailOk_le ht
  have fin : ∀ (fuel : Nat) (listed : Array Bool) (a : Act) (w : World), ops.size - m ≤ fuel → (∀ j, m ≤ j → listed.getD j false = false) → (∀ j, j < m → listed.getD j false = true) → HeldN ops N I a0 w0 listed a w → wpAny P .any ops Q fuel listed a w := by
    rintro fuel listed a w hf hno hall ⟨hs, hc, hb, vs, ha, hI, hN1, hN2⟩
    have e : ((List.range ops.size).filter fun j => listed.getD j false) = List.range m := by
      have e1 : ∀ j, listed.getD j false = decide (j < m) := fun j => by
        by_cases hj : j < m
        · rw [hall j hj, decide_eq_true hj]
        · rw [hno j (by omega), decide_eq_false hj]
      simp only [e1]
      obtain ⟨d, hd⟩ := Nat.exists_eq_add_of_le hms
      rw [hd, List.range_add, List.filter_append, List.filter_eq_self.2 (fun j hj => by simpa using hj), List.filter_eq_nil_iff.2 (fun j hj => by
        obtain ⟨k, _, rfl⟩ := List.mem_map.1 hj
        simp), List.append_nil]
    rw [e] at ha
    have h := hend w vs hb (fun j hj => hI j (hall j hj)) (fun j hj => hN1 j (hall j hj)) (fun j k hj hk => hN2 j k (hall j hj) (hall k hk))
    rw [← ha] at h
    refine tail_run hok ht _ m fuel listed a w rfl (Nat.le_refl _) hs hc (fun j _ => ?_) (by simpa using hf) h
    by_cases hj : j < m
    · rw [hall j hj, decide_eq_true hj]
    · rw [hno j (by omega), decide_eq_false hj]
  induction fuel with
  | zero =>
    intro listed a w hf hno hH
    refine fin 0 listed a w (by omega) hno (fun j hj => ?_) hH
    have h0 : ((List.range m).filter fun j => !listed.getD j false) = [] := List.length_eq_zero_iff.1 (by omega)
    have := List.filter_eq_nil_iff.1 h0 j (List.mem_range.2 hj)
    simpa using this
  | succ fuel ih =>
    intro listed a w hf hno hH
    by_cases hall : ∀ j, j < m → listed.getD j false = true
    · exact fin _ listed a w (by omega) hno hall hH
    · obtain ⟨j0, hj0⟩ := Classical.not_forall.1 hall
      obtain ⟨hj0m, hj0l⟩ := Classical.not_imp.1 hj0
      refine ⟨fun hr => absurd (all_listed hok hH.1 hr j0 (by omega)) hj0l, fun i hi => ?_⟩
      obtain ⟨h0, o, ho, -⟩ := mem_ready.1 hi
      have hin : i < ops.size := (Array.getElem?_eq_some_iff.1 ho).1
      have him : i < m := by
        rcases Nat.lt_or_ge i m with h' | h'
        · exact h'
        · exact absurd (ready_anc hok hH.2.1 hi (tailOk_anc ht hin h' (by omega))) hj0l
      have hil : i < listed.size := by rw [hH.1]; exact hin
      refine held_stepN hok hmono hH hi (hstep i him w hH.2.2.1) fun a' w' hH' => ih _ _ _ ?_ (fun j hj => ?_) hH'
      · have := count_less him hil (by simpa [hil] using h0)
        omega
      · rw [getD_set_ne false (by omega)]; exact hno j hj

def stepsLN (P : Program) (ops : Array Oper) (N : Nat → Bool) (I : Nat → Value → World → Prop) (a0 : Act) (w0 : World) : Nat → List Oper → List (List (Nat × Option Tmp)) → Prop
  | i, o :: l, an :: A => (∀ w, Below w0.heap.size w0 w → onP I w an a0 (fun a => wpList P ops (StepN N I i o.dst a w) [o] a w)) ∧ stepsLN P ops N I a0 w0 (i + 1) l A
  | _, [], _ => True
  | _, _ :: _, [] => False
theorem stepsLN_at {a0 : Act} {w0 : World} : ∀ (l : List Oper) (A : List (List (Nat × Option Tmp))) (i : Nat), stepsLN P ops N I a0 w0 i l A → ∀ k o, l[k]? = some o → ∃ an, A[k]? = some an ∧ ∀ w, Below w0.heap.size w0 w → onP I w an a0 (fun a => wpList P ops (StepN N I (i + k) o.dst a w) [o] a w)
  | [], _, _, _, k, o, h => by simp at h
  | _ :: _, [], _, h, _, _, _ => h.elim
  | o :: l, an :: A, i, h, 0, o', ho => by
    simp at ho
    subst ho
    exact ⟨an, rfl, h.1⟩
  | o :: l, an :: A, i, h, k + 1, o', ho => by
    obtain ⟨an', h1, h2⟩ := stepsLN_at l A (i + 1) h.2 k o' (by simpa using ho)
    exact ⟨an', by simpa using h1, by rw [show i + (k + 1) = i + 1 + k by omega]; exact h2⟩
/-- a region that draws: the predicates of its head's operations (number m begins the tail), those of N make new blocks, which differ; then the tail as it stands -/
theorem wp_region_new {id : Nat} {a0 : Act} {w0 : World} (m : Nat) (N : Nat → Bool) (L : List (Value → World → Prop)) (A : List (List (Nat × Option Tmp))) (E : List (Nat × Option Tmp)) (T : List Nat) (hm : P.follows .mixedOrders = true) (hok : regOk ops (A.map (·.map (·.1))) T = true) (ht : tailOk ops T m = true)
    (hd : (A.all fun l => l.all fun p => p.2 == dstOf ops p.1) = true) (hE : (E.all (fun p => p.2 == dstOf ops p.1) && E.map (·.1) == List.range m) = true)
    (hk : keptL L) (hstep : stepsLN P ops N (atL L) a0 w0 0 (ops.toList.take m) A)
    (hend : ∀ w (G : Nat → Option Nat), Below w0.heap.size w0 w → (∀ j, j < m → N j = true → ∃ g, G j = some g ∧ w0.heap.size ≤ g ∧ g < w.heap.size) → (∀ j k, j < m → k < m → N j = true → N k = true → j ≠ k → G j ≠ G k) →
      onP (fun j v w => atL L j v w ∧ (N j = true → blkOf v = G j)) w E a0 (fun a => wpList P ops Q (ops.toList.drop m) a w)) : (Code.region id ops true).wp P Q a0 w0 := by
  simp only [Bool.and_eq_true, beq_iff_eq] at hE
  have hmono : ∀ i v w w', Below w.heap.size w w' → atL L i v w → atL L i v w' := fun i => keptL_at L hk i
  have hend' : ∀ w (vs : Nat → Value), Below w0.heap.size w0 w → (∀ j, j < m → atL L j (vs j) w) → (∀ j, j < m → N j = true → ∃ g, blkOf (vs j) = some g ∧ w0.heap.size ≤ g ∧ g < w.heap.size) → (∀ j k, j < m → k < m → N j = true → N k = true → j ≠ k → blkOf (vs j) ≠ blkOf (vs k)) → wpList P ops Q (ops.toList.drop m) (putL ops vs (List.range m) a0) w := fun w vs hw hI h1 h2 => by
    have h := onP_onL (ops := ops) (I := fun j v w => atL L j v w ∧ (N j = true → blkOf v = (fun j => blkOf (vs j)) j)) (w := w) (k := fun a => wpList P ops Q (ops.toList.drop m) a w) E a0 hE.1 (hend w (fun j => blkOf (vs j)) hw h1 h2)
    rw [hE.2] at h
    exact onL_put (vs := vs) _ _ h fun j hj => ⟨hI j (List.mem_range.1 hj), fun _ => rfl⟩
  have hst : ∀ i, i < m → ∀ w, Below w0.heap.size w0 w → onL ops (atL L) w (ancL (A.map (·.map (·.1))) i) a0 (fun a => stepAtN P ops N (atL L) i a w) := fun i hi w hw => by
    have hi' : i < ops.size := Nat.lt_of_lt_of_le hi (tailOk_le ht)
    have ho : ops[i]? = some ops[i] := Array.getElem?_eq_getElem hi'
    obtain ⟨an, h1, h2⟩ := stepsLN_at (ops.toList.take m) A 0 hstep i ops[i] (by rw [List.getElem?_take, if_pos hi]; simp)
    have e : ancL (A.map (·.map (·.1))) i = an.map (·.1) := by
      unfold ancL
      simp [h1]
    have h3 := h2 w hw
    rw [Nat.zero_add] at h3
    rw [e]
    have h4 := onP_onL (ops := ops) an a0 (List.all_eq_true.1 hd an (List.mem_of_getElem? h1)) h3
    unfold stepAtN
    rw [ho]
    exact h4
  refine wp_region_any hm (held_tailN hok ht hmono hst hend' _ _ _ _ ?_ (fun j _ => rep_false _ _) ⟨by simp, ?_, ?_, fun _ => undef, ?_, ?_, ?_, ?_⟩)
  · have h1 := List.length_filter_le (fun j => !(Array.replicate ops.size false).getD j false) (List.range m)
    have := tailOk_le ht
    rw [List.length_range] at h1
    omega
  · intro i o hi
    rw [rep_false] at hi; cases hi
  · exact Below.drew (Below.refl _ _)
  · have e : ((List.range ops.size).filter fun j => (Array.replicate ops.size false).getD j false) = [] := List.filter_eq_nil_iff.2 fun j _ => by rw [rep_false]; exact Bool.false_ne_true
    rw [e]; rfl
  · intro j hj
    rw [rep_false] at hj; cases hj
  · intro j hj
    rw [rep_false] at hj; cases hj
  · intro j k hj
    rw [rep_false] at hj; cases hj
end
end Go.Proofs.Ytnbppbnjkmopeaa
namespace Go.Proofs.Ytnbppbnjkmopeaa
open Go.RowKit

section
variable {P : Program} {ops : Array Oper} {Q : Exit → Act → World → Prop} {N : Nat → Bool} {I : Nat → Value → World → Prop} {A : List (List Nat)} {T : List Nat} {m x : Nat} {Rel P0 : World → Prop}

/-- behind the one that writes -/
def StepX (I : Nat → Value → World → Prop) (Rel : World → Prop) (x : Nat) (d : Option Tmp) (a : Act) (w : World) : Exit → Act → World → Prop
  | .normal, a', w' => ∃ v, a' = a.put d v ∧ I x v w' ∧ w.heap.size ≤ w'.heap.size ∧ Rel w' ∧ ∀ j u, j ≠ x → I j u w → I j u w'
  | _, _, _ => False
/-- what an operation must show -/
def StepO (N : Nat → Bool) (I : Nat → Value → World → Prop) (Rel : World → Prop) (x i : Nat) (d : Option Tmp) (a : Act) (w : World) : Exit → Act → World → Prop := if i = x then StepX I Rel x d a w else StepN N I i d a w
def stepAtO (P : Program) (ops : Array Oper) (N : Nat → Bool) (I : Nat → Value → World → Prop) (Rel : World → Prop) (x i : Nat) (a : Act) (w : World) : Prop :=
  match ops[i]? with
  | some o => wpList P ops (StepO N I Rel x i o.dst a w) [o] a w
  | none => True
/-- the state behind the listed operations -/
def HeldO (ops : Array Oper) (N : Nat → Bool) (I : Nat → Value → World → Prop) (Rel P0 : World → Prop) (x : Nat) (a0 : Act) (w0 : World) (listed : Array Bool) (a : Act) (w : World) : Prop :=
  listed.size = ops.size ∧ Closed ops listed ∧ (w0.heap.size ≤ w.heap.size ∧ Rel w ∧ (listed.getD x false = false → P0 w)) ∧ ∃ vs : Nat → Value, a = putL ops vs ((List.range ops.size).filter fun j => listed.getD j false) a0 ∧ (∀ j, listed.getD j false = true → I j (vs j) w) ∧
    (∀ j, listed.getD j false = true → N j = true → ∃ g, blkOf (vs j) = some g ∧ w0.heap.size ≤ g ∧ g < w.heap.size) ∧
    (∀ j k, listed.getD j false = true → listed.getD k false = true → N j = true → N k = true → j ≠ k → blkOf (vs j) ≠ blkOf (vs k))
/-- what one step gives: of i its value, of the others that they stay -/
def Gives (N : Nat → Bool) (I : Nat → Value → World → Prop) (Rel P0 : World → Prop) (x i : Nat) (v : Value) (w w' : World) : Prop :=
  I i v w' ∧ w.heap.size ≤ w'.heap.size ∧ (Rel w → Rel w') ∧ (i ≠ x → P0 w → P0 w') ∧ (N i = true → New v w w') ∧ ∀ j u, j ≠ i → I j u w → I j u w'
theorem StepO.gives {i : Nat} {d : Option Tmp} {a a' : Act} {w w' : World} (hmono : ∀ i v w w', Below w.heap.size w w' → I i v w → I i v w') (hrel : ∀ w w', Below w.heap.size w w' → Rel w → Rel w') (hp0 : ∀ w w', Below w.heap.size w w' → P0 w → P0 w') (hN : N x = false)
    (h : StepO N I Rel x i d a w .normal a' w') : ∃ v, a' = a.put d v ∧ Gives N I Rel P0 x i v w w' := by
  unfold StepO at h
  split at h
  · rename_i e
    subst e
    obtain ⟨v, e, h1, h2, h3, h4⟩ := h
    exact ⟨v, e, h1, h2, fun _ => h3, fun hne => absurd rfl hne, fun hn => (by rw [hN] at hn; cases hn), h4⟩
  · rename_i hne
    obtain ⟨v, e, h1, h2, h3⟩ := h
    exact ⟨v, e, h1, h2.size, hrel _ _ h2, fun _ => hp0 _ _ h2, h3, fun j u _ => hmono j u _ _ h2⟩
theorem StepO.only {i : Nat} {d : Option Tmp} {a a' : Act} {w w' : World} {e : Exit} (h : StepO N I Rel x i d a w e a' w') : e = .normal := by
  unfold StepO at h
  split at h <;> cases e <;> first | rfl | exact h.elim

theorem step_execO {o : Oper} {i : Nat} {a F : Act} {w : World} {K : Act → World → Prop} (hmono : ∀ i v w w', Below w.heap.size w w' → I i v w → I i v w') (hrel : ∀ w w', Below w.heap.size w w' → Rel w → Rel w') (hp0 : ∀ w w', Below w.heap.size w w' → P0 w → P0 w') (hN : N x = false)
    (hx : execOp a.eval o = execOp F.eval o) (hw : Region.wanted o (yielded ops a.tmps) = Region.wanted o (yielded ops F.tmps))
    (hput : ∀ u v, F.put o.dst u = F.put o.dst v → a.put o.dst u = a.put o.dst v)
    (hK : ∀ v w', Gives N I Rel P0 x i v w w' → K (a.put o.dst v) w')
    (h : wpList P ops (StepO N I Rel x i o.dst F w) [o] F w) : if Region.wanted o (yielded ops a.tmps) then o.wp P a w K Q ∨ (o.asks P a w ∧ LetsOut Q) else K (a.put o.dst undef) w := by
  have key : ∀ u w', StepO N I Rel x i o.dst F w .normal (F.put o.dst u) w' → K (a.put o.dst u) w' := by
    intro u w' h
    obtain ⟨v, e, hG⟩ := h.gives hmono hrel hp0 hN
    rw [hput u v e]
    exact hK v w' hG
  have nol : ¬ LetsOut (StepO N I Rel x i o.dst F w) := by
    rintro ⟨_, _, h⟩
    exact absurd h.only (by simp)
  unfold wpList at h
  rw [hw]
  split
  · rename_i hwn
    rw [if_pos hwn] at h
    left
    replace h := h.resolve_right fun x => nol x.2
    unfold Oper.wp at *
    rw [hx]
    generalize (execOp F.eval o).run P w = r at *
    cases r with
    | ok n w' =>
      cases n <;> simp only [Oper.upon, wpList] at h ⊢
      case value u => exact key u w' h
      case skip => exact key undef w' h
      case defer d =>
        exfalso
        obtain ⟨v, e, _⟩ := h.gives hmono hrel hp0 hN
        have := congrArg Act.defers e
        have hd : ∀ (x : Act) (u : Value), (x.put o.dst u).defers = x.defers := fun x u => by cases o.dst <;> rfl
        rw [hd, hd] at this
        have := congrArg List.length this
        simp at this
      case enter f args =>
        refine Calls.mono h fun e w'' he => ?_
        cases e with
        | returned u => exact key u w'' he
        | panicked c => exact absurd he.only (by simp)
        | outgrown => exact absurd he nol
      case row row args => exact Rows.mono h fun u w'' he => key u w'' he
    | halt x w' =>
      cases x <;> simp only [Oper.upon] at h ⊢
      case panic u => exact absurd h.only (by simp)
  · rename_i hwn
    rw [if_neg hwn] at h
    exact key undef w h

theorem held_stepO {a0 : Act} {w0 : World} (hok : regOk ops A T = true) (hmono : ∀ i v w w', Below w.heap.size w w' → I i v w → I i v w') (hrel : ∀ w w', Below w.heap.size w w' → Rel w → Rel w') (hp0 : ∀ w w', Below w.heap.size w w' → P0 w → P0 w') (hN : N x = false)
    {listed : Array Bool} {a : Act} {w : World} (hH : HeldO ops N I Rel P0 x a0 w0 listed a w) {i : Nat} (hi : i ∈ Region.ready .any ops listed)
    (hstep : (i = x → P0 w) → onL ops I w (ancL A i) a0 (fun a => stepAtO P ops N I Rel x i a w)) {K : Act → World → Prop} (hK : ∀ a' w', HeldO ops N I Rel P0 x a0 w0 (listed.setIfInBounds i true) a' w' → K a' w') : wpOp P ops Q i K a w := by
  obtain ⟨h0, o, ho, haft⟩ := mem_ready.1 hi
  have hin : i < ops.size := (Array.getElem?_eq_some_iff.1 ho).1
  obtain ⟨hs, hc, ⟨hb, hrl, hpx⟩, vs, ha, hI, hN1, hN2⟩ := hH
  have hil : i < listed.size := by omega
  have h0' : listed.getD i false = false := by simpa [hil] using h0
  have hsel : ∀ cs b, o.op ≠ .select cs b := fun cs b => Region.noSelect_spec (regOk_select hok) i o cs b ho
  have hdst := regOk_dst hok
  -- what comes before i is listed
  have hlt : ∀ i o, ops[i]? = some o → ∀ e ∈ o.after, Region.binds .any e = true → e.on < i := fun i o ho => regOk_after hok ho
  have hanc : ∀ j, ancB T i j = true → listed.getD j false = true := fun j h => anc_listed hok hc i j ho (fun e he hbd => ⟨haft e he hbd, by have := hlt i o ho e he hbd; omega⟩) hlt h
  obtain ⟨hned, hnea⟩ := regOk_ned hok ho
  have hnedb : ∀ j, nedB A i j = true → listed.getD j false = true := fun j h => hanc j (hnea j (by simpa [nedB, ancL] using h))
  have hnot : ∀ j, listed.getD j false = true → ancB T j i = false := fun j hj => by
    cases hcase : ancB T j i
    · rfl
    · have hjl : j < listed.size := by
        rcases Nat.lt_or_ge j listed.size with h' | h'
        · exact h'
        · simp [Array.getElem?_eq_none h'] at hj
      have ho' : ops[j]? = some ops[j] := Array.getElem?_eq_getElem (by omega)
      have := anc_listed hok hc j i ho' (fun e he hbd => ⟨hc j _ hj ho' e he hbd, by have := hlt j _ ho' e he hbd; omega⟩) hlt hcase
      rw [h0'] at this; cases this
  obtain ⟨F, hF⟩ : ∃ F, F = putL ops vs (ancL A i) a0 := ⟨_, rfl⟩
  obtain ⟨L, hL⟩ : ∃ L, L = (List.range ops.size).filter fun j => listed.getD j false := ⟨_, rfl⟩
  obtain ⟨R, hR⟩ : ∃ R, R = L.filter fun j => !nedB A i j := ⟨_, rfl⟩
  have hLa : L.filter (nedB A i) = ancL A i := by
    rw [hL, List.filter_filter, ← hned]
    apply List.filter_congr
    intro j _
    cases hcase : nedB A i j
    · rfl
    · rw [hnedb j hcase]; rfl
  have hLm : ∀ j ∈ L, listed.getD j false = true := fun j hj => by rw [hL] at hj; exact (List.mem_filter.1 hj).2
  have hperm : (ancL A i ++ R).Perm L := by rw [← hLa, hR]; exact List.filter_append_perm _ _
  have haF : a = putL ops vs R F := by rw [ha, hF, ← putL_append, ← hL]; exact (putL_perm hdst hperm a0).symm
  have hRm : ∀ j ∈ R, listed.getD j false = true ∧ nedB A i j = false := fun j hj => by
    rw [hR] at hj
    obtain ⟨h1, h2⟩ := List.mem_filter.1 hj
    exact ⟨hLm j h1, by simpa using h2⟩
  have hne : ∀ j, listed.getD j false = true → i ≠ j := fun j hj e => by subst e; rw [h0'] at hj; cases hj
  have hlook : ∀ j ∈ R, ∀ d, dstOf ops j = some d → d ∉ o.looksAt ops := fun j hj => regOk_look hok ho (hne j (hRm j hj).1) (hRm j hj).2 (hnot j (hRm j hj).1)
  obtain ⟨hx, hw⟩ := execOp_putL (ops := ops) o hsel (vs := vs) R hlook F
  rw [← haF] at hx hw
  have hod : o.dst = dstOf ops i := by simp [dstOf, ho]
  have hputR : ∀ v, a.put o.dst v = putL ops vs R (F.put o.dst v) := fun v => by
    rw [haF]
    exact putL_put R (fun j hj e he => by
      rw [hod]
      intro he2
      exact hdst i j e (hne j (hRm j hj).1) he2 he) F
  have hst := onL_put (vs := vs) (ancL A i) a0 (hstep fun e => hpx (e ▸ h0')) (fun j hj => hI j (hanc j (hnea j hj)))
  rw [← hF] at hst
  unfold stepAtO at hst
  rw [ho] at hst
  simp only at hst
  unfold wpOp
  rw [ho]
  simp only
  refine step_execO hmono hrel hp0 hN hx hw (fun u v e => by rw [hputR, hputR, e]) (fun v w' hG => ?_) hst
  obtain ⟨hIv, hsz, hrl', hpx', hNv, hoth⟩ := hG
  refine hK _ _ ⟨by simpa using hs, ?_, ⟨Nat.le_trans hb hsz, hrl' hrl, fun hlx => ?_⟩, fun j => if j = i then v else vs j, ?_, ?_, ?_, ?_⟩
  · intro j o' hj ho' e he hbd
    by_cases hji : j = i
    · subst hji
      rw [ho] at ho'; cases ho'
      exact getD_set_true (haft e he hbd)
    · have hji' : i ≠ j := fun e => hji e.symm
      rw [getD_set_ne false hji'] at hj
      exact getD_set_true (hc j o' hj ho' e he hbd)
  · have hix : i ≠ x := fun e => by subst e; simp [hil] at hlx
    rw [getD_set_ne false hix] at hlx
    exact hpx' hix (hpx hlx)
  · have hiL : i ∉ L := fun h => by have := hLm i h; rw [h0'] at this; cases this
    have e1 : a.put o.dst v = putL ops (fun j => if j = i then v else vs j) (L ++ [i]) a0 := by
      rw [putL_append, ha, ← hL, putL_congr (us := vs) (l := L) (fun j hj => if_neg (fun e : j = i => hiL (e ▸ hj)))]
      show _ = (putL ops vs L a0).put (dstOf ops i) (if i = i then v else vs i)
      rw [if_pos rfl, hod]
    rw [e1]
    refine putL_perm hdst ?_ a0
    refine (List.perm_ext_iff_of_nodup ?_ ?_).2 fun j => ?_
    · rw [List.nodup_append]
      refine ⟨by rw [hL]; exact List.Pairwise.filter _ List.nodup_range, by simp, ?_⟩
      intro x hx y hy e
      simp at hy
      subst hy e
      exact hiL hx
    · exact List.Pairwise.filter _ List.nodup_range
    · simp only [List.mem_append, List.mem_singleton, hL, List.mem_filter, List.mem_range]
      by_cases hji : j = i
      · subst hji; simp [hin, hil]
      · have hji' : i ≠ j := fun e => hji e.symm
        rw [getD_set_ne false hji']; simp [hji]
  · intro j hj
    by_cases hji : j = i
    · subst hji; simpa using hIv
    · have hji' : i ≠ j := fun e => hji e.symm
      rw [getD_set_ne false hji'] at hj
      simp only [if_neg hji]
      exact hoth j _ hji (hI j hj)
  · intro j hj hnj
    by_cases hji : j = i
    · subst hji
      obtain ⟨g, h1, h2, h3⟩ := hNv hnj
      exact ⟨g, by simpa using h1, Nat.le_trans hb h2, h3⟩
    · have hji' : i ≠ j := fun e => hji e.symm
      rw [getD_set_ne false hji'] at hj
      simp only [if_neg hji]
      obtain ⟨g, h1, h2, h3⟩ := hN1 j hj hnj
      exact ⟨g, h1, h2, Nat.lt_of_lt_of_le h3 hsz⟩
  · intro j k hj hk hnj hnk hjk
    by_cases hji : j = i
    · subst hji
      rw [getD_set_ne false hjk] at hk
      have hkj : k ≠ j := fun e => hjk e.symm
      simp only [if_neg hkj, if_pos]
      obtain ⟨g, h1, h2, h3⟩ := hNv hnj
      obtain ⟨g', h1', h2', h3'⟩ := hN1 k hk hnk
      rw [h1, h1']
      intro e
      have := Option.some.inj e
      omega
    · have hji' : i ≠ j := fun e => hji e.symm
      rw [getD_set_ne false hji'] at hj
      by_cases hki : k = i
      · subst hki
        simp only [if_neg hji, if_pos]
        obtain ⟨g, h1, h2, h3⟩ := hNv hnk
        obtain ⟨g', h1', h2', h3'⟩ := hN1 j hj hnj
        rw [h1, h1']
        intro e
        have := Option.some.inj e
        omega
      · have hki' : i ≠ k := fun e => hki e.symm
        rw [getD_set_ne false hki'] at hk
        simp only [if_neg hji, if_neg hki]
        exact hN2 j k hj hk hnj hnk hjk

theorem held_tailO {a0 : Act} {w0 : World} (hok : regOk ops A T = true) (ht : tailOk ops T m = true) (hmono : ∀ i v w w', Below w.heap.size w w' → I i v w → I i v w') (hrel : ∀ w w', Below w.heap.size w w' → Rel w → Rel w') (hp0 : ∀ w w', Below w.heap.size w w' → P0 w → P0 w') (hN : N x = false)
    (hstep : ∀ i, i < m → ∀ w, w0.heap.size ≤ w.heap.size → Rel w → (i = x → P0 w) → onL ops I w (ancL A i) a0 (fun a => stepAtO P ops N I Rel x i a w))
    (hend : ∀ w (vs : Nat → Value), w0.heap.size ≤ w.heap.size → Rel w → (∀ j, j < m → I j (vs j) w) → (∀ j, j < m → N j = true → ∃ g, blkOf (vs j) = some g ∧ w0.heap.size ≤ g ∧ g < w.heap.size) → (∀ j k, j < m → k < m → N j = true → N k = true → j ≠ k → blkOf (vs j) ≠ blkOf (vs k)) → wpList P ops Q (ops.toList.drop m) (putL ops vs (List.range m) a0) w) :
    ∀ (fuel : Nat) (listed : Array Bool) (a : Act) (w : World), ((List.range m).filter fun j => !listed.getD j false).length + (ops.size - m) ≤ fuel → (∀ j, m ≤ j → listed.getD j false = false) → HeldO ops N I Rel P0 x a0 w0 listed a w → wpAny P .any ops Q fuel listed a w := by
  intro fuel
  have hms := tailOk_le ht
  have fin : ∀ (fuel : Nat) (listed : Array Bool) (a : Act) (w : World), ops.size - m ≤ fuel → (∀ j, m ≤ j → listed.getD j false = false) → (∀ j, j < m → listed.getD j false = true) → HeldO ops N I Rel P0 x a0 w0 listed a w → wpAny P .any ops Q fuel listed a w := by
    rintro fuel listed a w hf hno hall ⟨hs, hc, ⟨hb, hrl, hpx⟩, vs, ha, hI, hN1, hN2⟩
    have e : ((List.range ops.size).filter fun j => listed.getD j false) = List.range m := by
      have e1 : ∀ j, listed.getD j false = decide (j < m) := fun j => by
        by_cases hj : j < m
        · rw [hall j hj, decide_eq_true hj]
        · rw [hno j (by omega), decide_eq_false hj]
      simp only [e1]
      obtain ⟨d, hd⟩ := Nat.exists_eq_add_of_le hms
      rw [hd, List.range_add, List.filter_append, List.filter_eq_self.2 (fun j hj => by simpa using hj), List.filter_eq_nil_iff.2 (fun j hj => by
        obtain ⟨k, _, rfl⟩ := List.mem_map.1 hj
        simp), List.append_nil]
    rw [e] at ha
    have h := hend w vs hb hrl (fun j hj => hI j (hall j hj)) (fun j hj => hN1 j (hall j hj)) (fun j k hj hk => hN2 j k (hall j hj) (hall k hk))
    rw [← ha] at h
    refine tail_run hok ht _ m fuel listed a w rfl (Nat.le_refl _) hs hc (fun j _ => ?_) (by simpa using hf) h
    by_cases hj : j < m
    · rw [hall j hj, decide_eq_true hj]
    · rw [hno j (by omega), decide_eq_false hj]
  induction fuel with
  | zero =>
    intro listed a w hf hno hH
    refine fin 0 listed a w (by omega) hno (fun j hj => ?_) hH
    have h0 : ((List.range m).filter fun j => !listed.getD j false) = [] := List.length_eq_zero_iff.1 (by omega)
    have := List.filter_eq_nil_iff.1 h0 j (List.mem_range.2 hj)
    simpa using this
  | succ fuel ih =>
    intro listed a w hf hno hH
    by_cases hall : ∀ j, j < m → listed.getD j false = true
    · exact fin _ listed a w (by omega) hno hall hH
    · obtain ⟨j0, hj0⟩ := Classical.not_forall.1 hall
      obtain ⟨hj0m, hj0l⟩ := Classical.not_imp.1 hj0
      refine ⟨fun hr => absurd (all_listed hok hH.1 hr j0 (by omega)) hj0l, fun i hi => ?_⟩
      obtain ⟨h0, o, ho, -⟩ := mem_ready.1 hi
      have hin : i < ops.size := (Array.getElem?_eq_some_iff.1 ho).1
      have him : i < m := by
        rcases Nat.lt_or_ge i m with h' | h'
        · exact h'
        · exact absurd (ready_anc hok hH.2.1 hi (tailOk_anc ht hin h' (by omega))) hj0l
      have hil : i < listed.size := by rw [hH.1]; exact hin
      refine held_stepO hok hmono hrel hp0 hN hH hi (hstep i him w hH.2.2.1.1 hH.2.2.1.2.1) fun a' w' hH' => ih _ _ _ ?_ (fun j hj => ?_) hH'
      · have := count_less him hil (by simpa [hil] using h0)
        omega
      · rw [getD_set_ne false (by omega)]; exact hno j hj

def stepsLO (P : Program) (ops : Array Oper) (N : Nat → Bool) (I : Nat → Value → World → Prop) (Rel P0 : World → Prop) (x : Nat) (a0 : Act) (w0 : World) : Nat → List Oper → List (List (Nat × Option Tmp)) → Prop
  | i, o :: l, an :: A => (∀ w, w0.heap.size ≤ w.heap.size → Rel w → (i = x → P0 w) → onP I w an a0 (fun a => wpList P ops (StepO N I Rel x i o.dst a w) [o] a w)) ∧ stepsLO P ops N I Rel P0 x a0 w0 (i + 1) l A
  | _, [], _ => True
  | _, _ :: _, [] => False
theorem stepsLO_at {a0 : Act} {w0 : World} : ∀ (l : List Oper) (A : List (List (Nat × Option Tmp))) (i : Nat), stepsLO P ops N I Rel P0 x a0 w0 i l A → ∀ k o, l[k]? = some o → ∃ an, A[k]? = some an ∧ ∀ w, w0.heap.size ≤ w.heap.size → Rel w → (i + k = x → P0 w) → onP I w an a0 (fun a => wpList P ops (StepO N I Rel x (i + k) o.dst a w) [o] a w)
  | [], _, _, _, k, o, h => by simp at h
  | _ :: _, [], _, h, _, _, _ => h.elim
  | o :: l, an :: A, i, h, 0, o', ho => by
    simp at ho
    subst ho
    exact ⟨an, rfl, h.1⟩
  | o :: l, an :: A, i, h, k + 1, o', ho => by
    obtain ⟨an', h1, h2⟩ := stepsLO_at l A (i + 1) h.2 k o' (by simpa using ho)
    exact ⟨an', by simpa using h1, by rw [show i + (k + 1) = i + 1 + k by omega]; exact h2⟩
/-- a region that draws: the predicates of its head's operations (number m begins the tail), those of N make new blocks, which differ; then the tail as it stands -/
theorem wp_region_once {id : Nat} {a0 : Act} {w0 : World} (m x : Nat) (N : Nat → Bool) (Rel P0 : World → Prop) (L : List (Value → World → Prop)) (A : List (List (Nat × Option Tmp))) (E : List (Nat × Option Tmp)) (T : List Nat) (hm : P.follows .mixedOrders = true) (hok : regOk ops (A.map (·.map (·.1))) T = true) (ht : tailOk ops T m = true)
    (hd : (A.all fun l => l.all fun p => p.2 == dstOf ops p.1) = true) (hE : (E.all (fun p => p.2 == dstOf ops p.1) && E.map (·.1) == List.range m) = true)
    (hk : keptL L) (hrel : ∀ w w', Below w.heap.size w w' → Rel w → Rel w') (hp0 : ∀ w w', Below w.heap.size w w' → P0 w → P0 w') (hN : N x = false) (hR0 : ∀ w, w.heap = w0.heap → Below w0.heap.size w0 w → Rel w) (hP0 : ∀ w, Below w0.heap.size w0 w → P0 w) (hstep : stepsLO P ops N (atL L) Rel P0 x a0 w0 0 (ops.toList.take m) A)
    (hend : ∀ w (G : Nat → Option Nat), w0.heap.size ≤ w.heap.size → Rel w → (∀ j, j < m → N j = true → ∃ g, G j = some g ∧ w0.heap.size ≤ g ∧ g < w.heap.size) → (∀ j k, j < m → k < m → N j = true → N k = true → j ≠ k → G j ≠ G k) →
      onP (fun j v w => atL L j v w ∧ (N j = true → blkOf v = G j)) w E a0 (fun a => wpList P ops Q (ops.toList.drop m) a w)) : (Code.region id ops true).wp P Q a0 w0 := by
  simp only [Bool.and_eq_true, beq_iff_eq] at hE
  have hmono : ∀ i v w w', Below w.heap.size w w' → atL L i v w → atL L i v w' := fun i => keptL_at L hk i
  have hend' : ∀ w (vs : Nat → Value), w0.heap.size ≤ w.heap.size → Rel w → (∀ j, j < m → atL L j (vs j) w) → (∀ j, j < m → N j = true → ∃ g, blkOf (vs j) = some g ∧ w0.heap.size ≤ g ∧ g < w.heap.size) → (∀ j k, j < m → k < m → N j = true → N k = true → j ≠ k → blkOf (vs j) ≠ blkOf (vs k)) → wpList P ops Q (ops.toList.drop m) (putL ops vs (List.range m) a0) w := fun w vs hw hr hI h1 h2 => by
    have h := onP_onL (ops := ops) (I := fun j v w => atL L j v w ∧ (N j = true → blkOf v = (fun j => blkOf (vs j)) j)) (w := w) (k := fun a => wpList P ops Q (ops.toList.drop m) a w) E a0 hE.1 (hend w (fun j => blkOf (vs j)) hw hr h1 h2)
    rw [hE.2] at h
    exact onL_put (vs := vs) _ _ h fun j hj => ⟨hI j (List.mem_range.1 hj), fun _ => rfl⟩
  have hst : ∀ i, i < m → ∀ w, w0.heap.size ≤ w.heap.size → Rel w → (i = x → P0 w) → onL ops (atL L) w (ancL (A.map (·.map (·.1))) i) a0 (fun a => stepAtO P ops N (atL L) Rel x i a w) := fun i hi w hw hr hp => by
    have hi' : i < ops.size := Nat.lt_of_lt_of_le hi (tailOk_le ht)
    have ho : ops[i]? = some ops[i] := Array.getElem?_eq_getElem hi'
    obtain ⟨an, h1, h2⟩ := stepsLO_at (ops.toList.take m) A 0 hstep i ops[i] (by rw [List.getElem?_take, if_pos hi]; simp)
    have e : ancL (A.map (·.map (·.1))) i = an.map (·.1) := by
      unfold ancL
      simp [h1]
    rw [Nat.zero_add] at h2
    have h3 := h2 w hw hr hp
    rw [e]
    have h4 := onP_onL (ops := ops) an a0 (List.all_eq_true.1 hd an (List.mem_of_getElem? h1)) h3
    unfold stepAtO
    rw [ho]
    exact h4
  refine wp_region_any hm (held_tailO hok ht hmono hrel hp0 hN hst hend' _ _ _ _ ?_ (fun j _ => rep_false _ _) ⟨by simp, ?_, ⟨?_, ?_, fun _ => ?_⟩, fun _ => undef, ?_, ?_, ?_, ?_⟩)
  · have h1 := List.length_filter_le (fun j => !(Array.replicate ops.size false).getD j false) (List.range m)
    have := tailOk_le ht
    rw [List.length_range] at h1
    omega
  · intro i o hi
    rw [rep_false] at hi; cases hi
  · exact Nat.le_refl _
  · exact hR0 _ rfl (Below.drew (Below.refl _ _))
  · exact hP0 _ (Below.drew (Below.refl _ _))
  · have e : ((List.range ops.size).filter fun j => (Array.replicate ops.size false).getD j false) = [] := List.filter_eq_nil_iff.2 fun j _ => by rw [rep_false]; exact Bool.false_ne_true
    rw [e]; rfl
  · intro j hj
    rw [rep_false] at hj; cases hj
  · intro j hj
    rw [rep_false] at hj; cases hj
  · intro j k hj
    rw [rep_false] at hj; cases hj
theorem StepO.of_ne {i : Nat} {d : Option Tmp} {a a' : Act} {w w' : World} {e : Exit} (hne : i ≠ x) (h : StepN N I i d a w e a' w') : StepO N I Rel x i d a w e a' w' := by
  unfold StepO; rw [if_neg hne]; exact h
theorem StepO.of_eq {i : Nat} {d : Option Tmp} {a a' : Act} {w w' : World} {e : Exit} (he : i = x) (h : StepX I Rel x d a w e a' w') : StepO N I Rel x i d a w e a' w' := by
  unfold StepO; rw [if_pos he]; exact h
def keepL (x : Nat) (w w' : World) : Nat → List (Value → World → Prop) → Prop
  | _, [] => True
  | i, p :: l => (i ≠ x → ∀ u, p u w → p u w') ∧ keepL x w w' (i + 1) l
theorem keepL_any {w w' : World} : ∀ (L : List (Value → World → Prop)) (i : Nat), keepL x w w' i L → ∀ j u, i + j ≠ x → atL L j u w → atL L j u w'
  | [], _, _, j, u, _, _ => by unfold atL; trivial
  | _ :: _, i, h, 0, u, hne, hu => h.1 hne u hu
  | _ :: l, i, h, j + 1, u, hne, hu => keepL_any l (i + 1) h.2 j u (by omega) hu
theorem keepL_at {w w' : World} (L : List (Value → World → Prop)) (x : Nat) (h : keepL x w w' 0 L) : ∀ j u, j ≠ x → atL L j u w → atL L j u w' := fun j u hne => keepL_any L 0 h j u (by omega)
end
end Go.Proofs.Ytnbppbnjkmopeaa
namespace Go.Proofs.Ytnbppbnjkmopeaa
open Go.RowKit

section
variable {P : Program} {ops : Array Oper} {Q : Exit → Act → World → Prop} {N : Nat → Bool} {I : Nat → Value → World → Prop} {A : List (List Nat)} {T : List Nat} {m : Nat} {Rel : World → Prop} {R : Nat → World → Prop} {X : List Nat}

/-- behind the one that writes -/
def StepXW (I : Nat → Value → World → Prop) (Rel : World → Prop) (R : Nat → World → Prop) (X : List Nat) (x : Nat) (d : Option Tmp) (a : Act) (w : World) : Exit → Act → World → Prop
  | .normal, a', w' => ∃ v, a' = a.put d v ∧ I x v w' ∧ w.heap.size ≤ w'.heap.size ∧ (Rel w' ∧ R (X.idxOf x + 1) w') ∧ ∀ j u, j ≠ x → I j u w → I j u w'
  | _, _, _ => False
/-- what an operation must show -/
def StepW (N : Nat → Bool) (I : Nat → Value → World → Prop) (Rel : World → Prop) (R : Nat → World → Prop) (X : List Nat) (i : Nat) (d : Option Tmp) (a : Act) (w : World) : Exit → Act → World → Prop := if i ∈ X then StepXW I Rel R X i d a w else StepN N I i d a w
def stepAtW (P : Program) (ops : Array Oper) (N : Nat → Bool) (I : Nat → Value → World → Prop) (Rel : World → Prop) (R : Nat → World → Prop) (X : List Nat) (i : Nat) (a : Act) (w : World) : Prop :=
  match ops[i]? with
  | some o => wpList P ops (StepW N I Rel R X i o.dst a w) [o] a w
  | none => True
/-- the state behind the listed operations -/
def cntW (X : List Nat) (listed : Array Bool) : Nat := (X.filter fun j => listed.getD j false).length
def HeldW (ops : Array Oper) (N : Nat → Bool) (I : Nat → Value → World → Prop) (Rel : World → Prop) (R : Nat → World → Prop) (X : List Nat) (a0 : Act) (w0 : World) (listed : Array Bool) (a : Act) (w : World) : Prop :=
  listed.size = ops.size ∧ Closed ops listed ∧ (w0.heap.size ≤ w.heap.size ∧ Rel w ∧ R (cntW X listed) w) ∧ ∃ vs : Nat → Value, a = putL ops vs ((List.range ops.size).filter fun j => listed.getD j false) a0 ∧ (∀ j, listed.getD j false = true → I j (vs j) w) ∧
    (∀ j, listed.getD j false = true → N j = true → ∃ g, blkOf (vs j) = some g ∧ w0.heap.size ≤ g ∧ g < w.heap.size) ∧
    (∀ j k, listed.getD j false = true → listed.getD k false = true → N j = true → N k = true → j ≠ k → blkOf (vs j) ≠ blkOf (vs k))
/-- what one step gives: of i its value, of the others that they stay -/
def GivesW (N : Nat → Bool) (I : Nat → Value → World → Prop) (Rel : World → Prop) (R : Nat → World → Prop) (X : List Nat) (i : Nat) (v : Value) (w w' : World) : Prop :=
  I i v w' ∧ w.heap.size ≤ w'.heap.size ∧ (Rel w → Rel w') ∧ (i ∉ X → ∀ k, R k w → R k w') ∧ (i ∈ X → R (X.idxOf i + 1) w') ∧ (N i = true → New v w w') ∧ ∀ j u, j ≠ i → I j u w → I j u w'
theorem StepW.gives {i : Nat} {d : Option Tmp} {a a' : Act} {w w' : World} (hmono : ∀ i v w w', Below w.heap.size w w' → I i v w → I i v w') (hrel : ∀ w w', Below w.heap.size w w' → Rel w → Rel w') (hp0 : ∀ k w w', Below w.heap.size w w' → R k w → R k w') (hN : ∀ x ∈ X, N x = false)
    (h : StepW N I Rel R X i d a w .normal a' w') : ∃ v, a' = a.put d v ∧ GivesW N I Rel R X i v w w' := by
  unfold StepW at h
  split at h
  · rename_i hi
    obtain ⟨v, e, h1, h2, h3, h4⟩ := h
    exact ⟨v, e, h1, h2, fun _ => h3.1, fun hne => absurd hi hne, fun _ => h3.2, fun hn => (by rw [hN _ hi] at hn; cases hn), h4⟩
  · rename_i hne
    obtain ⟨v, e, h1, h2, h3⟩ := h
    exact ⟨v, e, h1, h2.size, hrel _ _ h2, fun _ k => hp0 k _ _ h2, fun hi => absurd hi hne, h3, fun j u _ => hmono j u _ _ h2⟩
theorem StepW.only {i : Nat} {d : Option Tmp} {a a' : Act} {w w' : World} {e : Exit} (h : StepW N I Rel R X i d a w e a' w') : e = .normal := by
  unfold StepW at h
  split at h <;> cases e <;> first | rfl | exact h.elim

theorem cnt_ready {listed : Array Bool} {i : Nat} : ∀ {X : List Nat}, (X.Pairwise fun a b => ancB T b a = true) → i ∈ X → (∀ j, ancB T i j = true → listed.getD j false = true) → (∀ j, listed.getD j false = true → ancB T j i = false) → listed.getD i false = false → cntW X listed = X.idxOf i
  | [], _, h, _, _, _ => by simp at h
  | a :: l, hp, h, h1, h2, h3 => by
    rw [List.pairwise_cons] at hp
    by_cases e : a = i
    · subst e
      have : (List.filter (fun j => listed.getD j false) l) = [] := List.filter_eq_nil_iff.2 fun b hb => by
        intro hl
        have h4 := hp.1 b hb
        rw [h2 b hl] at h4
        cases h4
      unfold cntW
      rw [List.filter_cons, if_neg (by rw [h3]; exact Bool.false_ne_true), this]
      simp
    · have hi : i ∈ l := (List.mem_cons.1 h).resolve_left fun x => e x.symm
      have ih := cnt_ready hp.2 hi h1 h2 h3
      unfold cntW at ih ⊢
      rw [List.filter_cons, if_pos (h1 a (hp.1 i hi)), List.length_cons, ih, List.idxOf_cons]
      have : (a == i) = false := by simpa using e
      rw [this]
      rfl
theorem cnt_set_out {listed : Array Bool} {i : Nat} {X : List Nat} (h : i ∉ X) : cntW X (listed.setIfInBounds i true) = cntW X listed := by
  unfold cntW
  congr 1
  apply List.filter_congr
  intro j hj
  have hij : i ≠ j := fun e => h (by rw [e]; exact hj)
  rw [getD_set_ne false hij]
theorem cnt_set_in {listed : Array Bool} {i : Nat} : ∀ {X : List Nat}, (X.Pairwise fun a b => ancB T b a = true) → (∀ j, ancB T j j = false) → i ∈ X → i < listed.size → listed.getD i false = false → cntW X (listed.setIfInBounds i true) = cntW X listed + 1
  | [], _, _, h, _, _ => by simp at h
  | a :: l, hp, hr, h, hil, h0 => by
    rw [List.pairwise_cons] at hp
    by_cases e : a = i
    · subst e
      have hni : a ∉ l := fun ha => by
        have := hp.1 a ha
        rw [hr a] at this; cases this
      have h1 := cnt_set_out (listed := listed) hni
      unfold cntW at h1 ⊢
      rw [List.filter_cons, if_pos (by simp [hil]), List.length_cons, h1, List.filter_cons, if_neg (by rw [h0]; exact Bool.false_ne_true)]
    · have hi : i ∈ l := (List.mem_cons.1 h).resolve_left fun x => e x.symm
      have ih := cnt_set_in hp.2 hr hi hil h0
      have e2 : (listed.setIfInBounds i true).getD a false = listed.getD a false := getD_set_ne false (fun x => e x.symm)
      unfold cntW at ih ⊢
      rw [List.filter_cons, List.filter_cons, e2]
      split
      · rw [List.length_cons, List.length_cons, ih]
      · exact ih

theorem step_execW {o : Oper} {i : Nat} {a F : Act} {w : World} {K : Act → World → Prop} (hmono : ∀ i v w w', Below w.heap.size w w' → I i v w → I i v w') (hrel : ∀ w w', Below w.heap.size w w' → Rel w → Rel w') (hp0 : ∀ k w w', Below w.heap.size w w' → R k w → R k w') (hN : ∀ x ∈ X, N x = false)
    (hx : execOp a.eval o = execOp F.eval o) (hw : Region.wanted o (yielded ops a.tmps) = Region.wanted o (yielded ops F.tmps))
    (hput : ∀ u v, F.put o.dst u = F.put o.dst v → a.put o.dst u = a.put o.dst v)
    (hK : ∀ v w', GivesW N I Rel R X i v w w' → K (a.put o.dst v) w')
    (h : wpList P ops (StepW N I Rel R X i o.dst F w) [o] F w) : if Region.wanted o (yielded ops a.tmps) then o.wp P a w K Q ∨ (o.asks P a w ∧ LetsOut Q) else K (a.put o.dst undef) w := by
  have key : ∀ u w', StepW N I Rel R X i o.dst F w .normal (F.put o.dst u) w' → K (a.put o.dst u) w' := by
    intro u w' h
    obtain ⟨v, e, hG⟩ := h.gives hmono hrel hp0 hN
    rw [hput u v e]
    exact hK v w' hG
  have nol : ¬ LetsOut (StepW N I Rel R X i o.dst F w) := by
    rintro ⟨_, _, h⟩
    exact absurd h.only (by simp)
  unfold wpList at h
  rw [hw]
  split
  · rename_i hwn
    rw [if_pos hwn] at h
    left
    replace h := h.resolve_right fun x => nol x.2
    unfold Oper.wp at *
    rw [hx]
    generalize (execOp F.eval o).run P w = r at *
    cases r with
    | ok n w' =>
      cases n <;> simp only [Oper.upon, wpList] at h ⊢
      case value u => exact key u w' h
      case skip => exact key undef w' h
      case defer d =>
        exfalso
        obtain ⟨v, e, _⟩ := h.gives hmono hrel hp0 hN
        have := congrArg Act.defers e
        have hd : ∀ (x : Act) (u : Value), (x.put o.dst u).defers = x.defers := fun x u => by cases o.dst <;> rfl
        rw [hd, hd] at this
        have := congrArg List.length this
        simp at this
      case enter f args =>
        refine Calls.mono h fun e w'' he => ?_
        cases e with
        | returned u => exact key u w'' he
        | panicked c => exact absurd he.only (by simp)
        | outgrown => exact absurd he nol
      case row row args => exact Rows.mono h fun u w'' he => key u w'' he
    | halt x w' =>
      cases x <;> simp only [Oper.upon] at h ⊢
      case panic u => exact absurd h.only (by simp)
  · rename_i hwn
    rw [if_neg hwn] at h
    exact key undef w h

theorem held_stepW {a0 : Act} {w0 : World} (hok : regOk ops A T = true) (hmono : ∀ i v w w', Below w.heap.size w w' → I i v w → I i v w') (hrel : ∀ w w', Below w.heap.size w w' → Rel w → Rel w') (hp0 : ∀ k w w', Below w.heap.size w w' → R k w → R k w') (hN : ∀ x ∈ X, N x = false)
    {listed : Array Bool} {a : Act} {w : World} (hH : HeldW ops N I Rel R X a0 w0 listed a w) {i : Nat} (hi : i ∈ Region.ready .any ops listed)
    (hXp : X.Pairwise fun a b => ancB T b a = true) (hir : ∀ j, ancB T j j = false) (hstep : (i ∈ X → R (X.idxOf i) w) → onL ops I w (ancL A i) a0 (fun a => stepAtW P ops N I Rel R X i a w)) {K : Act → World → Prop} (hK : ∀ a' w', HeldW ops N I Rel R X a0 w0 (listed.setIfInBounds i true) a' w' → K a' w') : wpOp P ops Q i K a w := by
  obtain ⟨h0, o, ho, haft⟩ := mem_ready.1 hi
  have hin : i < ops.size := (Array.getElem?_eq_some_iff.1 ho).1
  obtain ⟨hs, hc, ⟨hb, hrl, hpx⟩, vs, ha, hI, hN1, hN2⟩ := hH
  have hil : i < listed.size := by omega
  have h0' : listed.getD i false = false := by simpa [hil] using h0
  have hsel : ∀ cs b, o.op ≠ .select cs b := fun cs b => Region.noSelect_spec (regOk_select hok) i o cs b ho
  have hdst := regOk_dst hok
  -- what comes before i is listed
  have hlt : ∀ i o, ops[i]? = some o → ∀ e ∈ o.after, Region.binds .any e = true → e.on < i := fun i o ho => regOk_after hok ho
  have hanc : ∀ j, ancB T i j = true → listed.getD j false = true := fun j h => anc_listed hok hc i j ho (fun e he hbd => ⟨haft e he hbd, by have := hlt i o ho e he hbd; omega⟩) hlt h
  obtain ⟨hned, hnea⟩ := regOk_ned hok ho
  have hnedb : ∀ j, nedB A i j = true → listed.getD j false = true := fun j h => hanc j (hnea j (by simpa [nedB, ancL] using h))
  have hnot : ∀ j, listed.getD j false = true → ancB T j i = false := fun j hj => by
    cases hcase : ancB T j i
    · rfl
    · have hjl : j < listed.size := by
        rcases Nat.lt_or_ge j listed.size with h' | h'
        · exact h'
        · simp [Array.getElem?_eq_none h'] at hj
      have ho' : ops[j]? = some ops[j] := Array.getElem?_eq_getElem (by omega)
      have := anc_listed hok hc j i ho' (fun e he hbd => ⟨hc j _ hj ho' e he hbd, by have := hlt j _ ho' e he hbd; omega⟩) hlt hcase
      rw [h0'] at this; cases this
  obtain ⟨F, hF⟩ : ∃ F, F = putL ops vs (ancL A i) a0 := ⟨_, rfl⟩
  obtain ⟨L, hL⟩ : ∃ L, L = (List.range ops.size).filter fun j => listed.getD j false := ⟨_, rfl⟩
  obtain ⟨R, hR⟩ : ∃ R, R = L.filter fun j => !nedB A i j := ⟨_, rfl⟩
  have hLa : L.filter (nedB A i) = ancL A i := by
    rw [hL, List.filter_filter, ← hned]
    apply List.filter_congr
    intro j _
    cases hcase : nedB A i j
    · rfl
    · rw [hnedb j hcase]; rfl
  have hLm : ∀ j ∈ L, listed.getD j false = true := fun j hj => by rw [hL] at hj; exact (List.mem_filter.1 hj).2
  have hperm : (ancL A i ++ R).Perm L := by rw [← hLa, hR]; exact List.filter_append_perm _ _
  have haF : a = putL ops vs R F := by rw [ha, hF, ← putL_append, ← hL]; exact (putL_perm hdst hperm a0).symm
  have hRm : ∀ j ∈ R, listed.getD j false = true ∧ nedB A i j = false := fun j hj => by
    rw [hR] at hj
    obtain ⟨h1, h2⟩ := List.mem_filter.1 hj
    exact ⟨hLm j h1, by simpa using h2⟩
  have hne : ∀ j, listed.getD j false = true → i ≠ j := fun j hj e => by subst e; rw [h0'] at hj; cases hj
  have hlook : ∀ j ∈ R, ∀ d, dstOf ops j = some d → d ∉ o.looksAt ops := fun j hj => regOk_look hok ho (hne j (hRm j hj).1) (hRm j hj).2 (hnot j (hRm j hj).1)
  obtain ⟨hx, hw⟩ := execOp_putL (ops := ops) o hsel (vs := vs) R hlook F
  rw [← haF] at hx hw
  have hod : o.dst = dstOf ops i := by simp [dstOf, ho]
  have hputR : ∀ v, a.put o.dst v = putL ops vs R (F.put o.dst v) := fun v => by
    rw [haF]
    exact putL_put R (fun j hj e he => by
      rw [hod]
      intro he2
      exact hdst i j e (hne j (hRm j hj).1) he2 he) F
  have hst := onL_put (vs := vs) (ancL A i) a0 (hstep fun e => by rw [← cnt_ready hXp e hanc hnot h0']; exact hpx) (fun j hj => hI j (hanc j (hnea j hj)))
  rw [← hF] at hst
  unfold stepAtW at hst
  rw [ho] at hst
  simp only at hst
  unfold wpOp
  rw [ho]
  simp only
  refine step_execW hmono hrel hp0 hN hx hw (fun u v e => by rw [hputR, hputR, e]) (fun v w' hG => ?_) hst
  obtain ⟨hIv, hsz, hrl', hpx', hpy, hNv, hoth⟩ := hG
  refine hK _ _ ⟨by simpa using hs, ?_, ⟨Nat.le_trans hb hsz, hrl' hrl, ?_⟩, fun j => if j = i then v else vs j, ?_, ?_, ?_, ?_⟩
  · intro j o' hj ho' e he hbd
    by_cases hji : j = i
    · subst hji
      rw [ho] at ho'; cases ho'
      exact getD_set_true (haft e he hbd)
    · have hji' : i ≠ j := fun e => hji e.symm
      rw [getD_set_ne false hji'] at hj
      exact getD_set_true (hc j o' hj ho' e he hbd)
  · by_cases hix : i ∈ X
    · rw [cnt_set_in hXp hir hix hil h0', cnt_ready hXp hix hanc hnot h0']
      exact hpy hix
    · rw [cnt_set_out hix]
      exact hpx' hix _ hpx
  · have hiL : i ∉ L := fun h => by have := hLm i h; rw [h0'] at this; cases this
    have e1 : a.put o.dst v = putL ops (fun j => if j = i then v else vs j) (L ++ [i]) a0 := by
      rw [putL_append, ha, ← hL, putL_congr (us := vs) (l := L) (fun j hj => if_neg (fun e : j = i => hiL (e ▸ hj)))]
      show _ = (putL ops vs L a0).put (dstOf ops i) (if i = i then v else vs i)
      rw [if_pos rfl, hod]
    rw [e1]
    refine putL_perm hdst ?_ a0
    refine (List.perm_ext_iff_of_nodup ?_ ?_).2 fun j => ?_
    · rw [List.nodup_append]
      refine ⟨by rw [hL]; exact List.Pairwise.filter _ List.nodup_range, by simp, ?_⟩
      intro x hx y hy e
      simp at hy
      subst hy e
      exact hiL hx
    · exact List.Pairwise.filter _ List.nodup_range
    · simp only [List.mem_append, List.mem_singleton, hL, List.mem_filter, List.mem_range]
      by_cases hji : j = i
      · subst hji; simp [hin, hil]
      · have hji' : i ≠ j := fun e => hji e.symm
        rw [getD_set_ne false hji']; simp [hji]
  · intro j hj
    by_cases hji : j = i
    · subst hji; simpa using hIv
    · have hji' : i ≠ j := fun e => hji e.symm
      rw [getD_set_ne false hji'] at hj
      simp only [if_neg hji]
      exact hoth j _ hji (hI j hj)
  · intro j hj hnj
    by_cases hji : j = i
    · subst hji
      obtain ⟨g, h1, h2, h3⟩ := hNv hnj
      exact ⟨g, by simpa using h1, Nat.le_trans hb h2, h3⟩
    · have hji' : i ≠ j := fun e => hji e.symm
      rw [getD_set_ne false hji'] at hj
      simp only [if_neg hji]
      obtain ⟨g, h1, h2, h3⟩ := hN1 j hj hnj
      exact ⟨g, h1, h2, Nat.lt_of_lt_of_le h3 hsz⟩
  · intro j k hj hk hnj hnk hjk
    by_cases hji : j = i
    · subst hji
      rw [getD_set_ne false hjk] at hk
      have hkj : k ≠ j := fun e => hjk e.symm
      simp only [if_neg hkj, if_pos]
      obtain ⟨g, h1, h2, h3⟩ := hNv hnj
      obtain ⟨g', h1', h2', h3'⟩ := hN1 k hk hnk
      rw [h1, h1']
      intro e
      have := Option.some.inj e
      omega
    · have hji' : i ≠ j := fun e => hji e.symm
      rw [getD_set_ne false hji'] at hj
      by_cases hki : k = i
      · subst hki
        simp only [if_neg hji, if_pos]
        obtain ⟨g, h1, h2, h3⟩ := hNv hnk
        obtain ⟨g', h1', h2', h3'⟩ := hN1 j hj hnj
        rw [h1, h1']
        intro e
        have := Option.some.inj e
        omega
      · have hki' : i ≠ k := fun e => hki e.symm
        rw [getD_set_ne false hki'] at hk
        simp only [if_neg hji, if_neg hki]
        exact hN2 j k hj hk hnj hnk hjk

theorem held_tailW {a0 : Act} {w0 : World} (hok : regOk ops A T = true) (ht : tailOk ops T m = true) (hXm : ∀ x ∈ X, x < m) (hmono : ∀ i v w w', Below w.heap.size w w' → I i v w → I i v w') (hrel : ∀ w w', Below w.heap.size w w' → Rel w → Rel w') (hp0 : ∀ k w w', Below w.heap.size w w' → R k w → R k w') (hN : ∀ x ∈ X, N x = false)
    (hXp : X.Pairwise fun a b => ancB T b a = true) (hir : ∀ j, ancB T j j = false) (hstep : ∀ i, i < m → ∀ w, w0.heap.size ≤ w.heap.size → Rel w → (i ∈ X → R (X.idxOf i) w) → onL ops I w (ancL A i) a0 (fun a => stepAtW P ops N I Rel R X i a w))
    (hend : ∀ w (vs : Nat → Value), w0.heap.size ≤ w.heap.size → Rel w → R X.length w → (∀ j, j < m → I j (vs j) w) → (∀ j, j < m → N j = true → ∃ g, blkOf (vs j) = some g ∧ w0.heap.size ≤ g ∧ g < w.heap.size) → (∀ j k, j < m → k < m → N j = true → N k = true → j ≠ k → blkOf (vs j) ≠ blkOf (vs k)) → wpList P ops Q (ops.toList.drop m) (putL ops vs (List.range m) a0) w) :
    ∀ (fuel : Nat) (listed : Array Bool) (a : Act) (w : World), ((List.range m).filter fun j => !listed.getD j false).length + (ops.size - m) ≤ fuel → (∀ j, m ≤ j → listed.getD j false = false) → HeldW ops N I Rel R X a0 w0 listed a w → wpAny P .any ops Q fuel listed a w := by
  intro fuel
  have hms := tailOk_le ht
  have fin : ∀ (fuel : Nat) (listed : Array Bool) (a : Act) (w : World), ops.size - m ≤ fuel → (∀ j, m ≤ j → listed.getD j false = false) → (∀ j, j < m → listed.getD j false = true) → HeldW ops N I Rel R X a0 w0 listed a w → wpAny P .any ops Q fuel listed a w := by
    rintro fuel listed a w hf hno hall ⟨hs, hc, ⟨hb, hrl, hpx⟩, vs, ha, hI, hN1, hN2⟩
    have e : ((List.range ops.size).filter fun j => listed.getD j false) = List.range m := by
      have e1 : ∀ j, listed.getD j false = decide (j < m) := fun j => by
        by_cases hj : j < m
        · rw [hall j hj, decide_eq_true hj]
        · rw [hno j (by omega), decide_eq_false hj]
      simp only [e1]
      obtain ⟨d, hd⟩ := Nat.exists_eq_add_of_le hms
      rw [hd, List.range_add, List.filter_append, List.filter_eq_self.2 (fun j hj => by simpa using hj), List.filter_eq_nil_iff.2 (fun j hj => by
        obtain ⟨k, _, rfl⟩ := List.mem_map.1 hj
        simp), List.append_nil]
    rw [e] at ha
    have hcn : cntW X listed = X.length := by
      unfold cntW
      rw [List.filter_eq_self.2 fun x hx => hall x (hXm x hx)]
    rw [hcn] at hpx
    have h := hend w vs hb hrl hpx (fun j hj => hI j (hall j hj)) (fun j hj => hN1 j (hall j hj)) (fun j k hj hk => hN2 j k (hall j hj) (hall k hk))
    rw [← ha] at h
    refine tail_run hok ht _ m fuel listed a w rfl (Nat.le_refl _) hs hc (fun j _ => ?_) (by simpa using hf) h
    by_cases hj : j < m
    · rw [hall j hj, decide_eq_true hj]
    · rw [hno j (by omega), decide_eq_false hj]
  induction fuel with
  | zero =>
    intro listed a w hf hno hH
    refine fin 0 listed a w (by omega) hno (fun j hj => ?_) hH
    have h0 : ((List.range m).filter fun j => !listed.getD j false) = [] := List.length_eq_zero_iff.1 (by omega)
    have := List.filter_eq_nil_iff.1 h0 j (List.mem_range.2 hj)
    simpa using this
  | succ fuel ih =>
    intro listed a w hf hno hH
    by_cases hall : ∀ j, j < m → listed.getD j false = true
    · exact fin _ listed a w (by omega) hno hall hH
    · obtain ⟨j0, hj0⟩ := Classical.not_forall.1 hall
      obtain ⟨hj0m, hj0l⟩ := Classical.not_imp.1 hj0
      refine ⟨fun hr => absurd (all_listed hok hH.1 hr j0 (by omega)) hj0l, fun i hi => ?_⟩
      obtain ⟨h0, o, ho, -⟩ := mem_ready.1 hi
      have hin : i < ops.size := (Array.getElem?_eq_some_iff.1 ho).1
      have him : i < m := by
        rcases Nat.lt_or_ge i m with h' | h'
        · exact h'
        · exact absurd (ready_anc hok hH.2.1 hi (tailOk_anc ht hin h' (by omega))) hj0l
      have hil : i < listed.size := by rw [hH.1]; exact hin
      refine held_stepW hok hmono hrel hp0 hN hH hi hXp hir (hstep i him w hH.2.2.1.1 hH.2.2.1.2.1) fun a' w' hH' => ih _ _ _ ?_ (fun j hj => ?_) hH'
      · have := count_less him hil (by simpa [hil] using h0)
        omega
      · rw [getD_set_ne false (by omega)]; exact hno j hj

def stepsLW (P : Program) (ops : Array Oper) (N : Nat → Bool) (I : Nat → Value → World → Prop) (Rel : World → Prop) (R : Nat → World → Prop) (X : List Nat) (a0 : Act) (w0 : World) : Nat → List Oper → List (List (Nat × Option Tmp)) → Prop
  | i, o :: l, an :: A => (∀ w, w0.heap.size ≤ w.heap.size → Rel w → (i ∈ X → R (X.idxOf i) w) → onP I w an a0 (fun a => wpList P ops (StepW N I Rel R X i o.dst a w) [o] a w)) ∧ stepsLW P ops N I Rel R X a0 w0 (i + 1) l A
  | _, [], _ => True
  | _, _ :: _, [] => False
theorem stepsLW_at {a0 : Act} {w0 : World} : ∀ (l : List Oper) (A : List (List (Nat × Option Tmp))) (i : Nat), stepsLW P ops N I Rel R X a0 w0 i l A → ∀ k o, l[k]? = some o → ∃ an, A[k]? = some an ∧ ∀ w, w0.heap.size ≤ w.heap.size → Rel w → (i + k ∈ X → R (X.idxOf (i + k)) w) → onP I w an a0 (fun a => wpList P ops (StepW N I Rel R X (i + k) o.dst a w) [o] a w)
  | [], _, _, _, k, o, h => by simp at h
  | _ :: _, [], _, h, _, _, _ => h.elim
  | o :: l, an :: A, i, h, 0, o', ho => by
    simp at ho
    subst ho
    exact ⟨an, rfl, h.1⟩
  | o :: l, an :: A, i, h, k + 1, o', ho => by
    obtain ⟨an', h1, h2⟩ := stepsLW_at l A (i + 1) h.2 k o' (by simpa using ho)
    exact ⟨an', by simpa using h1, by rw [show i + (k + 1) = i + 1 + k by omega]; exact h2⟩
/-- the state of what is written, behind so many writers -/
def atW : List (World → Prop) → Nat → World → Prop
  | [], _ => fun _ => True
  | p :: _, 0 => p
  | _ :: l, k + 1 => atW l k
def keptW : List (World → Prop) → Prop
  | [] => True
  | p :: l => (∀ w w', Below w.heap.size w w' → p w → p w') ∧ keptW l
theorem keptW_at : ∀ (L : List (World → Prop)), keptW L → ∀ k w w', Below w.heap.size w w' → atW L k w → atW L k w'
  | [], _, k, _, _, _, _ => by unfold atW; trivial
  | p :: l, h, 0, w, w', hb, hw => h.1 w w' hb hw
  | p :: l, h, k + 1, w, w', hb, hw => keptW_at l h.2 k w w' hb hw
def pairsB (T : List Nat) : List Nat → Bool
  | [] => true
  | a :: l => (l.all fun b => ancB T b a) && pairsB T l
theorem pairsB_spec : ∀ (X : List Nat), pairsB T X = true → X.Pairwise fun a b => ancB T b a = true
  | [], _ => List.Pairwise.nil
  | a :: l, h => by
    simp only [pairsB, Bool.and_eq_true, List.all_eq_true] at h
    exact List.Pairwise.cons h.1 (pairsB_spec l h.2)
def wOk (T X : List Nat) (m : Nat) (N : Nat → Bool) : Bool := pairsB T X && ((List.range T.length).all fun j => !ancB T j j) && (X.all fun x => decide (x < m) && !N x)
theorem wOk_spec (h : wOk T X m N = true) : (X.Pairwise fun a b => ancB T b a = true) ∧ (∀ j, ancB T j j = false) ∧ (∀ x ∈ X, x < m) ∧ ∀ x ∈ X, N x = false := by
  simp only [wOk, Bool.and_eq_true, List.all_eq_true, List.mem_range, Bool.not_eq_true', decide_eq_true_eq] at h
  refine ⟨pairsB_spec X h.1.1, fun j => ?_, fun x hx => (h.2 x hx).1, fun x hx => (h.2 x hx).2⟩
  by_cases hj : j < T.length
  · exact h.1.2 j hj
  · unfold ancB
    rw [List.getD_eq_getElem?_getD, List.getElem?_eq_none (by omega)]
    simp
/-- a region that draws: the predicates of its head's operations (number m begins the tail), those of N make new blocks, which differ; those of X write, in this order, into memory that was there; then the tail as it stands -/
theorem wp_region_writers {id : Nat} {a0 : Act} {w0 : World} (m : Nat) (X : List Nat) (N : Nat → Bool) (Rel : World → Prop) (RL : List (World → Prop)) (L : List (Value → World → Prop)) (A : List (List (Nat × Option Tmp))) (E : List (Nat × Option Tmp)) (T : List Nat) (hm : P.follows .mixedOrders = true) (hok : regOk ops (A.map (·.map (·.1))) T = true) (ht : tailOk ops T m = true)
    (hd : (A.all fun l => l.all fun p => p.2 == dstOf ops p.1) = true) (hE : (E.all (fun p => p.2 == dstOf ops p.1) && E.map (·.1) == List.range m) = true)
    (hk : keptL L) (hrel : ∀ w w', Below w.heap.size w w' → Rel w → Rel w') (hp0 : keptW RL) (hX : wOk T X m N = true) (hR0 : ∀ w, w.heap = w0.heap → Below w0.heap.size w0 w → Rel w) (hP0 : ∀ w, Below w0.heap.size w0 w → atW RL 0 w) (hstep : stepsLW P ops N (atL L) Rel (atW RL) X a0 w0 0 (ops.toList.take m) A)
    (hend : ∀ w (G : Nat → Option Nat), w0.heap.size ≤ w.heap.size → Rel w → atW RL X.length w → (∀ j, j < m → N j = true → ∃ g, G j = some g ∧ w0.heap.size ≤ g ∧ g < w.heap.size) → (∀ j k, j < m → k < m → N j = true → N k = true → j ≠ k → G j ≠ G k) →
      onP (fun j v w => atL L j v w ∧ (N j = true → blkOf v = G j)) w E a0 (fun a => wpList P ops Q (ops.toList.drop m) a w)) : (Code.region id ops true).wp P Q a0 w0 := by
  simp only [Bool.and_eq_true, beq_iff_eq] at hE
  have hp0' := keptW_at RL hp0
  obtain ⟨hXp, hir, hXm, hN⟩ := wOk_spec hX
  have hmono : ∀ i v w w', Below w.heap.size w w' → atL L i v w → atL L i v w' := fun i => keptL_at L hk i
  have hend' : ∀ w (vs : Nat → Value), w0.heap.size ≤ w.heap.size → Rel w → atW RL X.length w → (∀ j, j < m → atL L j (vs j) w) → (∀ j, j < m → N j = true → ∃ g, blkOf (vs j) = some g ∧ w0.heap.size ≤ g ∧ g < w.heap.size) → (∀ j k, j < m → k < m → N j = true → N k = true → j ≠ k → blkOf (vs j) ≠ blkOf (vs k)) → wpList P ops Q (ops.toList.drop m) (putL ops vs (List.range m) a0) w := fun w vs hw hr hx hI h1 h2 => by
    have h := onP_onL (ops := ops) (I := fun j v w => atL L j v w ∧ (N j = true → blkOf v = (fun j => blkOf (vs j)) j)) (w := w) (k := fun a => wpList P ops Q (ops.toList.drop m) a w) E a0 hE.1 (hend w (fun j => blkOf (vs j)) hw hr hx h1 h2)
    rw [hE.2] at h
    exact onL_put (vs := vs) _ _ h fun j hj => ⟨hI j (List.mem_range.1 hj), fun _ => rfl⟩
  have hst : ∀ i, i < m → ∀ w, w0.heap.size ≤ w.heap.size → Rel w → (i ∈ X → atW RL (X.idxOf i) w) → onL ops (atL L) w (ancL (A.map (·.map (·.1))) i) a0 (fun a => stepAtW P ops N (atL L) Rel (atW RL) X i a w) := fun i hi w hw hr hp => by
    have hi' : i < ops.size := Nat.lt_of_lt_of_le hi (tailOk_le ht)
    have ho : ops[i]? = some ops[i] := Array.getElem?_eq_getElem hi'
    obtain ⟨an, h1, h2⟩ := stepsLW_at (ops.toList.take m) A 0 hstep i ops[i] (by rw [List.getElem?_take, if_pos hi]; simp)
    have e : ancL (A.map (·.map (·.1))) i = an.map (·.1) := by
      unfold ancL
      simp [h1]
    rw [Nat.zero_add] at h2
    have h3 := h2 w hw hr hp
    rw [e]
    have h4 := onP_onL (ops := ops) an a0 (List.all_eq_true.1 hd an (List.mem_of_getElem? h1)) h3
    unfold stepAtW
    rw [ho]
    exact h4
  refine wp_region_any hm (held_tailW hok ht hXm hmono hrel hp0' hN hXp hir hst hend' _ _ _ _ ?_ (fun j _ => rep_false _ _) ⟨by simp, ?_, ⟨?_, ?_, ?_⟩, fun _ => undef, ?_, ?_, ?_, ?_⟩)
  · have h1 := List.length_filter_le (fun j => !(Array.replicate ops.size false).getD j false) (List.range m)
    have := tailOk_le ht
    rw [List.length_range] at h1
    omega
  · intro i o hi
    rw [rep_false] at hi; cases hi
  · exact Nat.le_refl _
  · exact hR0 _ rfl (Below.drew (Below.refl _ _))
  · have e : cntW X (Array.replicate ops.size false) = 0 := by
      unfold cntW
      rw [List.filter_eq_nil_iff.2 fun j _ => by rw [rep_false]; exact Bool.false_ne_true]
      rfl
    rw [e]
    exact hP0 _ (Below.drew (Below.refl _ _))
  · have e : ((List.range ops.size).filter fun j => (Array.replicate ops.size false).getD j false) = [] := List.filter_eq_nil_iff.2 fun j _ => by rw [rep_false]; exact Bool.false_ne_true
    rw [e]; rfl
  · intro j hj
    rw [rep_false] at hj; cases hj
  · intro j hj
    rw [rep_false] at hj; cases hj
  · intro j k hj
    rw [rep_false] at hj; cases hj
theorem StepW.of_ne {i : Nat} {d : Option Tmp} {a a' : Act} {w w' : World} {e : Exit} (hne : i ∉ X) (h : StepN N I i d a w e a' w') : StepW N I Rel R X i d a w e a' w' := by
  unfold StepW; rw [if_neg hne]; exact h
theorem StepW.of_eq {i : Nat} {d : Option Tmp} {a a' : Act} {w w' : World} {e : Exit} (he : i ∈ X) (h : StepXW I Rel R X i d a w e a' w') : StepW N I Rel R X i d a w e a' w' := by
  unfold StepW; rw [if_pos he]; exact h
end
end Go.Proofs.Ytnbppbnjkmopeaa
