/- A region that draws its order of what stands ahead of a forced tail: the head by predicates (RegInv), the tail in the text's order. No condition. -/
import Derived.Test.YtnbppbnjkmopeaaRegInv
namespace Go.Proofs.Ytnbppbnjkmopeaa
open Go.RowKit

def tailOk (ops : Array Oper) (T : List Nat) (m : Nat) : Bool := decide (m ≤ ops.size) && (List.range ops.size).all fun i => decide (i < m) || (List.range i).all fun j => ancB T i j

section
variable {P : Program} {ops : Array Oper} {Q : Exit → Act → World → Prop} {I : Nat → Value → World → Prop} {A : List (List Nat)} {T : List Nat} {m : Nat}

theorem tailOk_le (h : tailOk ops T m = true) : m ≤ ops.size := by
  unfold tailOk at h
  simp only [Bool.and_eq_true, decide_eq_true_eq] at h
  exact h.1
theorem tailOk_anc (h : tailOk ops T m = true) {i j : Nat} (hi : i < ops.size) (hm : m ≤ i) (hj : j < i) : ancB T i j = true := by
  unfold tailOk at h
  simp only [Bool.and_eq_true, List.all_eq_true, List.mem_range, Bool.or_eq_true, decide_eq_true_eq] at h
  rcases h.2 i hi with h1 | h1
  · omega
  · exact h1 j hj
theorem ready_anc (hok : regOk ops A T = true) {listed : Array Bool} (hc : Closed ops listed) {i j : Nat} (hi : i ∈ Region.ready .any ops listed) (h : ancB T i j = true) : listed.getD j false = true := by
  obtain ⟨h0, o, ho, haft⟩ := mem_ready.1 hi
  have hin : i < ops.size := (Array.getElem?_eq_some_iff.1 ho).1
  exact anc_listed hok hc i j ho (fun e he hbd => ⟨haft e he hbd, by have := regOk_after hok ho e he hbd; omega⟩) (fun i o ho => regOk_after hok ho) h
theorem tail_run (hok : regOk ops A T = true) (ht : tailOk ops T m = true) : ∀ (l : List Oper) (k fuel : Nat) (listed : Array Bool) (a : Act) (w : World), ops.toList.drop k = l → m ≤ k → listed.size = ops.size → Closed ops listed →
    (∀ j, j < ops.size → listed.getD j false = decide (j < k)) → l.length ≤ fuel → wpList P ops Q l a w → wpAny P .any ops Q fuel listed a w
  | [], k, fuel, listed, a, w, hl, hm, hs, hc, hall, hf, h => by
    have hk : ops.size ≤ k := by simpa using List.drop_eq_nil_iff.1 hl
    have hr : Region.ready .any ops listed = [] := by
      apply List.eq_nil_iff_forall_not_mem.2
      intro j hj
      obtain ⟨h0, o, ho, _⟩ := mem_ready.1 hj
      have hjl : j < ops.size := (Array.getElem?_eq_some_iff.1 ho).1
      have h1 := hall j hjl
      rw [decide_eq_true (by omega)] at h1
      have hj' : j < listed.size := by omega
      simp [hj'] at h0 h1
      rw [h0] at h1; cases h1
    cases fuel with
    | zero => exact ⟨hr, h⟩
    | succ f => exact ⟨fun _ => h, by rw [hr]; simp⟩
  | o :: l, k, 0, listed, a, w, hl, hm, hs, hc, hall, hf, h => by simp at hf
  | o :: l, k, f + 1, listed, a, w, hl, hm, hs, hc, hall, hf, h => by
    have hkl : k < ops.size := by
      rcases Nat.lt_or_ge k ops.size with h' | h'
      · exact h'
      · rw [List.drop_eq_nil_iff.2 (by simpa using h')] at hl; cases hl
    have ho : ops[k]? = some o := by
      have : (ops.toList.drop k)[0]? = some o := by rw [hl]; rfl
      simpa using this
    have hl' : ops.toList.drop (k + 1) = l := by rw [← List.tail_drop, hl]; rfl
    have hkr : k ∈ Region.ready .any ops listed := mem_ready.2 ⟨by
      have h1 := hall k hkl
      rw [decide_eq_false (by omega)] at h1
      have hj' : k < listed.size := by omega
      simp [hj'] at h1 ⊢
      exact h1, o, ho, fun e he hb => by
        have := regOk_after hok ho e he hb
        rw [hall e.on (by omega), decide_eq_true this]⟩
    refine ⟨fun hr => by (rw [hr] at hkr; cases hkr), fun i hi => ?_⟩
    have hik : i = k := by
      obtain ⟨h0, oi, hoi, _⟩ := mem_ready.1 hi
      have hil : i < ops.size := (Array.getElem?_eq_some_iff.1 hoi).1
      have h1 := hall i hil
      have hj' : i < listed.size := by omega
      have h2 : listed.getD i false = false := by simpa [hj'] using h0
      rw [h2] at h1
      have hge : ¬ i < k := by simpa using h1.symm
      rcases Nat.lt_or_ge k i with hlt | hle
      · have := ready_anc hok hc hi (tailOk_anc ht hil (by omega) hlt)
        rw [hall k hkl, decide_eq_false (by omega)] at this
        cases this
      · omega
    subst hik
    unfold wpList at h
    unfold wpOp
    rw [ho]
    simp only
    have key : ∀ a' w', wpList P ops Q l a' w' → wpAny P .any ops Q f (listed.setIfInBounds i true) a' w' := fun a' w' h' => by
      refine tail_run hok ht l (i + 1) f _ a' w' hl' (by omega) (by simpa using hs) ?_ ?_ (by simpa using hf) h'
      · intro j o' hj ho' e he hbd
        by_cases hji : j = i
        · subst hji
          rw [ho] at ho'; cases ho'
          have := regOk_after hok ho e he hbd
          refine getD_set_true ?_
          rw [hall e.on (by omega), decide_eq_true this]
        · have hji' : i ≠ j := fun e => hji e.symm
          rw [getD_set_ne false hji'] at hj
          exact getD_set_true (hc j o' hj ho' e he hbd)
      · intro j hj
        by_cases hji : j = i
        · subst hji
          have hj' : j < listed.size := by omega
          simp [hj']
        · have hji' : i ≠ j := fun e => hji e.symm
          rw [getD_set_ne false hji', hall j hj]
          have : (j < i) ↔ (j < i + 1) := by omega
          simp [this]
    split
    · rename_i hw
      rw [if_pos hw] at h
      exact h.imp (Oper.wp_mono key) id
    · rename_i hw
      rw [if_neg hw] at h
      exact key _ _ h

theorem held_tail {a0 : Act} {w0 : World} (hok : regOk ops A T = true) (ht : tailOk ops T m = true) (hmono : ∀ i v w w', Below w.heap.size w w' → I i v w → I i v w')
    (hstep : ∀ i, i < m → ∀ w, Below w0.heap.size w0 w → onL ops I w (ancL A i) a0 (fun a => stepAt P ops I i a w))
    (hend : ∀ w, Below w0.heap.size w0 w → onL ops I w (List.range m) a0 (fun a => wpList P ops Q (ops.toList.drop m) a w)) :
    ∀ (fuel : Nat) (listed : Array Bool) (a : Act) (w : World), ((List.range m).filter fun j => !listed.getD j false).length + (ops.size - m) ≤ fuel → (∀ j, m ≤ j → listed.getD j false = false) → Held ops I a0 w0 listed a w → wpAny P .any ops Q fuel listed a w := by
  intro fuel
  have hms := tailOk_le ht
  have fin : ∀ (fuel : Nat) (listed : Array Bool) (a : Act) (w : World), ops.size - m ≤ fuel → (∀ j, m ≤ j → listed.getD j false = false) → (∀ j, j < m → listed.getD j false = true) → Held ops I a0 w0 listed a w → wpAny P .any ops Q fuel listed a w := by
    rintro fuel listed a w hf hno hall ⟨hs, hc, hb, vs, ha, hI⟩
    have e : ((List.range ops.size).filter fun j => listed.getD j false) = List.range m := by
      have e1 : ∀ j, listed.getD j false = decide (j < m) := fun j => by
        by_cases hj : j < m
        · rw [hall j hj, decide_eq_true hj]
        · rw [hno j (by omega), decide_eq_false hj]
      simp only [e1]
      obtain ⟨d, hd⟩ := Nat.exists_eq_add_of_le hms
      rw [hd, List.range_add, List.filter_append, List.filter_eq_self.2 (fun j hj => by simpa using hj), List.filter_eq_nil_iff.2 (fun j hj => by
        obtain ⟨k, _, rfl⟩ := List.mem_map.1 hj
        simp), List.append_nil]
    rw [e] at ha
    have h := onL_put (vs := vs) _ _ (hend w hb) fun j hj => hI j (hall j (List.mem_range.1 hj))
    rw [← ha] at h
    refine tail_run hok ht _ m fuel listed a w rfl (Nat.le_refl _) hs hc (fun j _ => ?_) (by simpa using hf) h
    by_cases hj : j < m
    · rw [hall j hj, decide_eq_true hj]
    · rw [hno j (by omega), decide_eq_false hj]
  induction fuel with
  | zero =>
    intro listed a w hf hno hH
    refine fin 0 listed a w (by omega) hno (fun j hj => ?_) hH
    have h0 : ((List.range m).filter fun j => !listed.getD j false) = [] := List.length_eq_zero_iff.1 (by omega)
    have := List.filter_eq_nil_iff.1 h0 j (List.mem_range.2 hj)
    simpa using this
  | succ fuel ih =>
    intro listed a w hf hno hH
    by_cases hall : ∀ j, j < m → listed.getD j false = true
    · exact fin _ listed a w (by omega) hno hall hH
    · obtain ⟨j0, hj0⟩ := Classical.not_forall.1 hall
      obtain ⟨hj0m, hj0l⟩ := Classical.not_imp.1 hj0
      refine ⟨fun hr => absurd (all_listed hok hH.1 hr j0 (by omega)) hj0l, fun i hi => ?_⟩
      obtain ⟨h0, o, ho, -⟩ := mem_ready.1 hi
      have hin : i < ops.size := (Array.getElem?_eq_some_iff.1 ho).1
      have him : i < m := by
        rcases Nat.lt_or_ge i m with h' | h'
        · exact h'
        · exact absurd (ready_anc hok hH.2.1 hi (tailOk_anc ht hin h' (by omega))) hj0l
      have hil : i < listed.size := by rw [hH.1]; exact hin
      refine held_step hok hmono hH hi (hstep i him w hH.2.2.1) fun a' w' hH' => ih _ _ _ ?_ (fun j hj => ?_) hH'
      · have := count_less him hil (by simpa [hil] using h0)
        omega
      · rw [getD_set_ne false (by omega)]; exact hno j hj

/-- a region that draws: the predicates of its head's operations (number m begins the tail), then the tail as it stands -/
theorem wp_region_tail {id : Nat} {a0 : Act} {w0 : World} (m : Nat) (L : List (Value → World → Prop)) (A : List (List (Nat × Option Tmp))) (E : List (Nat × Option Tmp)) (T : List Nat) (hm : P.follows .mixedOrders = true) (hok : regOk ops (A.map (·.map (·.1))) T = true) (ht : tailOk ops T m = true)
    (hd : (A.all fun l => l.all fun p => p.2 == dstOf ops p.1) = true) (hE : (E.all (fun p => p.2 == dstOf ops p.1) && E.map (·.1) == List.range m) = true)
    (hk : keptL L) (hstep : stepsL P ops (atL L) a0 w0 0 (ops.toList.take m) A)
    (hend : ∀ w, Below w0.heap.size w0 w → onP (atL L) w E a0 (fun a => wpList P ops Q (ops.toList.drop m) a w)) : (Code.region id ops true).wp P Q a0 w0 := by
  simp only [Bool.and_eq_true, beq_iff_eq] at hE
  have hmono : ∀ i v w w', Below w.heap.size w w' → atL L i v w → atL L i v w' := fun i => keptL_at L hk i
  have hend' : ∀ w, Below w0.heap.size w0 w → onL ops (atL L) w (List.range m) a0 (fun a => wpList P ops Q (ops.toList.drop m) a w) := fun w hw => by
    have h := onP_onL (ops := ops) (I := atL L) (w := w) (k := fun a => wpList P ops Q (ops.toList.drop m) a w) E a0 hE.1 (hend w hw)
    rw [hE.2] at h
    exact h
  have hst : ∀ i, i < m → ∀ w, Below w0.heap.size w0 w → onL ops (atL L) w (ancL (A.map (·.map (·.1))) i) a0 (fun a => stepAt P ops (atL L) i a w) := fun i hi w hw => by
    have hi' : i < ops.size := Nat.lt_of_lt_of_le hi (tailOk_le ht)
    have ho : ops[i]? = some ops[i] := Array.getElem?_eq_getElem hi'
    obtain ⟨an, h1, h2⟩ := stepsL_at (ops.toList.take m) A 0 hstep i ops[i] (by rw [List.getElem?_take, if_pos hi]; simp)
    have e : ancL (A.map (·.map (·.1))) i = an.map (·.1) := by
      unfold ancL
      simp [h1]
    have h3 := h2 w hw
    rw [Nat.zero_add] at h3
    rw [e]
    have h4 := onP_onL (ops := ops) an a0 (List.all_eq_true.1 hd an (List.mem_of_getElem? h1)) h3
    unfold stepAt
    rw [ho]
    exact h4
  refine wp_region_any hm (held_tail hok ht hmono hst hend' _ _ _ _ ?_ (fun j _ => rep_false _ _) ⟨by simp, ?_, ?_, fun _ => undef, ?_, ?_⟩)
  · have h1 := List.length_filter_le (fun j => !(Array.replicate ops.size false).getD j false) (List.range m)
    have := tailOk_le ht
    rw [List.length_range] at h1
    omega
  · intro i o hi
    rw [rep_false] at hi; cases hi
  · exact Below.drew (Below.refl _ _)
  · have e : ((List.range ops.size).filter fun j => (Array.replicate ops.size false).getD j false) = [] := List.filter_eq_nil_iff.2 fun j _ => by rw [rep_false]; exact Bool.false_ne_true
    rw [e]; rfl
  · intro j hj
    rw [rep_false] at hj; cases hj
end
end Go.Proofs.Ytnbppbnjkmopeaa
