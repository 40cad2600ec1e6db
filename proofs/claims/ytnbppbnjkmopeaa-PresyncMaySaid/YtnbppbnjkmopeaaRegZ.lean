/- Regions that draw whose tail need not wait for operations that only reckon. No condition. -/
import Derived.Test.YtnbppbnjkmopeaaReg
namespace Go.Proofs.Ytnbppbnjkmopeaa
open Go.RowKit

/-- has operation o an edge upon z? -/
def edgeB (o : Oper) (z : Nat) : Bool := o.after.toList.any fun e => Region.binds .any e && e.on == z
/-- from number m on one comes behind the other, and behind all ahead of m but those of Z; whoever does not wait for one of Z is apart from it -/
def tailZ (ops : Array Oper) (T : List Nat) (m : Nat) (Z : List Nat) : Bool :=
  decide (m ≤ ops.size) && ((List.range ops.size).all fun i => decide (i < m) || (List.range i).all fun j => ancB T i j || (decide (j < m) && Z.contains j)) &&
  (Z.all fun z => decide (z < m) && match ops[z]? with
    | some oz => (List.range ops.size).all fun j => decide (j = z) || ancB T z j || match ops[j]? with
      | some oj => edgeB oj z || oz.apart ops oj
      | none => true
    | none => false)

section
variable {P : Program} {ops : Array Oper} {Q : Exit → Act → World → Prop} {N : Nat → Bool} {I : Nat → Value → World → Prop} {A : List (List Nat)} {T Z : List Nat} {m : Nat}
theorem tailZ_le (h : tailZ ops T m Z = true) : m ≤ ops.size := by
  unfold tailZ at h
  simp only [Bool.and_eq_true, decide_eq_true_eq] at h
  exact h.1.1
theorem tailZ_anc (h : tailZ ops T m Z = true) {i j : Nat} (hi : i < ops.size) (hm : m ≤ i) (hj : j < i) : ancB T i j = true ∨ (j < m ∧ j ∈ Z) := by
  unfold tailZ at h
  simp only [Bool.and_eq_true] at h
  have h1 := List.all_eq_true.1 h.1.2 i (List.mem_range.2 hi)
  rw [decide_eq_false (by omega), Bool.false_or] at h1
  have h2 := List.all_eq_true.1 h1 j (List.mem_range.2 hj)
  rw [Bool.or_eq_true] at h2
  refine h2.imp id fun h => ?_
  rw [Bool.and_eq_true, decide_eq_true_eq] at h
  exact ⟨h.1, by simpa using h.2⟩
theorem tailZ_z (h : tailZ ops T m Z = true) {z : Nat} (hz : z ∈ Z) : z < m ∧ ∃ oz, ops[z]? = some oz ∧ ∀ j oj, ops[j]? = some oj → j ≠ z → ancB T z j = false → (∀ e ∈ oj.after, Region.binds .any e = true → e.on ≠ z) → oz.apart ops oj = true := by
  unfold tailZ at h
  simp only [Bool.and_eq_true] at h
  have h1 := List.all_eq_true.1 h.2 z hz
  rw [Bool.and_eq_true, decide_eq_true_eq] at h1
  refine ⟨h1.1, ?_⟩
  have h2 := h1.2
  rcases hoz : ops[z]? with _ | oz
  · rw [hoz] at h2; cases h2
  · refine ⟨oz, rfl, fun j oj hoj hne hna hno => ?_⟩
    rw [hoz] at h2
    have hjl : j < ops.size := (Array.getElem?_eq_some_iff.1 hoj).1
    have h3 := List.all_eq_true.1 h2 j (List.mem_range.2 hjl)
    rw [decide_eq_false hne, hna, Bool.false_or, Bool.false_or, hoj] at h3
    simp only [Bool.or_eq_true] at h3
    refine h3.resolve_left fun he => ?_
    unfold edgeB at he
    obtain ⟨e, he1, he2⟩ := List.any_eq_true.1 he
    rw [Bool.and_eq_true, beq_iff_eq] at he2
    exact hno e (by simpa using he1) he2.1 he2.2
theorem tail_runZ (hok : regOk ops A T = true) (ht : tailZ ops T m Z = true) : ∀ (l : List Oper) (k fuel : Nat) (listed : Array Bool) (a : Act) (w : World), ops.toList.drop k = l → m ≤ k → listed.size = ops.size → Closed ops listed →
    (∀ j, j < ops.size → listed.getD j false = decide (j < k)) → l.length ≤ fuel → wpList P ops Q l a w → wpAny P .any ops Q fuel listed a w
  | [], k, fuel, listed, a, w, hl, hm, hs, hc, hall, hf, h => by
    have hk : ops.size ≤ k := by simpa using List.drop_eq_nil_iff.1 hl
    have hr : Region.ready .any ops listed = [] := by
      apply List.eq_nil_iff_forall_not_mem.2
      intro j hj
      obtain ⟨h0, o, ho, _⟩ := mem_ready.1 hj
      have hjl : j < ops.size := (Array.getElem?_eq_some_iff.1 ho).1
      have h1 := hall j hjl
      rw [decide_eq_true (by omega)] at h1
      have hj' : j < listed.size := by omega
      simp [hj'] at h0 h1
      rw [h0] at h1; cases h1
    cases fuel with
    | zero => exact ⟨hr, h⟩
    | succ f => exact ⟨fun _ => h, by rw [hr]; simp⟩
  | o :: l, k, 0, listed, a, w, hl, hm, hs, hc, hall, hf, h => by simp at hf
  | o :: l, k, f + 1, listed, a, w, hl, hm, hs, hc, hall, hf, h => by
    have hkl : k < ops.size := by
      rcases Nat.lt_or_ge k ops.size with h' | h'
      · exact h'
      · rw [List.drop_eq_nil_iff.2 (by simpa using h')] at hl; cases hl
    have ho : ops[k]? = some o := by
      have : (ops.toList.drop k)[0]? = some o := by rw [hl]; rfl
      simpa using this
    have hl' : ops.toList.drop (k + 1) = l := by rw [← List.tail_drop, hl]; rfl
    have hkr : k ∈ Region.ready .any ops listed := mem_ready.2 ⟨by
      have h1 := hall k hkl
      rw [decide_eq_false (by omega)] at h1
      have hj' : k < listed.size := by omega
      simp [hj'] at h1 ⊢
      exact h1, o, ho, fun e he hb => by
        have := regOk_after hok ho e he hb
        rw [hall e.on (by omega), decide_eq_true this]⟩
    refine ⟨fun hr => by (rw [hr] at hkr; cases hkr), fun i hi => ?_⟩
    have hik : i = k := by
      obtain ⟨h0, oi, hoi, _⟩ := mem_ready.1 hi
      have hil : i < ops.size := (Array.getElem?_eq_some_iff.1 hoi).1
      have h1 := hall i hil
      have hj' : i < listed.size := by omega
      have h2 : listed.getD i false = false := by simpa [hj'] using h0
      rw [h2] at h1
      have hge : ¬ i < k := by simpa using h1.symm
      rcases Nat.lt_or_ge k i with hlt | hle
      · have := ready_anc hok hc hi ((tailZ_anc ht hil (by omega) hlt).resolve_right fun h => by omega)
        rw [hall k hkl, decide_eq_false (by omega)] at this
        cases this
      · omega
    subst hik
    unfold wpList at h
    unfold wpOp
    rw [ho]
    simp only
    have key : ∀ a' w', wpList P ops Q l a' w' → wpAny P .any ops Q f (listed.setIfInBounds i true) a' w' := fun a' w' h' => by
      refine tail_runZ hok ht l (i + 1) f _ a' w' hl' (by omega) (by simpa using hs) ?_ ?_ (by simpa using hf) h'
      · intro j o' hj ho' e he hbd
        by_cases hji : j = i
        · subst hji
          rw [ho] at ho'; cases ho'
          have := regOk_after hok ho e he hbd
          refine getD_set_true ?_
          rw [hall e.on (by omega), decide_eq_true this]
        · have hji' : i ≠ j := fun e => hji e.symm
          rw [getD_set_ne false hji'] at hj
          exact getD_set_true (hc j o' hj ho' e he hbd)
      · intro j hj
        by_cases hji : j = i
        · subst hji
          have hj' : j < listed.size := by omega
          simp [hj']
        · have hji' : i ≠ j := fun e => hji e.symm
          rw [getD_set_ne false hji', hall j hj]
          have : (j < i) ↔ (j < i + 1) := by omega
          simp [this]
    split
    · rename_i hw
      rw [if_pos hw] at h
      exact h.imp (Oper.wp_mono key) id
    · rename_i hw
      rw [if_neg hw] at h
      exact key _ _ h
/-- the end alone, no panic -/
abbrev QN (Q : Exit → Act → World → Prop) : Exit → Act → World → Prop
  | .normal, a, w => Q .normal a w
  | _, _, _ => False
theorem wpOp_shut {i : Nat} {a : Act} {w : World} {K : Act → World → Prop} (h : wpOp P ops (QN Q) i K a w) : wpOp P ops Q i K a w := by
  have nol : ¬ LetsOut (QN Q) := by
    rintro ⟨_, _, h⟩
    exact h
  unfold wpOp at *
  rcases hc : ops[i]? with _ | o
  · rw [hc] at h
    exact h
  · rw [hc] at h
    simp only at h ⊢
    split
    · rename_i hwn
      rw [if_pos hwn] at h
      left
      replace h := h.resolve_right fun x => nol x.2
      unfold Oper.wp at *
      generalize (execOp a.eval o).run P w = r at *
      cases r with
      | ok n w' =>
        cases n <;> simp only [Oper.upon] at h ⊢
        case value u => exact h
        case skip => exact h
        case defer d => exact h
        case enter f args =>
          refine Calls.mono h fun e w'' he => ?_
          cases e with
          | returned u => exact he
          | panicked c => exact absurd he (by simp [QN])
          | outgrown => exact absurd he nol
        case row row args => exact Rows.mono h fun u w'' he => he
      | halt x w' =>
        cases x <;> simp only [Oper.upon] at h ⊢
        case panic u => exact absurd h (by simp [QN])
    · rename_i hwn
      rw [if_neg hwn] at h
      exact h
theorem wpAny_shut : ∀ (fuel : Nat) (listed : Array Bool) (a : Act) (w : World), wpAny P .any ops (QN Q) fuel listed a w → wpAny P .any ops Q fuel listed a w
  | 0, _, _, _, h => h
  | fuel + 1, _, _, _, h => ⟨h.1, fun i hi => wpOp_shut (wpOp_mono (fun a' w' h' => wpAny_shut fuel _ a' w' h') (h.2 i hi))⟩
/-- what operation i looks at in the state behind the listed ones -/
theorem held_frameN {a0 : Act} {w0 : World} (hok : regOk ops A T = true) {listed : Array Bool} {a : Act} {w : World} (hH : HeldN ops N I a0 w0 listed a w) {i : Nat} (hi : i ∈ Region.ready .any ops listed) {o : Oper} (ho' : ops[i]? = some o) :
    ∃ vs : Nat → Value, (∀ j ∈ ancL A i, I j (vs j) w) ∧ execOp a.eval o = execOp (putL ops vs (ancL A i) a0).eval o ∧ Region.wanted o (yielded ops a.tmps) = Region.wanted o (yielded ops (putL ops vs (ancL A i) a0).tmps) := by
  obtain ⟨h0, o', ho, haft⟩ := mem_ready.1 hi
  obtain rfl : o = o' := Option.some.inj (ho'.symm.trans ho)
  have hin : i < ops.size := (Array.getElem?_eq_some_iff.1 ho).1
  obtain ⟨hs, hc, hb, vs, ha, hI, hN1, hN2⟩ := hH
  have hil : i < listed.size := by omega
  have h0' : listed.getD i false = false := by simpa [hil] using h0
  have hsel : ∀ cs b, o.op ≠ .select cs b := fun cs b => Region.noSelect_spec (regOk_select hok) i o cs b ho
  have hdst := regOk_dst hok
  have hlt : ∀ i o, ops[i]? = some o → ∀ e ∈ o.after, Region.binds .any e = true → e.on < i := fun i o ho => regOk_after hok ho
  have hanc : ∀ j, ancB T i j = true → listed.getD j false = true := fun j h => anc_listed hok hc i j ho (fun e he hbd => ⟨haft e he hbd, by have := hlt i o ho e he hbd; omega⟩) hlt h
  obtain ⟨hned, hnea⟩ := regOk_ned hok ho
  have hnedb : ∀ j, nedB A i j = true → listed.getD j false = true := fun j h => hanc j (hnea j (by simpa [nedB, ancL] using h))
  have hnot : ∀ j, listed.getD j false = true → ancB T j i = false := fun j hj => by
    cases hcase : ancB T j i
    · rfl
    · have hjl : j < listed.size := by
        rcases Nat.lt_or_ge j listed.size with h' | h'
        · exact h'
        · simp [Array.getElem?_eq_none h'] at hj
      have ho' : ops[j]? = some ops[j] := Array.getElem?_eq_getElem (by omega)
      have := anc_listed hok hc j i ho' (fun e he hbd => ⟨hc j _ hj ho' e he hbd, by have := hlt j _ ho' e he hbd; omega⟩) hlt hcase
      rw [h0'] at this; cases this
  obtain ⟨F, hF⟩ : ∃ F, F = putL ops vs (ancL A i) a0 := ⟨_, rfl⟩
  obtain ⟨L, hL⟩ : ∃ L, L = (List.range ops.size).filter fun j => listed.getD j false := ⟨_, rfl⟩
  obtain ⟨R, hR⟩ : ∃ R, R = L.filter fun j => !nedB A i j := ⟨_, rfl⟩
  have hLa : L.filter (nedB A i) = ancL A i := by
    rw [hL, List.filter_filter, ← hned]
    apply List.filter_congr
    intro j _
    cases hcase : nedB A i j
    · rfl
    · rw [hnedb j hcase]; rfl
  have hLm : ∀ j ∈ L, listed.getD j false = true := fun j hj => by rw [hL] at hj; exact (List.mem_filter.1 hj).2
  have hperm : (ancL A i ++ R).Perm L := by rw [← hLa, hR]; exact List.filter_append_perm _ _
  have haF : a = putL ops vs R F := by rw [ha, hF, ← putL_append, ← hL]; exact (putL_perm hdst hperm a0).symm
  have hRm : ∀ j ∈ R, listed.getD j false = true ∧ nedB A i j = false := fun j hj => by
    rw [hR] at hj
    obtain ⟨h1, h2⟩ := List.mem_filter.1 hj
    exact ⟨hLm j h1, by simpa using h2⟩
  have hne : ∀ j, listed.getD j false = true → i ≠ j := fun j hj e => by subst e; rw [h0'] at hj; cases hj
  have hlook : ∀ j ∈ R, ∀ d, dstOf ops j = some d → d ∉ o.looksAt ops := fun j hj => regOk_look hok ho (hne j (hRm j hj).1) (hRm j hj).2 (hnot j (hRm j hj).1)
  obtain ⟨hx, hw⟩ := execOp_putL (ops := ops) o hsel (vs := vs) R hlook F
  rw [← haF, hF] at hx hw
  exact ⟨vs, fun j hj => hI j (hanc j (hnea j hj)), hx, hw⟩
theorem yields_put {i : Nat} {o : Oper} {v : Value} {a : Act} {w : World} {K : Act → World → Prop} (ho : ops[i]? = some o) (hy : Yields P ops o v a) (h : wpOp P ops (fun _ _ _ => False) i K a w) : K (a.put o.dst v) w := by
  unfold wpOp at h
  rw [ho] at h
  simp only at h
  rcases hy with ⟨hw, hv⟩ | ⟨hw, rfl⟩
  · rw [if_pos hw] at h
    have h' := h.resolve_right fun x => by
      obtain ⟨_, _, h⟩ := x.2
      exact h
    unfold Oper.wp at h'
    rw [hv w] at h'
    exact h'
  · rw [if_neg (by rw [hw]; exact Bool.false_ne_true)] at h
    exact h
theorem held_tailZ {a0 : Act} {w0 : World} (hok : regOk ops A T = true) (ht : tailZ ops T m Z = true) (hmono : ∀ i v w w', Below w.heap.size w w' → I i v w → I i v w')
    (hstep : ∀ i, i < m → ∀ w, Below w0.heap.size w0 w → onL ops I w (ancL A i) a0 (fun a => stepAtN P ops N I i a w))
    (hq : ∀ z ∈ Z, ∀ w, Below w0.heap.size w0 w → onL ops I w (ancL A z) a0 (fun a => ∃ o v, ops[z]? = some o ∧ Yields P ops o v a))
    (hQ : ∀ c a w d v, Q (.panic c) (a.put d v) w → Q (.panic c) a w)
    (hend : ∀ w (vs : Nat → Value), Below w0.heap.size w0 w → (∀ j, j < m → I j (vs j) w) → (∀ j, j < m → N j = true → ∃ g, blkOf (vs j) = some g ∧ w0.heap.size ≤ g ∧ g < w.heap.size) → (∀ j k, j < m → k < m → N j = true → N k = true → j ≠ k → blkOf (vs j) ≠ blkOf (vs k)) → wpList P ops Q (ops.toList.drop m) (putL ops vs (List.range m) a0) w) :
    ∀ (fuel : Nat) (listed : Array Bool) (a : Act) (w : World), ((List.range m).filter fun j => !listed.getD j false).length + (ops.size - m) ≤ fuel → (∀ j, m ≤ j → listed.getD j false = false) → HeldN ops N I a0 w0 listed a w → wpAny P .any ops Q fuel listed a w := by
  intro fuel
  have hms := tailZ_le ht
  have fin : ∀ (fuel : Nat) (listed : Array Bool) (a : Act) (w : World), ops.size - m ≤ fuel → (∀ j, m ≤ j → listed.getD j false = false) → (∀ j, j < m → listed.getD j false = true) → HeldN ops N I a0 w0 listed a w → wpAny P .any ops Q fuel listed a w := by
    rintro fuel listed a w hf hno hall ⟨hs, hc, hb, vs, ha, hI, hN1, hN2⟩
    have e : ((List.range ops.size).filter fun j => listed.getD j false) = List.range m := by
      have e1 : ∀ j, listed.getD j false = decide (j < m) := fun j => by
        by_cases hj : j < m
        · rw [hall j hj, decide_eq_true hj]
        · rw [hno j (by omega), decide_eq_false hj]
      simp only [e1]
      obtain ⟨d, hd⟩ := Nat.exists_eq_add_of_le hms
      rw [hd, List.range_add, List.filter_append, List.filter_eq_self.2 (fun j hj => by simpa using hj), List.filter_eq_nil_iff.2 (fun j hj => by
        obtain ⟨k, _, rfl⟩ := List.mem_map.1 hj
        simp), List.append_nil]
    rw [e] at ha
    have h := hend w vs hb (fun j hj => hI j (hall j hj)) (fun j hj => hN1 j (hall j hj)) (fun j k hj hk => hN2 j k (hall j hj) (hall k hk))
    rw [← ha] at h
    refine tail_runZ hok ht _ m fuel listed a w rfl (Nat.le_refl _) hs hc (fun j _ => ?_) (by simpa using hf) h
    by_cases hj : j < m
    · rw [hall j hj, decide_eq_true hj]
    · rw [hno j (by omega), decide_eq_false hj]
  induction fuel with
  | zero =>
    intro listed a w hf hno hH
    refine fin 0 listed a w (by omega) hno (fun j hj => ?_) hH
    have h0 : ((List.range m).filter fun j => !listed.getD j false) = [] := List.length_eq_zero_iff.1 (by omega)
    have := List.filter_eq_nil_iff.1 h0 j (List.mem_range.2 hj)
    simpa using this
  | succ fuel ih =>
    intro listed a w hf hno hH
    by_cases hall : ∀ j, j < m → listed.getD j false = true
    · exact fin _ listed a w (by omega) hno hall hH
    · by_cases hnz : ∀ j, j < m → j ∉ Z → listed.getD j false = true
      · -- only some of Z are left: the first of them is taken now
        have hex : ∃ z, z < m ∧ listed.getD z false = false ∧ ∀ j, j < z → listed.getD j false = true := by
          have key : ∀ n, (∀ j, j < n → listed.getD j false = true) ∨ ∃ z, z < n ∧ listed.getD z false = false ∧ ∀ j, j < z → listed.getD j false = true := by
            intro n
            induction n with
            | zero => exact .inl fun j hj => by omega
            | succ n ihn =>
              rcases ihn with h | ⟨z, h1, h2, h3⟩
              · cases hc : listed.getD n false
                · exact .inr ⟨n, by omega, hc, h⟩
                · refine .inl fun j hj => ?_
                  rcases Nat.lt_or_ge j n with h' | h'
                  · exact h j h'
                  · obtain rfl : j = n := by omega
                    exact hc
              · exact .inr ⟨z, by omega, h2, h3⟩
          exact (key m).resolve_left hall
        obtain ⟨z, hzm, hzl, hzf⟩ := hex
        have hzZ : z ∈ Z := by
          by_cases h : z ∈ Z
          · exact h
          · have := hnz z hzm h
            rw [hzl] at this; cases this
        obtain ⟨_, oz, hoz, hap⟩ := tailZ_z ht hzZ
        have hzs : z < listed.size := by rw [hH.1]; omega
        have hr : z ∈ Region.ready .any ops listed := mem_ready.2 ⟨by simpa [hzs] using hzl, oz, hoz, fun e he hb => hzf _ (regOk_after hok hoz e he hb)⟩
        obtain ⟨vs, hvs, hx, hw⟩ := held_frameN hok hH hr hoz
        obtain ⟨o', v, ho', hy⟩ := onL_put (vs := vs) (ancL A z) a0 (hq z hzZ w hH.2.2.1) hvs
        obtain rfl : oz = o' := Option.some.inj (hoz.symm.trans ho')
        have hy' : Yields P ops oz v a := by
          unfold Yields at *
          rw [hx, hw]; exact hy
        have hn := yields_put hoz hy' (held_stepN (Q := fun _ _ _ => False) hok hmono hH hr (hstep z hzm w hH.2.2.1) (K := fun a' w' => HeldN ops N I a0 w0 (listed.setIfInBounds z true) a' w') fun _ _ h => h)
        refine wpAny_first hoz (Region.noSelect_spec (regOk_select hok)) (fun c a w h => hQ c a w _ _ h) fuel listed a w (fun j oj hoj hne hul hno => hap j oj hoj hne (by
          cases hc : ancB T z j
          · rfl
          · have h1 := ready_anc hok hH.2.1 hr hc
            have hjl : j < listed.size := by rw [hH.1]; exact (Array.getElem?_eq_some_iff.1 hoj).1
            simp [hjl] at h1 hul
            rw [h1] at hul; cases hul) hno) hr hy' (ih _ _ _ ?_ (fun j hj => ?_) hn)
        · have := count_less hzm hzs hzl
          omega
        · rw [getD_set_ne false (by omega)]; exact hno j hj
      · obtain ⟨j0, hj0⟩ := Classical.not_forall.1 hnz
        obtain ⟨hj0m, hj0'⟩ := Classical.not_imp.1 hj0
        obtain ⟨hj0z, hj0l⟩ := Classical.not_imp.1 hj0'
        refine ⟨fun hr => absurd (all_listed hok hH.1 hr j0 (by omega)) hj0l, fun i hi => ?_⟩
        obtain ⟨h0, o, ho, -⟩ := mem_ready.1 hi
        have hin : i < ops.size := (Array.getElem?_eq_some_iff.1 ho).1
        have him : i < m := by
          rcases Nat.lt_or_ge i m with h' | h'
          · exact h'
          · exact absurd (ready_anc hok hH.2.1 hi ((tailZ_anc ht hin h' (by omega)).resolve_right fun h => hj0z h.2)) hj0l
        have hil : i < listed.size := by rw [hH.1]; exact hin
        refine held_stepN hok hmono hH hi (hstep i him w hH.2.2.1) fun a' w' hH' => ih _ _ _ ?_ (fun j hj => ?_) hH'
        · have := count_less him hil (by simpa [hil] using h0)
          omega
        · rw [getD_set_ne false (by omega)]; exact hno j hj
def zstepsL (P : Program) (ops : Array Oper) (I : Nat → Value → World → Prop) (a0 : Act) (w0 : World) (A : List (List (Nat × Option Tmp))) : List Nat → Prop
  | [] => True
  | z :: Z => (∀ w, Below w0.heap.size w0 w → onP I w (A.getD z []) a0 (fun a => ∃ o v, ops[z]? = some o ∧ Yields P ops o v a)) ∧ zstepsL P ops I a0 w0 A Z
theorem zstepsL_at {a0 : Act} {w0 : World} {A : List (List (Nat × Option Tmp))} : ∀ (Z : List Nat), zstepsL P ops I a0 w0 A Z → ∀ z ∈ Z, ∀ w, Below w0.heap.size w0 w → onP I w (A.getD z []) a0 (fun a => ∃ o v, ops[z]? = some o ∧ Yields P ops o v a)
  | [], _, z, hz => by simp at hz
  | y :: Z, h, z, hz => by
    rcases List.mem_cons.1 hz with rfl | hz
    · exact h.1
    · exact zstepsL_at Z h.2 z hz
/-- as wp_region_new; the operations of Z only reckon, and the tail need not wait for them -/
theorem wp_region_z {id : Nat} {a0 : Act} {w0 : World} (m : Nat) (Z : List Nat) (N : Nat → Bool) (L : List (Value → World → Prop)) (A : List (List (Nat × Option Tmp))) (E : List (Nat × Option Tmp)) (T : List Nat) (hm : P.follows .mixedOrders = true) (hok : regOk ops (A.map (·.map (·.1))) T = true) (ht : tailZ ops T m Z = true)
    (hd : (A.all fun l => l.all fun p => p.2 == dstOf ops p.1) = true) (hE : (E.all (fun p => p.2 == dstOf ops p.1) && E.map (·.1) == List.range m) = true)
    (hk : keptL L) (hq : zstepsL P ops (atL L) a0 w0 A Z) (hstep : stepsLN P ops N (atL L) a0 w0 0 (ops.toList.take m) A)
    (hend : ∀ w (G : Nat → Option Nat), Below w0.heap.size w0 w → (∀ j, j < m → N j = true → ∃ g, G j = some g ∧ w0.heap.size ≤ g ∧ g < w.heap.size) → (∀ j k, j < m → k < m → N j = true → N k = true → j ≠ k → G j ≠ G k) →
      onP (fun j v w => atL L j v w ∧ (N j = true → blkOf v = G j)) w E a0 (fun a => wpList P ops (QN Q) (ops.toList.drop m) a w)) : (Code.region id ops true).wp P Q a0 w0 := by
  simp only [Bool.and_eq_true, beq_iff_eq] at hE
  have hmono : ∀ i v w w', Below w.heap.size w w' → atL L i v w → atL L i v w' := fun i => keptL_at L hk i
  have hend' : ∀ w (vs : Nat → Value), Below w0.heap.size w0 w → (∀ j, j < m → atL L j (vs j) w) → (∀ j, j < m → N j = true → ∃ g, blkOf (vs j) = some g ∧ w0.heap.size ≤ g ∧ g < w.heap.size) → (∀ j k, j < m → k < m → N j = true → N k = true → j ≠ k → blkOf (vs j) ≠ blkOf (vs k)) → wpList P ops (QN Q) (ops.toList.drop m) (putL ops vs (List.range m) a0) w := fun w vs hw hI h1 h2 => by
    have h := onP_onL (ops := ops) (I := fun j v w => atL L j v w ∧ (N j = true → blkOf v = (fun j => blkOf (vs j)) j)) (w := w) (k := fun a => wpList P ops (QN Q) (ops.toList.drop m) a w) E a0 hE.1 (hend w (fun j => blkOf (vs j)) hw h1 h2)
    rw [hE.2] at h
    exact onL_put (vs := vs) _ _ h fun j hj => ⟨hI j (List.mem_range.1 hj), fun _ => rfl⟩
  have hst : ∀ i, i < m → ∀ w, Below w0.heap.size w0 w → onL ops (atL L) w (ancL (A.map (·.map (·.1))) i) a0 (fun a => stepAtN P ops N (atL L) i a w) := fun i hi w hw => by
    have hi' : i < ops.size := Nat.lt_of_lt_of_le hi (tailZ_le ht)
    have ho : ops[i]? = some ops[i] := Array.getElem?_eq_getElem hi'
    obtain ⟨an, h1, h2⟩ := stepsLN_at (ops.toList.take m) A 0 hstep i ops[i] (by rw [List.getElem?_take, if_pos hi]; simp)
    have e : ancL (A.map (·.map (·.1))) i = an.map (·.1) := by
      unfold ancL
      simp [h1]
    have h3 := h2 w hw
    rw [Nat.zero_add] at h3
    rw [e]
    have h4 := onP_onL (ops := ops) an a0 (List.all_eq_true.1 hd an (List.mem_of_getElem? h1)) h3
    unfold stepAtN
    rw [ho]
    exact h4
  have hqq : ∀ z ∈ Z, ∀ w, Below w0.heap.size w0 w → onL ops (atL L) w (ancL (A.map (·.map (·.1))) z) a0 (fun a => ∃ o v, ops[z]? = some o ∧ Yields P ops o v a) := fun z hz w hw => by
    have h := zstepsL_at Z hq z hz w hw
    have e : ancL (A.map (·.map (·.1))) z = (A.getD z []).map (·.1) := by
      unfold ancL
      simp only [List.getD_eq_getElem?_getD, List.getElem?_map]
      rcases A[z]? with _ | an
      · rfl
      · rfl
    rw [e]
    refine onP_onL (ops := ops) (A.getD z []) a0 ?_ h
    rw [List.getD_eq_getElem?_getD]
    rcases hc : A[z]? with _ | an
    · rfl
    · exact List.all_eq_true.1 hd an (List.mem_of_getElem? hc)
  refine wp_region_any hm (wpAny_shut _ _ _ _ (held_tailZ hok ht hmono hst hqq (fun _ _ _ _ _ h => h.elim) hend' _ _ _ _ ?_ (fun j _ => rep_false _ _) ⟨by simp, ?_, ?_, fun _ => undef, ?_, ?_, ?_, ?_⟩))
  · have h1 := List.length_filter_le (fun j => !(Array.replicate ops.size false).getD j false) (List.range m)
    have := tailZ_le ht
    rw [List.length_range] at h1
    omega
  · intro i o hi
    rw [rep_false] at hi; cases hi
  · exact Below.drew (Below.refl _ _)
  · have e : ((List.range ops.size).filter fun j => (Array.replicate ops.size false).getD j false) = [] := List.filter_eq_nil_iff.2 fun j _ => by rw [rep_false]; exact Bool.false_ne_true
    rw [e]; rfl
  · intro j hj
    rw [rep_false] at hj; cases hj
  · intro j hj
    rw [rep_false] at hj; cases hj
  · intro j k hj
    rw [rep_false] at hj; cases hj
end
end Go.Proofs.Ytnbppbnjkmopeaa
