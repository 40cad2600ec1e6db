/- Headers that come, whatever they are: what is remembered, and what is believed. No condition. -/
import Derived.Test.YtnbppbnjkmopeaaSyPg
namespace Go.Proofs.Ytnbppbnjkmopeaa
open Go.RowKit

/-- headers that stand behind each other, work behind each -/
def Cha (lim : Nat) : Nat → List Hd → Prop
  | _, [] => True
  | id, h :: l => h.p = id ∧ hpr h lim = 0 ∧ Cha lim (hdid h) l
theorem Cha.app {lim : Nat} : ∀ {l m : List Hd} {id : Nat}, Cha lim id (l ++ m) ↔ Cha lim id l ∧ Cha lim (lid id l) m
  | [], _, _ => ⟨fun h => ⟨trivial, h⟩, fun h => h.2⟩
  | _ :: _, _, _ => ⟨fun h => ⟨⟨h.1, h.2.1, (Cha.app.1 h.2.2).1⟩, (Cha.app.1 h.2.2).2⟩, fun h => ⟨h.1.1, h.1.2.1, Cha.app.2 ⟨h.1.2.2, h.2⟩⟩⟩
/-- what holds of headers asked for twice, of which those up to a name were believed -/
structure Sml (p : Ps) (prev : Nat) : Prop where
  one : p.phase = 1 → p.ready = [] ∧ prev = p.start.id
  two : p.phase = 2 → lid prev p.ready = p.last.id
  cha : p.phase ≠ 4 → Cha p.rules.limit prev p.ready
  bad : p.phase = 4 → p.reason ≠ 0 ∧ p.bits = [] ∧ p.ready = []
  bits : p.bits.length ≤ 256
theorem sml_fail {p : Ps} {prev e : Nat} (he : e ≠ 0) : Sml (failP p e) prev :=
  ⟨(fun h => by cases h), (fun h => by cases h), fun h => absurd rfl h, fun _ => ⟨he, rfl, rfl⟩, Nat.zero_le _⟩
theorem step_ok {p : Ps} {h : Hd} {k : Nat} (h0 : (stepP p h k).2 = 0) : h.p = p.last.id ∧ hpr h p.rules.limit = 0 ∧ (stepP p h k).1.h = h ∧ (stepP p h k).1.id = hdid h := by
  unfold stepP at h0 ⊢
  by_cases c1 : h.p = p.last.id
  · rw [if_neg (fun e => e c1)] at h0 ⊢
    by_cases c2 : hpr h p.rules.limit = 0
    · rw [if_neg (fun e => e c2)] at h0 ⊢
      by_cases c3 : mayP p.rules (k + 1) p.last.h.b h.b = false
      · rw [if_pos c3] at h0; cases h0
      · rw [if_neg c3]; exact ⟨c1, c2, rfl, rfl⟩
    · rw [if_pos c2] at h0; exact absurd h0 c2
  · rw [if_pos c1] at h0; cases h0
theorem sml_stp {p : Ps} {prev k : Nat} (h : Sml p prev) (hp : p.phase = 1 ∨ p.phase = 2) (x : Hd) : Sml (stp p x k) prev := by
  unfold stp
  by_cases h0 : (stepP p x k).2 = 0
  · obtain ⟨h1, h2, h3, h4⟩ := step_ok h0
    rw [if_neg (fun e => e h0)]
    obtain ⟨X, hX⟩ : ∃ X, X = (stepP p x k).1 := ⟨_, rfl⟩
    rw [← hX] at h3 h4 ⊢
    by_cases p1 : p.phase = 1
    · rw [if_pos p1]
      obtain ⟨hr, hs⟩ := h.one p1
      have key : ∀ B : List Bool, B.length ≤ 256 → Sml (cntF { p with last := X, bits := B } X) prev := fun B hB => by
        unfold cntF
        dsimp only
        split
        · exact ⟨(fun e => by cases e), (fun _ => by show lid prev p.ready = p.start.id; rw [hr, hs]; rfl), (fun _ => by show Cha p.rules.limit prev p.ready; rw [hr]; trivial), (fun e => by cases e), hB⟩
        · exact ⟨fun _ => ⟨hr, hs⟩, (fun e => by have e : p.phase = 2 := e; omega), (fun _ => by show Cha p.rules.limit prev p.ready; rw [hr]; trivial), (fun e => by have e : p.phase = 4 := e; omega), hB⟩
      unfold countP
      split
      · split
        · exact sml_fail (by omega)
        · rename_i hb
          have hb2 := h.bits
          exact key _ (by rw [List.length_append, List.length_singleton]; omega)
      · exact key _ h.bits
    · rw [if_neg p1]
      have p2 : p.phase = 2 := by omega
      have hl := h.two p2
      have hc := h.cha (by omega)
      have key : ∀ a : Nat, Sml (agF { p with last := X, at' := a } X) prev := fun a => by
        have hcr : Cha p.rules.limit prev (p.ready ++ [X.h]) := Cha.app.2 ⟨hc, by rw [h3, hl]; exact ⟨h1, h2, trivial⟩⟩
        unfold agF
        dsimp only
        split
        · exact ⟨(fun e => by cases e), (fun e => by cases e), fun _ => hcr, (fun e => by cases e), h.bits⟩
        · exact ⟨(fun e => by have e : p.phase = 1 := e; omega), (fun _ => by show lid prev (p.ready ++ [X.h]) = X.id; rw [lid_snoc, h3, h4]), fun _ => hcr, (fun e => by have e : p.phase = 4 := e; omega), h.bits⟩
      unfold againP
      split
      · split
        · exact key _
        · exact sml_fail (by omega)
      · exact key _
  · rw [if_pos h0]
    exact sml_fail h0
theorem sml_run (b : Nat) (hb : b = 1 ∨ b = 2) : ∀ (l : List Hd) (p : Ps) (prev : Nat), Sml p prev → Sml (runT b l p) prev
  | [], _, _, h => h
  | x :: l, p, prev, h => by
    unfold runT
    split
    · rename_i c
      have hs := sml_stp (k := p.hgt) h (by omega) x
      split
      · exact hs
      · exact sml_run b hb l _ prev hs
    · exact h
theorem run_phase (b : Nat) : ∀ (l : List Hd) (p : Ps), p.phase ≠ 0 → p.phase ≤ 4 → (runT b l p).phase ≤ 4 ∧ (runT b l p).phase ≠ 0
  | [], _, h0, h => ⟨h, h0⟩
  | x :: l, p, h0, h => by
    have hs : (stp p x p.hgt).phase ≤ 4 ∧ (stp p x p.hgt).phase ≠ 0 := by
      unfold stp
      split
      · exact ⟨Nat.le_refl _, by show (4 : Nat) ≠ 0; omega⟩
      · split
        · unfold countP cntF
          split <;> (try split) <;> (try split) <;> first | exact ⟨h, h0⟩ | exact ⟨by show (2 : Nat) ≤ 4; omega, by show (2 : Nat) ≠ 0; omega⟩ | exact ⟨by show (4 : Nat) ≤ 4; omega, by show (4 : Nat) ≠ 0; omega⟩
        · unfold againP agF
          split <;> (try split) <;> (try split) <;> first | exact ⟨h, h0⟩ | exact ⟨by show (3 : Nat) ≤ 4; omega, by show (3 : Nat) ≠ 0; omega⟩ | exact ⟨by show (4 : Nat) ≤ 4; omega, by show (4 : Nat) ≠ 0; omega⟩
    unfold runT
    split
    · split
      · exact hs
      · exact run_phase b l _ hs.2 hs.1
    · exact ⟨h, h0⟩
/-- a state between two messages -/
structure Smt (p : Ps) (prev : Nat) : Prop where
  sml : Sml p prev
  ph0 : p.phase ≠ 0
  ph4 : p.phase ≤ 4
  few : p.ready.length ≤ 8
theorem run_lim (b : Nat) : ∀ (l : List Hd) (p : Ps), (runT b l p).rules = p.rules
  | [], _ => rfl
  | x :: l, p => by
    have hs : (stp p x p.hgt).rules = p.rules := by
      unfold stp
      split
      · rfl
      · split
        · unfold countP cntF; split <;> (try split) <;> (try split) <;> rfl
        · unfold againP agF; split <;> (try split) <;> (try split) <;> rfl
    unfold runT
    split
    · split
      · exact hs
      · rw [run_lim b l, hs]
    · rfl
theorem take_lim (p : Ps) (more : Bool) (l : List Hd) : (takeP p more l).1.rules = p.rules := by
  unfold takeP
  split
  · rfl
  · dsimp only
    split
    · exact run_lim _ _ _
    · split
      · exact run_lim p.phase l p
      · exact run_lim p.phase l p
/-- a message: those that are believed stand behind those that were, and no more is remembered -/
theorem smt_take {p : Ps} {prev : Nat} (h : Smt p prev) (more : Bool) (l : List Hd) : Cha p.rules.limit prev (takeP p more l).2 ∧ Smt (takeP p more l).1 (lid prev (takeP p more l).2) := by
  unfold takeP
  split
  · exact ⟨trivial, h⟩
  · rename_i c
    have hp : p.phase = 1 ∨ p.phase = 2 := by have := h.ph0; have := h.ph4; omega
    have hr := sml_run p.phase hp l p prev h.sml
    have hph := run_phase p.phase l p h.ph0 h.ph4
    have hlm := run_lim p.phase l p
    obtain ⟨q, hq⟩ : ∃ q, q = runT p.phase l p := ⟨_, rfl⟩
    rw [← hq] at hr hph hlm
    dsimp only
    rw [← hq]
    split
    · rename_i q4
      refine ⟨trivial, hr, hph.2, hph.1, ?_⟩
      rw [(hr.bad q4).2.2]; exact Nat.zero_le _
    · rename_i q4
      split
      · exact ⟨trivial, sml_fail (by omega), by show (4 : Nat) ≠ 0; omega, by show (4 : Nat) ≤ 4; omega, Nat.zero_le _⟩
      · have hc := hr.cha q4
        rw [← List.take_append_drop (keepN q) q.ready] at hc
        obtain ⟨c1, c2⟩ := Cha.app.1 hc
        rw [hlm] at c1
        refine ⟨c1, ⟨fun e => ?_, fun e => ?_, fun _ => c2, fun e => absurd e q4, hr.bits⟩, hph.2, hph.1, ?_⟩
        · obtain ⟨r1, r2⟩ := hr.one e
          refine ⟨by show q.ready.drop _ = []; rw [r1]; simp, ?_⟩
          rw [r1]; simp [lid]; exact r2
        · show lid (lid prev (q.ready.take (keepN q))) (q.ready.drop (keepN q)) = q.last.id
          rw [← lid_app, List.take_append_drop]
          exact hr.two e
        · show (q.ready.drop (keepN q)).length ≤ 8
          rw [List.length_drop]
          unfold keepN
          split
          · omega
          · omega
end Go.Proofs.Ytnbppbnjkmopeaa
