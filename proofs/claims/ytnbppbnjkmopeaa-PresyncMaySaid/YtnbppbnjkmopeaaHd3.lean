/- Headers compared. No condition. How arguments read that are headers. No condition. -/
import Derived.Test.YtnbppbnjkmopeaaHd1
import Derived.Laws.StructEq
import Derived.Test.YtnbppbnjkmopeaaOpenMore
namespace Go.Proofs.Ytnbppbnjkmopeaa
open Go.RowKit

def hdeq (a b : Hd) : Bool := decide (a.v = b.v) && (decide (a.p = b.p) && (decide (a.r = b.r) && (decide (a.t = b.t) && (decide (a.b = b.b) && decide (a.n = b.n)))))
theorem hdeq_iff {a b : Hd} : hdeq a b = true ↔ a = b := by
  obtain ⟨v, p, r, t, b0, n⟩ := a
  obtain ⟨v', p', r', t', b0', n'⟩ := b
  simp [hdeq]
theorem hdeq_self (a : Hd) : hdeq a a = true := hdeq_iff.2 rfl
theorem eq_id9 (a b : Nat) (ha : a < 2 ^ 256) (hb : b < 2 ^ 256) (w : World) : (Op.equalIn 9999 24 (iv a) (iv b)).run Try.prog w = .ok (decide (a = b)) w := by
  have h := run_equalIn_ints (P := Try.prog) w 9997 24 5 32 .u8 (by kernel_rfl) (by kernel_rfl) (fun _ => by kernel_rfl) ((List.range 32).map (lb a)) ((List.range 32).map (lb b)) (by simp) (by simp)
  have e : ((List.range 32).map (lb a) == (List.range 32).map (lb b)) = decide (a = b) := by
    rw [Bool.eq_iff_iff, beq_iff_eq, decide_eq_true_iff]
    constructor
    · intro h
      refine lb_inj ha hb fun i hi => ?_
      have := congrArg (fun l => l[i]?) h
      simpa [hi] using this
    · rintro rfl; rfl
  rw [e] at h
  exact h
theorem part_v (h : Hd) (w : World) : (part 22 (hdcs h).toArray 0).run Try.prog w = .ok (.int .u32 (h.v : Int)) w := by kernel_rfl
theorem part_p (h : Hd) (w : World) : (part 24 (hdcs h).toArray 1).run Try.prog w = .ok (iv h.p) w := by kernel_rfl
theorem part_r (h : Hd) (w : World) : (part 24 (hdcs h).toArray 33).run Try.prog w = .ok (iv h.r) w := by kernel_rfl
theorem part_t (h : Hd) (w : World) : (part 22 (hdcs h).toArray 65).run Try.prog w = .ok (.int .u32 (h.t : Int)) w := by kernel_rfl
theorem part_b (h : Hd) (w : World) : (part 22 (hdcs h).toArray 66).run Try.prog w = .ok (.int .u32 (h.b : Int)) w := by kernel_rfl
theorem part_n (h : Hd) (w : World) : (part 22 (hdcs h).toArray 67).run Try.prog w = .ok (.int .u32 (h.n : Int)) w := by kernel_rfl
theorem eq_u32 (a b : Nat) (w : World) : (Op.equalIn 9999 22 (.int .u32 (a : Int)) (.int .u32 (b : Int))).run Try.prog w = .ok (decide (a = b)) w := by
  have h := run_equalIn_int (P := Try.prog) w 9998 22 .u32 .u32 (a : Int) (b : Int) (by kernel_rfl)
  rw [show ((a : Int) == (b : Int)) = decide (a = b) by rw [Bool.eq_iff_iff]; simp; omega] at h
  exact h
/-- the fields of two structs compared, by their types and places -/
def eqF (d : Nat) (xs ys : Array Value) : List (TypeId × Nat) → Sem Bool
  | [] => pure true
  | f :: fs => do
      let a ← part f.1 xs f.2
      let b ← part f.1 ys f.2
      let r ← Op.equalIn d f.1 a b
      if (!r) = true then pure false else eqF d xs ys fs
theorem eqFields_eq (d : Nat) (xs ys : Array Value) : ∀ (fs : List Field), (fs.all fun f => f.name != "_") = true → Op.eqFields d xs ys fs = eqF d xs ys (fs.map fun f => (f.type, f.offset))
  | [], _ => rfl
  | f :: fs, h => by
    simp only [List.all_cons, Bool.and_eq_true, bne_iff_ne, ne_eq] at h
    rw [Op.eqFields, List.map_cons, eqF, if_pos h.1, eqFields_eq d xs ys fs h.2]
theorem hd_fields : (Try.prog.fieldsOf 26).toList.map (fun f => (f.type, f.offset)) = [(22, 0), (24, 1), (24, 33), (22, 65), (22, 66), (22, 67)] := by kernel_rfl
theorem eq_hd (a b : Hd) (ha : a.ok) (hb : b.ok) (w : World) : (Op.equalIn 10000 26 (hdv a) (hdv b)).run Try.prog w = .ok (hdeq a b) w := by
  have h := run_equalIn_struct (P := Try.prog) w 9999 26 (hdcs a).toArray (hdcs b).toArray (by kernel_rfl) (by kernel_rfl)
  rw [eqFields_eq _ _ _ _ (by kernel_rfl), hd_fields] at h
  simp only [eqF, Sem.run_bind, Sem.run_ite, part_v, part_p, part_r, part_t, part_b, part_n, Result.andThen_ok, eq_u32, eq_id9 _ _ ha.2.1 hb.2.1, eq_id9 _ _ ha.2.2.1 hb.2.2.1] at h
  refine h.trans ?_
  unfold hdeq
  cases decide (a.v = b.v) <;> cases decide (a.p = b.p) <;> cases decide (a.r = b.r) <;> cases decide (a.t = b.t) <;> cases decide (a.b = b.b) <;> cases decide (a.n = b.n) <;> rfl
end Go.Proofs.Ytnbppbnjkmopeaa
namespace Go.Proofs.Ytnbppbnjkmopeaa
open Go.ChangeShapes Go.WideShapes Go.ChangeAt Go.RowKit

theorem hd_under : Try.prog.underlying 26 = some (.struct (Try.prog.fieldsOf 26)) := by kernel_rfl
theorem hd_field (j : Nat) (t : TypeId) (o : Nat) (h : [(22, 0), (24, 1), (24, 33), (22, 65), (22, 66), (22, 67)][j]? = some (t, o)) : ∃ f, (Try.prog.fieldsOf 26)[j]? = some f ∧ f.type = t ∧ f.offset = o := by
  have e := congrArg (fun l => l[j]?) hd_fields
  rw [h, List.getElem?_map] at e
  obtain ⟨f, hf, e2⟩ := Option.map_eq_some_iff.1 e
  simp only [Prod.mk.injEq] at e2
  exact ⟨f, by rw [← Array.getElem?_toList]; exact hf, e2.1, e2.2⟩
set_option maxRecDepth 100000 in
theorem open_hd_cells {H : Type} {enc : TypeId × Value → H} {w : World} {base : Nat} {sp : Nat → Bool} {hd : Bool} {cs : List Value} {fuel : Nat} {x : DataW H × List MemPlace} (hl : cs.length = 68)
    (hf : DataW.trod enc Try.prog w base sp hd fuel 26 cs = some x) : ∃ h : Hd, h.ok ∧ cs = hdcs h := by
  have he : Try.prog.underlying 22 = some (.int .u32) := by kernel_rfl
  have hce : Try.prog.cellsOf 22 = 1 := by kernel_rfl
  have hci : Try.prog.cellsOf 24 = 32 := by kernel_rfl
  obtain ⟨ys, n', hn', hy, hlen, hyl, hg⟩ := DataW.trod_struct hd_under hf
  have hy6 : ys.length = 6 := hyl.trans (by kernel_rfl)
  have gi : ∀ j o, [(22, 0), (24, 1), (24, 33), (22, 65), (22, 66), (22, 67)][j]? = some (22, o) → j < 6 → o < 68 → ∃ a : Nat, a < 4294967296 ∧ cs[o]? = some (.int .u32 (a : Int)) := by
    intro j o h hj ho
    obtain ⟨f, hf1, hf2, hf3⟩ := hd_field j _ _ h
    have h1 := hg j f hf1
    rw [hf2, hf3, hce, List.getElem?_eq_getElem (by omega), List.drop_eq_getElem_cons (by omega)] at h1
    obtain ⟨a, e, _, w0⟩ := DataW.trod_int he h1
    rw [List.take_succ_cons, List.take_zero] at e
    have e := (List.cons.inj e).1
    simp [Lit.wf, IntKind.min, IntKind.max, IntKind.signed, IntKind.bits] at w0
    refine ⟨a.toNat, by omega, ?_⟩
    rw [List.getElem?_eq_getElem (by omega), e]
    congr 2; omega
  have ga : ∀ j o, [(22, 0), (24, 1), (24, 33), (22, 65), (22, 66), (22, 67)][j]? = some (24, o) → j < 6 → o + 32 ≤ 68 → ∃ a : Nat, a < 2 ^ 256 ∧ ∀ k, k < 32 → cs[o + k]? = some (.int .u8 (lb a k)) := by
    intro j o h hj ho
    obtain ⟨f, hf1, hf2, hf3⟩ := hd_field j _ _ h
    have h1 := hg j f hf1
    rw [hf2, hf3, hci, List.getElem?_eq_getElem (by omega)] at h1
    obtain ⟨a, ha, hc⟩ := open_id_cells (by rw [List.length_take, List.length_drop]; omega) h1
    refine ⟨a, ha, fun k hk => ?_⟩
    rw [← hc k hk, List.getElem?_take_of_lt hk, List.getElem?_drop]
  obtain ⟨v, hv, ev⟩ := gi 0 0 rfl (by omega) (by omega)
  obtain ⟨p, hp, ep⟩ := ga 1 1 rfl (by omega) (by omega)
  obtain ⟨r, hr, er⟩ := ga 2 33 rfl (by omega) (by omega)
  obtain ⟨t, ht, et⟩ := gi 3 65 rfl (by omega) (by omega)
  obtain ⟨b, hb, eb⟩ := gi 4 66 rfl (by omega) (by omega)
  obtain ⟨n, hn, en⟩ := gi 5 67 rfl (by omega) (by omega)
  refine ⟨⟨v, p, r, t, b, n⟩, ⟨hv, hp, hr, ht, hb, hn⟩, ?_⟩
  apply List.ext_getElem?
  intro i
  by_cases h68 : i < 68
  · by_cases h0 : i = 0
    · subst h0; rw [ev, hdcs_v]
    by_cases h33 : i < 33
    · obtain ⟨k, rfl⟩ : ∃ k, i = 1 + k := ⟨i - 1, by omega⟩
      rw [ep k (by omega), hdcs_p _ k (by omega)]
    by_cases h65 : i < 65
    · obtain ⟨k, rfl⟩ : ∃ k, i = 33 + k := ⟨i - 33, by omega⟩
      rw [er k (by omega), hdcs_r _ k (by omega)]
    have h3 : i = 65 ∨ i = 66 ∨ i = 67 := by omega
    rcases h3 with rfl | rfl | rfl
    · rw [et, hdcs_t]
    · rw [eb, hdcs_b]
    · rw [en, hdcs_n]
  · rw [List.getElem?_eq_none (by omega), List.getElem?_eq_none (by rw [hdcs_len]; omega)]
set_option maxRecDepth 100000 in
theorem open_hd {H : Type} {enc : TypeId × Value → H} {w : World} {base : Nat} {r : Reach} {b0 : Nat} {sp : Nat → Bool} {hd : Bool} {v : Value} {d : DataW H} {p : List MemPlace}
    (hv : Value.okWide Try.prog w r b0 26 v) (h : DataW.Trod enc Try.prog w base sp hd 26 v d p) : ∃ h : Hd, h.ok ∧ v = hdv h := by
  obtain ⟨cs, rfl, hsz⟩ := okWide_struct hd_under hv
  obtain ⟨fuel, hf⟩ := h
  obtain ⟨h, hk, e⟩ := open_hd_cells (cs := cs.toList) (by
    have := hsz.trans (show Try.prog.cellsOf 26 = 68 by kernel_rfl)
    rw [Array.length_toList]; exact this) hf
  refine ⟨h, hk, ?_⟩
  have e' : cs.toList = hdcs h := e
  unfold hdv
  rw [← e']
end Go.Proofs.Ytnbppbnjkmopeaa
