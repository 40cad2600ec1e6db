/- How arguments read that are headers. No condition. -/
import Derived.Test.YtnbppbnjkmopeaaHdF
import Derived.Test.YtnbppbnjkmopeaaOpenMore
namespace Go.Proofs.Ytnbppbnjkmopeaa
open Go.ChangeShapes Go.WideShapes Go.ChangeAt Go.RowKit

theorem hd_under : Try.prog.underlying 26 = some (.struct (Try.prog.fieldsOf 26)) := by kernel_rfl
theorem hd_field (j : Nat) (t : TypeId) (o : Nat) (h : [(22, 0), (24, 1), (24, 33), (22, 65), (22, 66), (22, 67)][j]? = some (t, o)) : ∃ f, (Try.prog.fieldsOf 26)[j]? = some f ∧ f.type = t ∧ f.offset = o := by
  have e := congrArg (fun l => l[j]?) hd_fields
  rw [h, List.getElem?_map] at e
  obtain ⟨f, hf, e2⟩ := Option.map_eq_some_iff.1 e
  simp only [Prod.mk.injEq] at e2
  exact ⟨f, by rw [← Array.getElem?_toList]; exact hf, e2.1, e2.2⟩
set_option maxRecDepth 100000 in
theorem open_hd_cells {H : Type} {enc : TypeId × Value → H} {w : World} {base : Nat} {sp : Nat → Bool} {hd : Bool} {cs : List Value} {fuel : Nat} {x : DataW H × List MemPlace} (hl : cs.length = 68)
    (hf : DataW.trod enc Try.prog w base sp hd fuel 26 cs = some x) : ∃ h : Hd, h.ok ∧ cs = hdcs h := by
  have he : Try.prog.underlying 22 = some (.int .u32) := by kernel_rfl
  have hce : Try.prog.cellsOf 22 = 1 := by kernel_rfl
  have hci : Try.prog.cellsOf 24 = 32 := by kernel_rfl
  obtain ⟨ys, n', hn', hy, hlen, hyl, hg⟩ := DataW.trod_struct hd_under hf
  have hy6 : ys.length = 6 := hyl.trans (by kernel_rfl)
  have gi : ∀ j o, [(22, 0), (24, 1), (24, 33), (22, 65), (22, 66), (22, 67)][j]? = some (22, o) → j < 6 → o < 68 → ∃ a : Nat, a < 4294967296 ∧ cs[o]? = some (.int .u32 (a : Int)) := by
    intro j o h hj ho
    obtain ⟨f, hf1, hf2, hf3⟩ := hd_field j _ _ h
    have h1 := hg j f hf1
    rw [hf2, hf3, hce, List.getElem?_eq_getElem (by omega), List.drop_eq_getElem_cons (by omega)] at h1
    obtain ⟨a, e, _, w0⟩ := DataW.trod_int he h1
    rw [List.take_succ_cons, List.take_zero] at e
    have e := (List.cons.inj e).1
    simp [Lit.wf, IntKind.min, IntKind.max, IntKind.signed, IntKind.bits] at w0
    refine ⟨a.toNat, by omega, ?_⟩
    rw [List.getElem?_eq_getElem (by omega), e]
    congr 2; omega
  have ga : ∀ j o, [(22, 0), (24, 1), (24, 33), (22, 65), (22, 66), (22, 67)][j]? = some (24, o) → j < 6 → o + 32 ≤ 68 → ∃ a : Nat, a < 2 ^ 256 ∧ ∀ k, k < 32 → cs[o + k]? = some (.int .u8 (lb a k)) := by
    intro j o h hj ho
    obtain ⟨f, hf1, hf2, hf3⟩ := hd_field j _ _ h
    have h1 := hg j f hf1
    rw [hf2, hf3, hci, List.getElem?_eq_getElem (by omega)] at h1
    obtain ⟨a, ha, hc⟩ := open_id_cells (by rw [List.length_take, List.length_drop]; omega) h1
    refine ⟨a, ha, fun k hk => ?_⟩
    rw [← hc k hk, List.getElem?_take_of_lt hk, List.getElem?_drop]
  obtain ⟨v, hv, ev⟩ := gi 0 0 rfl (by omega) (by omega)
  obtain ⟨p, hp, ep⟩ := ga 1 1 rfl (by omega) (by omega)
  obtain ⟨r, hr, er⟩ := ga 2 33 rfl (by omega) (by omega)
  obtain ⟨t, ht, et⟩ := gi 3 65 rfl (by omega) (by omega)
  obtain ⟨b, hb, eb⟩ := gi 4 66 rfl (by omega) (by omega)
  obtain ⟨n, hn, en⟩ := gi 5 67 rfl (by omega) (by omega)
  refine ⟨⟨v, p, r, t, b, n⟩, ⟨hv, hp, hr, ht, hb, hn⟩, ?_⟩
  apply List.ext_getElem?
  intro i
  by_cases h68 : i < 68
  · by_cases h0 : i = 0
    · subst h0; rw [ev, hdcs_v]
    by_cases h33 : i < 33
    · obtain ⟨k, rfl⟩ : ∃ k, i = 1 + k := ⟨i - 1, by omega⟩
      rw [ep k (by omega), hdcs_p _ k (by omega)]
    by_cases h65 : i < 65
    · obtain ⟨k, rfl⟩ : ∃ k, i = 33 + k := ⟨i - 33, by omega⟩
      rw [er k (by omega), hdcs_r _ k (by omega)]
    have h3 : i = 65 ∨ i = 66 ∨ i = 67 := by omega
    rcases h3 with rfl | rfl | rfl
    · rw [et, hdcs_t]
    · rw [eb, hdcs_b]
    · rw [en, hdcs_n]
  · rw [List.getElem?_eq_none (by omega), List.getElem?_eq_none (by rw [hdcs_len]; omega)]
set_option maxRecDepth 100000 in
theorem open_hd {H : Type} {enc : TypeId × Value → H} {w : World} {base : Nat} {r : Reach} {b0 : Nat} {sp : Nat → Bool} {hd : Bool} {v : Value} {d : DataW H} {p : List MemPlace}
    (hv : Value.okWide Try.prog w r b0 26 v) (h : DataW.Trod enc Try.prog w base sp hd 26 v d p) : ∃ h : Hd, h.ok ∧ v = hdv h := by
  obtain ⟨cs, rfl, hsz⟩ := okWide_struct hd_under hv
  obtain ⟨fuel, hf⟩ := h
  obtain ⟨h, hk, e⟩ := open_hd_cells (cs := cs.toList) (by
    have := hsz.trans (show Try.prog.cellsOf 26 = 68 by kernel_rfl)
    rw [Array.length_toList]; exact this) hf
  refine ⟨h, hk, ?_⟩
  have e' : cs.toList = hdcs h := e
  unfold hdv
  rw [← e']
end Go.Proofs.Ytnbppbnjkmopeaa
