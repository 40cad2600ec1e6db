/- How arguments read that are the rules of a chain. No condition. -/
import Derived.Test.YtnbppbnjkmopeaaOpenP
namespace Go.Proofs.Ytnbppbnjkmopeaa
open Go.ChangeShapes Go.WideShapes Go.ChangeAt Go.RowKit

theorem rl_under : Try.prog.underlying 62 = some (.struct (Try.prog.fieldsOf 62)) := by kernel_rfl
theorem bk_under : Try.prog.underlying 60 = some (.struct (Try.prog.fieldsOf 60)) := by kernel_rfl
theorem rl_fields : (Try.prog.fieldsOf 62).toList.map (fun f => (f.type, f.offset)) = [(22, 0), (3, 1), (3, 2), (2, 3), (3, 4), (60, 5)] := by kernel_rfl
theorem bk_fields : (Try.prog.fieldsOf 60).toList.map (fun f => (f.type, f.offset)) = [(26, 0), (58, 68)] := by kernel_rfl
theorem field_of {t : TypeId} {L : List (TypeId × Nat)} (hL : (Try.prog.fieldsOf t).toList.map (fun f => (f.type, f.offset)) = L) (j : Nat) (u : TypeId) (o : Nat) (h : L[j]? = some (u, o)) : ∃ f, (Try.prog.fieldsOf t)[j]? = some f ∧ f.type = u ∧ f.offset = o := by
  have e := congrArg (fun l => l[j]?) hL
  rw [h, List.getElem?_map] at e
  obtain ⟨f, hf, e2⟩ := Option.map_eq_some_iff.1 e
  simp only [Prod.mk.injEq] at e2
  exact ⟨f, by rw [← Array.getElem?_toList]; exact hf, e2.1, e2.2⟩
/-- rules that came in -/
structure Rl.okv (r : Rl) : Prop where
  lim : r.limit < 4294967296
  gen : r.gen.ok
  txs : r.txs.oneCell' = true
set_option maxRecDepth 100000 in
theorem open_rl_cells {H : Type} {enc : TypeId × Value → H} {w : World} {base : Nat} {sp : Nat → Bool} {hd : Bool} {l : List Value} {fuel : Nat} {x : DataW H × List MemPlace} (hl : l.length = 74)
    (hf : DataW.trod enc Try.prog w base sp hd fuel 62 l = some x) : ∃ r : Rl, r.okv ∧ l = rlL r := by
  have he : Try.prog.underlying 22 = some (.int .u32) := by kernel_rfl
  have hce : Try.prog.cellsOf 22 = 1 := by kernel_rfl
  have hi : Try.prog.underlying 3 = some (.int .i64) := by kernel_rfl
  have hci : Try.prog.cellsOf 3 = 1 := by kernel_rfl
  have hj : Try.prog.underlying 2 = some (.int .i64) := by kernel_rfl
  have hcj : Try.prog.cellsOf 2 = 1 := by kernel_rfl
  have hcb : Try.prog.cellsOf 60 = 69 := by kernel_rfl
  have hch : Try.prog.cellsOf 26 = 68 := by kernel_rfl
  have hct : Try.prog.cellsOf 58 = 1 := by kernel_rfl
  have htu : Try.prog.underlying 58 = some (.slice 183) := by kernel_rfl
  obtain ⟨ys, n', hn', hy, hlen, hyl, hg⟩ := DataW.trod_struct rl_under hf
  have hy6 : ys.length = 6 := hyl.trans (by kernel_rfl)
  have g0 : ∃ a : Nat, a < 4294967296 ∧ l[0]? = some (.int .u32 (a : Int)) := by
    obtain ⟨f, hf1, hf2, hf3⟩ := field_of rl_fields 0 _ _ rfl
    have h1 := hg 0 f hf1
    rw [hf2, hf3, hce, List.getElem?_eq_getElem (by omega), List.drop_eq_getElem_cons (by omega)] at h1
    obtain ⟨a, e, _, w0⟩ := DataW.trod_int he h1
    rw [List.take_succ_cons, List.take_zero] at e
    have e := (List.cons.inj e).1
    simp [Lit.wf, IntKind.min, IntKind.max, IntKind.signed, IntKind.bits] at w0
    refine ⟨a.toNat, by omega, ?_⟩
    rw [List.getElem?_eq_getElem (by omega), e]
    congr 2; omega
  have gi : ∀ j o, [(22, 0), (3, 1), (3, 2), (2, 3), (3, 4), (60, 5)][j]? = some (3, o) → j < 6 → o < 74 → ∃ a : Int, l[o]? = some (.int .i64 a) := by
    intro j o h hj ho
    obtain ⟨f, hf1, hf2, hf3⟩ := field_of rl_fields j _ _ h
    have h1 := hg j f hf1
    rw [hf2, hf3, hci, List.getElem?_eq_getElem (by omega), List.drop_eq_getElem_cons (by omega)] at h1
    obtain ⟨a, e, _, w0⟩ := DataW.trod_int hi h1
    rw [List.take_succ_cons, List.take_zero] at e
    have e := (List.cons.inj e).1
    exact ⟨a, by rw [List.getElem?_eq_getElem (by omega), e]⟩
  have g3 : ∃ a : Int, l[3]? = some (.int .i64 a) := by
    obtain ⟨f, hf1, hf2, hf3⟩ := field_of rl_fields 3 _ _ rfl
    have h1 := hg 3 f hf1
    rw [hf2, hf3, hcj, List.getElem?_eq_getElem (by omega), List.drop_eq_getElem_cons (by omega)] at h1
    obtain ⟨a, e, _, w0⟩ := DataW.trod_int hj h1
    rw [List.take_succ_cons, List.take_zero] at e
    have e := (List.cons.inj e).1
    exact ⟨a, by rw [List.getElem?_eq_getElem (by omega), e]⟩
  obtain ⟨f5, hf51, hf52, hf53⟩ := field_of rl_fields 5 _ _ rfl
  have h5 := hg 5 f5 hf51
  rw [hf52, hf53, hcb, List.getElem?_eq_getElem (by omega)] at h5
  obtain ⟨zs, m', hm', hz, hzlen, hzl, hk⟩ := DataW.trod_struct bk_under h5
  have hz2 : zs.length = 2 := hzl.trans (by kernel_rfl)
  obtain ⟨fa, hfa1, hfa2, hfa3⟩ := field_of bk_fields 0 _ _ rfl
  have ha := hk 0 fa hfa1
  rw [hfa2, hfa3, hch, List.getElem?_eq_getElem (by omega)] at ha
  obtain ⟨hd, hdok, hde⟩ := open_hd_cells (by simp [hl]) ha
  obtain ⟨fb, hfb1, hfb2, hfb3⟩ := field_of bk_fields 1 _ _ rfl
  have hb := hk 1 fb hfb1
  rw [hfb2, hfb3, hct, List.getElem?_eq_getElem (by omega)] at hb
  have htx : ∃ v : Value, l[73]? = some v ∧ v.oneCell' = true := by
    have e73 : (((l.drop 5).take 69).drop 68).take 1 = [l[73]] := by
      rw [List.drop_take, List.drop_drop, List.take_take, List.drop_eq_getElem_cons (by omega)]
      rfl
    refine ⟨l[73], List.getElem?_eq_getElem (by omega), ?_⟩
    have hb' : DataW.trod enc Try.prog w base sp _ _ 58 [l[73]] = some zs[1] := e73 ▸ hb
    rcases Go.Deep.open_slice htu hb' with ⟨e, _⟩ | ⟨a, len, cap, m, n, D, Pl, e, _⟩
    · rw [List.singleton_inj.1 e]; rfl
    · rw [List.singleton_inj.1 e]; rfl
  obtain ⟨a0, ha0, e0⟩ := g0
  obtain ⟨a1, e1⟩ := gi 1 1 rfl (by omega) (by omega)
  obtain ⟨a2, e2⟩ := gi 2 2 rfl (by omega) (by omega)
  obtain ⟨a3, e3⟩ := g3
  obtain ⟨a4, e4⟩ := gi 4 4 rfl (by omega) (by omega)
  obtain ⟨tx, etx, htx1⟩ := htx
  refine ⟨⟨a0, a1, a2, a3, a4, hd, tx⟩, ⟨ha0, hdok, htx1⟩, ?_⟩
  have e5 : (l.drop 5).take 68 = hdcs hd := by
    rw [← hde]
    simp [List.take_take]
  have hz0 : l = l.take 5 ++ ((l.drop 5).take 68 ++ l.drop 73) := by
    have := (List.take_append_drop 68 (l.drop 5))
    rw [List.drop_drop] at this
    rw [show l.drop 73 = l.drop (5 + 68) from rfl, this, List.take_append_drop]
  have h05 : l.take 5 = [.int .u32 (a0 : Int), .int .i64 a1, .int .i64 a2, .int .i64 a3, .int .i64 a4] := by
    apply List.ext_getElem?
    intro i
    rw [List.getElem?_take]
    match i with
    | 0 => simpa using e0
    | 1 => simpa using e1
    | 2 => simpa using e2
    | 3 => simpa using e3
    | 4 => simpa using e4
    | i + 5 => simp; intro h; omega
  have h73 : l.drop 73 = [tx] := by
    rw [List.drop_eq_getElem_cons (by omega), List.drop_of_length_le (by omega)]
    rw [List.getElem?_eq_getElem (by omega)] at etx
    rw [Option.some.inj etx]
  rw [hz0, h05, e5, h73]
  simp [rlL, rlS]
set_option maxRecDepth 100000 in
theorem open_rl {H : Type} {enc : TypeId × Value → H} {w : World} {base : Nat} {r : Reach} {b0 : Nat} {sp : Nat → Bool} {hd : Bool} {v : Value} {d : DataW H} {p : List MemPlace}
    (hv : Value.okWide Try.prog w r b0 62 v) (h : DataW.Trod enc Try.prog w base sp hd 62 v d p) : ∃ r : Rl, r.okv ∧ v = rlv r := by
  obtain ⟨cs, rfl, hsz⟩ := okWide_struct rl_under hv
  obtain ⟨fuel, hf⟩ := h
  obtain ⟨h, hk, e⟩ := open_rl_cells (l := cs.toList) (by
    have := hsz.trans (show Try.prog.cellsOf 62 = 74 by kernel_rfl)
    rw [Array.length_toList]; exact this) hf
  refine ⟨h, hk, ?_⟩
  have e' : cs.toList = rlL h := e
  unfold rlv
  rw [← e']
end Go.Proofs.Ytnbppbnjkmopeaa
