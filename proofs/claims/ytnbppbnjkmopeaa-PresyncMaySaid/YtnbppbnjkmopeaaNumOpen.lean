/- How an argument that is a number of 256 bits reads. No condition. -/
import Derived.Test.YtnbppbnjkmopeaaNumPlain
import Derived.Test.YtnbppbnjkmopeaaOpenBase
namespace Go.Proofs.Ytnbppbnjkmopeaa
open Go.ChangeShapes Go.WideShapes Go.ChangeAt Go.RowKit

set_option maxRecDepth 100000 in
theorem open_num {H : Type} {enc : TypeId × Value → H} {w : World} {base : Nat} {r : Reach} {b0 : Nat} {sp : Nat → Bool} {hd : Bool} {v : Value} {d : DataW H} {p : List MemPlace}
    (hv : Value.okWide Try.prog w r b0 47 v) (h : DataW.Trod enc Try.prog w base sp hd 47 v d p) : ∃ a, a < 2 ^ 256 ∧ v = nv a := by
  have hu : Try.prog.underlying 47 = some (.array 4 45) := by kernel_rfl
  have he : Try.prog.underlying 45 = some (.int .u64) := by kernel_rfl
  have hce : Try.prog.cellsOf 45 = 1 := by kernel_rfl
  simp only [Value.okWide, hu] at hv
  obtain ⟨cs, rfl, hcs, _⟩ := hv
  have hc4 : cs.size = 4 := hcs.trans (by kernel_rfl)
  obtain ⟨fuel, hf⟩ := h
  obtain ⟨xs, m, _, _, _, hl, hx⟩ := DataW.trod_array hu hf
  obtain ⟨l⟩ := cs
  match l, hc4 with
  | [c0, c1, c2, c3], _ =>
    match xs, hl with
    | [x0, x1, x2, x3], _ =>
      have h0 := hx 0 (by omega); have h1 := hx 1 (by omega); have h2 := hx 2 (by omega); have h3 := hx 3 (by omega)
      simp [hce, Value.cells] at h0 h1 h2 h3
      obtain ⟨a0, e0, _, w0⟩ := DataW.trod_int he h0
      obtain ⟨a1, e1, _, w1⟩ := DataW.trod_int he h1
      obtain ⟨a2, e2, _, w2⟩ := DataW.trod_int he h2
      obtain ⟨a3, e3, _, w3⟩ := DataW.trod_int he h3
      simp at e0 e1 e2 e3
      subst e0 e1 e2 e3
      simp [Lit.wf, IntKind.min, IntKind.max, IntKind.signed, IntKind.bits] at w0 w1 w2 w3
      exact ⟨nOf a0 a1 a2 a3, nOf_lt w0.1 w1.1 w2.1 w3.1 (by omega) (by omega) (by omega) (by omega), (nv_mk w0.1 w1.1 w2.1 w3.1 (by omega) (by omega) (by omega) (by omega)).symm⟩
end Go.Proofs.Ytnbppbnjkmopeaa
