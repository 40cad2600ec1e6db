/- Headers compared. No condition. -/
import Derived.Test.YtnbppbnjkmopeaaHdA
import Derived.Laws.StructEq
namespace Go.Proofs.Ytnbppbnjkmopeaa
open Go.RowKit

def hdeq (a b : Hd) : Bool := decide (a.v = b.v) && (decide (a.p = b.p) && (decide (a.r = b.r) && (decide (a.t = b.t) && (decide (a.b = b.b) && decide (a.n = b.n)))))
theorem hdeq_iff {a b : Hd} : hdeq a b = true ↔ a = b := by
  obtain ⟨v, p, r, t, b0, n⟩ := a
  obtain ⟨v', p', r', t', b0', n'⟩ := b
  simp [hdeq]
theorem hdeq_self (a : Hd) : hdeq a a = true := hdeq_iff.2 rfl
theorem eq_id9 (a b : Nat) (ha : a < 2 ^ 256) (hb : b < 2 ^ 256) (w : World) : (Op.equalIn 9999 24 (iv a) (iv b)).run Try.prog w = .ok (decide (a = b)) w := by
  have h := run_equalIn_ints (P := Try.prog) w 9997 24 5 32 .u8 (by kernel_rfl) (by kernel_rfl) (fun _ => by kernel_rfl) ((List.range 32).map (lb a)) ((List.range 32).map (lb b)) (by simp) (by simp)
  have e : ((List.range 32).map (lb a) == (List.range 32).map (lb b)) = decide (a = b) := by
    rw [Bool.eq_iff_iff, beq_iff_eq, decide_eq_true_iff]
    constructor
    · intro h
      refine lb_inj ha hb fun i hi => ?_
      have := congrArg (fun l => l[i]?) h
      simpa [hi] using this
    · rintro rfl; rfl
  rw [e] at h
  exact h
theorem part_v (h : Hd) (w : World) : (part 22 (hdcs h).toArray 0).run Try.prog w = .ok (.int .u32 (h.v : Int)) w := by kernel_rfl
theorem part_p (h : Hd) (w : World) : (part 24 (hdcs h).toArray 1).run Try.prog w = .ok (iv h.p) w := by kernel_rfl
theorem part_r (h : Hd) (w : World) : (part 24 (hdcs h).toArray 33).run Try.prog w = .ok (iv h.r) w := by kernel_rfl
theorem part_t (h : Hd) (w : World) : (part 22 (hdcs h).toArray 65).run Try.prog w = .ok (.int .u32 (h.t : Int)) w := by kernel_rfl
theorem part_b (h : Hd) (w : World) : (part 22 (hdcs h).toArray 66).run Try.prog w = .ok (.int .u32 (h.b : Int)) w := by kernel_rfl
theorem part_n (h : Hd) (w : World) : (part 22 (hdcs h).toArray 67).run Try.prog w = .ok (.int .u32 (h.n : Int)) w := by kernel_rfl
theorem eq_u32 (a b : Nat) (w : World) : (Op.equalIn 9999 22 (.int .u32 (a : Int)) (.int .u32 (b : Int))).run Try.prog w = .ok (decide (a = b)) w := by
  have h := run_equalIn_int (P := Try.prog) w 9998 22 .u32 .u32 (a : Int) (b : Int) (by kernel_rfl)
  rw [show ((a : Int) == (b : Int)) = decide (a = b) by rw [Bool.eq_iff_iff]; simp; omega] at h
  exact h
/-- the fields of two structs compared, by their types and places -/
def eqF (d : Nat) (xs ys : Array Value) : List (TypeId × Nat) → Sem Bool
  | [] => pure true
  | f :: fs => do
      let a ← part f.1 xs f.2
      let b ← part f.1 ys f.2
      let r ← Op.equalIn d f.1 a b
      if (!r) = true then pure false else eqF d xs ys fs
theorem eqFields_eq (d : Nat) (xs ys : Array Value) : ∀ (fs : List Field), (fs.all fun f => f.name != "_") = true → Op.eqFields d xs ys fs = eqF d xs ys (fs.map fun f => (f.type, f.offset))
  | [], _ => rfl
  | f :: fs, h => by
    simp only [List.all_cons, Bool.and_eq_true, bne_iff_ne, ne_eq] at h
    rw [Op.eqFields, List.map_cons, eqF, if_pos h.1, eqFields_eq d xs ys fs h.2]
theorem hd_fields : (Try.prog.fieldsOf 26).toList.map (fun f => (f.type, f.offset)) = [(22, 0), (24, 1), (24, 33), (22, 65), (22, 66), (22, 67)] := by kernel_rfl
theorem eq_hd (a b : Hd) (ha : a.ok) (hb : b.ok) (w : World) : (Op.equalIn 10000 26 (hdv a) (hdv b)).run Try.prog w = .ok (hdeq a b) w := by
  have h := run_equalIn_struct (P := Try.prog) w 9999 26 (hdcs a).toArray (hdcs b).toArray (by kernel_rfl) (by kernel_rfl)
  rw [eqFields_eq _ _ _ _ (by kernel_rfl), hd_fields] at h
  simp only [eqF, Sem.run_bind, Sem.run_ite, part_v, part_p, part_r, part_t, part_b, part_n, Result.andThen_ok, eq_u32, eq_id9 _ _ ha.2.1 hb.2.1, eq_id9 _ _ ha.2.2.1 hb.2.2.1] at h
  refine h.trans ?_
  unfold hdeq
  cases decide (a.v = b.v) <;> cases decide (a.p = b.p) <;> cases decide (a.r = b.r) <;> cases decide (a.t = b.t) <;> cases decide (a.b = b.b) <;> cases decide (a.n = b.n) <;> rfl
end Go.Proofs.Ytnbppbnjkmopeaa
