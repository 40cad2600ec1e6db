/- What the head of the translation says, read off its signs. No condition. -/
import Derived.Test.YtnbppbnjkmopeaaRows
import Derived.JoinedOf
namespace Go.Proofs.Ytnbppbnjkmopeaa

theorem list_of {s : String} {l : List Char} (h : s = String.ofList l) : s.toList = l := by rw [h, String.toList_ofList]

def makeOf (l : List Char) : Bool :=
  match behindMainWord (wordsSigns l) with
  | c :: rest => !(c == "gc".toList || c == "spec".toList) && (c == "cut".toList || (c == "finals".toList && rest.head? == some "cut".toList))
  | [] => false
theorem make_of {P : Program} {l : List Char} (h : P.initOrder.toList = l) (hm : makeOf l = true) : P.make = some .cut := by
  unfold Program.make
  rw [h]
  unfold makeOf at hm
  split at hm
  · rename_i c rest e
    simp only [Bool.and_eq_true, Bool.not_eq_true'] at hm
    simp only [e]
    rw [if_neg (by rw [hm.1]; exact Bool.false_ne_true), if_pos hm.2]
  · cases hm

def liftOf (l : List Char) : Bool :=
  let ws := behindMainWord (wordsSigns l)
  !(ws.head? == some "carried".toList) && !(if (stripLifts liftWords ws).2.head? == some "cut".toList then (stripLifts liftWords ws).1 else []).contains "finals"
theorem lift_of {P : Program} {l : List Char} (h : P.initOrder.toList = l) (hm : liftOf l = true) : P.liftsFinal = false := by
  unfold Program.liftsFinal Program.headLifts
  rw [h]
  simp only [liftOf, Bool.and_eq_true, Bool.not_eq_true'] at hm
  simp only [hm.1, hm.2, Bool.false_and, Bool.or_false]

def enterOf (l : List Char) : Bool :=
  match behindMainWord (wordsSigns l) with
  | c :: rest => (stripLifts liftWords (c :: rest)).1.isEmpty && (stripLifts liftWords (c :: rest)).2.head? == some "cut".toList
  | [] => false
theorem enter_of {P : Program} {l : List Char} (h : P.initOrder.toList = l) (hm : enterOf l = true) (h1 : P.laysLater = false) (h2 : P.bearsReflect = false) (h3 : P.doorRows = []) : P.mayEnter = true := by
  unfold Program.mayEnter
  rw [h]
  unfold enterOf at hm
  split at hm
  · rename_i c rest e
    simp only [Bool.and_eq_true, List.isEmpty_iff] at hm
    simp only [e]
    rw [hm.1, hm.2, h1, h2]
    unfold Program.doorFits
    rw [h3]
    simp
  · cases hm

set_option maxRecDepth 1000000 in
theorem head_make : Try.prog.make = some .cut := make_of (list_of (s := Try.prog.initOrder) (l := _) rfl) (by kernel_rfl)
set_option maxRecDepth 1000000 in
theorem head_lift : Try.prog.liftsFinal = false := lift_of (list_of (s := Try.prog.initOrder) (l := _) rfl) (by kernel_rfl)
set_option maxRecDepth 1000000 in
theorem head_enter : Try.prog.mayEnter = true := enter_of (list_of (s := Try.prog.initOrder) (l := _) rfl) (by kernel_rfl) (by kernel_rfl) (by kernel_rfl) (by kernel_rfl)
end Go.Proofs.Ytnbppbnjkmopeaa
