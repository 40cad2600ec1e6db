/- merkle.Root in plain lists. No condition. -/
import Derived.Test.YtfopockjakeplaaMkB
namespace Go.Proofs.Ytfopockjakeplaa

/-- the level above -/
def upl : List Nat → List Nat
  | [] => []
  | [a] => [prs a a]
  | a :: b :: l => prs a b :: upl l
/-- are two that are a pair the same? -/
def twn : List Nat → Bool
  | a :: b :: l => decide (a = b) || twn l
  | _ => false
def mroot : Nat → List Nat → Bool → Nat × Bool
  | 0, l, t => (l.getD 0 0, t)
  | f + 1, l, t => if l.length ≤ 1 then (l.getD 0 0, t) else mroot f (upl l) (t || twn l)
def Mroot (l : List Nat) : Nat × Bool := mroot l.length l false
theorem upl_len : ∀ l, (upl l).length = (l.length + 1) / 2
  | [] => by simp [upl]
  | [a] => by simp [upl]
  | a :: b :: l => by rw [upl, List.length_cons, upl_len l, List.length_cons, List.length_cons]; omega
theorem upl_app : ∀ (x y : List Nat), x.length % 2 = 0 → upl (x ++ y) = upl x ++ upl y
  | [], y, _ => rfl
  | [a], y, h => by simp at h
  | a :: b :: x, y, h => by
    simp only [List.cons_append, upl]
    rw [upl_app x y (by simp at h; omega)]
theorem twn_app : ∀ (x y : List Nat), x.length % 2 = 0 → twn (x ++ y) = (twn x || twn y)
  | [], y, _ => by simp [twn]
  | [a], y, h => by simp at h
  | a :: b :: x, y, h => by
    simp only [List.cons_append, twn]
    rw [twn_app x y (by simp at h; omega), Bool.or_assoc]
theorem take_two {l : List Nat} {i : Nat} (h : i + 1 < l.length) : l.take (i + 2) = l.take i ++ [l.getD i 0, l.getD (i + 1) 0] := by
  rw [show i + 2 = (i + 1) + 1 by omega, List.take_add_one, List.take_add_one, List.append_assoc]
  simp [List.getElem?_eq_getElem (show i < l.length by omega), List.getElem?_eq_getElem h]
theorem take_one {l : List Nat} {i : Nat} (h : i + 1 = l.length) : l = l.take i ++ [l.getD i 0] := by
  conv => lhs; rw [← List.take_length (l := l), ← h, List.take_add_one]
  simp [List.getElem?_eq_getElem (show i < l.length by omega)]
theorem upl_two {l : List Nat} {i : Nat} (h : i + 1 < l.length) (he : i % 2 = 0) : upl (l.take (i + 2)) = upl (l.take i) ++ [prs (l.getD i 0) (l.getD (i + 1) 0)] := by
  rw [take_two h, upl_app _ _ (by rw [List.length_take]; omega)]; rfl
theorem twn_two {l : List Nat} {i : Nat} (h : i + 1 < l.length) (he : i % 2 = 0) : twn (l.take (i + 2)) = (twn (l.take i) || decide (l.getD i 0 = l.getD (i + 1) 0)) := by
  rw [take_two h, twn_app _ _ (by rw [List.length_take]; omega)]; simp [twn]
theorem upl_one {l : List Nat} {i : Nat} (h : i + 1 = l.length) (he : i % 2 = 0) : upl l = upl (l.take i) ++ [prs (l.getD i 0) (l.getD i 0)] := by
  conv => lhs; rw [take_one h]
  rw [upl_app _ _ (by rw [List.length_take]; omega)]; rfl
theorem twn_one {l : List Nat} {i : Nat} (h : i + 1 = l.length) (he : i % 2 = 0) : twn l = twn (l.take i) := by
  conv => lhs; rw [take_one h]
  rw [twn_app _ _ (by rw [List.length_take]; omega)]; simp [twn]
theorem upl_lt {l : List Nat} (hl : ∀ x ∈ l, x < 2 ^ 256) : ∀ x ∈ upl l, x < 2 ^ 256 := by
  induction l using upl.induct with
  | case1 => simp [upl]
  | case2 a => intro x hx; simp only [upl, List.mem_singleton] at hx; rw [hx]; exact prs_lt _ _
  | case3 a b l ih =>
    intro x hx
    simp only [upl, List.mem_cons] at hx
    rcases hx with rfl | hx
    · exact prs_lt _ _
    · exact ih (fun y hy => hl y (by simp [hy])) x hx
theorem mroot_up {f : Nat} {l : List Nat} {t : Bool} (h : 1 < l.length) (hf : l.length ≤ f + 1) : ∃ f', (upl l).length ≤ f' + 1 ∧ mroot f l t = mroot f' (upl l) (t || twn l) := by
  cases f with
  | zero => omega
  | succ f =>
    refine ⟨f, by rw [upl_len]; omega, ?_⟩
    rw [mroot, if_neg (by omega)]
theorem mroot_end {f : Nat} {l : List Nat} {t : Bool} (h : l.length ≤ 1) : mroot f l t = (l.getD 0 0, t) := by
  cases f with
  | zero => rfl
  | succ f => rw [mroot, if_pos h]
end Go.Proofs.Ytfopockjakeplaa
