/- Two lists of as many sums that have one root: the same, or two unlike pairs have one sum. Plain lists. No condition. -/
import Derived.Test.YtfopockjakeplaaTwPlain
namespace Go.Proofs.Ytfopockjakeplaa

/-- two unlike pairs of one level that have one sum -/
def cl1 : List Nat → List Nat → Bool
  | a :: a' :: l, b :: b' :: m => (decide (prs a a' = prs b b') && (decide (a ≠ b) || decide (a' ≠ b'))) || cl1 l m
  | [a], [b] => decide (prs a a = prs b b) && (decide (a ≠ b) || decide (a ≠ b))
  | _, _ => false
/-- and of any level -/
def clash : Nat → List Nat → List Nat → Bool
  | 0, _, _ => false
  | f + 1, a, b => if a.length ≤ 1 then false else cl1 a b || clash f (upl a) (upl b)
theorem cl1_eq : ∀ (a b : List Nat), a.length = b.length → cl1 a b = false → upl a = upl b → a = b
  | [], [], _, _, _ => rfl
  | [], _ :: _, h, _, _ => by simp at h
  | _ :: _, [], h, _, _ => by simp at h
  | [_], _ :: _ :: _, h, _, _ => by simp at h
  | _ :: _ :: _, [_], h, _, _ => by simp at h
  | [a], [b], _, hc, hu => by
    simp only [upl, List.cons.injEq, and_true] at hu
    simp [cl1, hu] at hc
    rw [hc]
  | a :: a' :: l, b :: b' :: m, h, hc, hu => by
    simp only [upl, List.cons.injEq] at hu
    simp only [cl1, hu.1, decide_true, Bool.true_and, Bool.or_eq_false_iff, decide_eq_false_iff_not, Decidable.not_not] at hc
    rw [hc.1.1, hc.1.2, cl1_eq l m (by simpa using h) hc.2 hu.2]
theorem clash_eq : ∀ (f : Nat) (a b : List Nat) (t t' : Bool), a.length = b.length → a.length ≤ f + 1 → clash f a b = false → (mroot f a t).1 = (mroot f b t').1 → a = b
  | 0, a, b, t, t', h, hf, _, hr => by
    simp only [mroot] at hr
    match a, b, h, hf, hr with
    | [], [], _, _, _ => rfl
    | [x], [y], _, _, hr => simpa using hr
  | f + 1, a, b, t, t', h, hf, hc, hr => by
    rw [mroot, mroot, ← h] at hr
    rw [clash] at hc
    by_cases h1 : a.length ≤ 1
    · rw [if_pos h1, if_pos h1] at hr
      match a, b, h, h1, hr with
      | [], [], _, _, _ => rfl
      | [x], [y], _, _, hr => simpa using hr
    · rw [if_neg h1, if_neg h1] at hr
      rw [if_neg h1, Bool.or_eq_false_iff] at hc
      have hl : (upl a).length = (upl b).length := by rw [upl_len, upl_len, h]
      exact cl1_eq a b h hc.1 (clash_eq f _ _ _ _ hl (by rw [upl_len]; omega) hc.2 hr)
/-- one pair against one pair -/
def tst (a a' b b' : Nat) : Bool := decide (prs a a' = prs b b') && (decide (a ≠ b) || decide (a' ≠ b'))
theorem cl1_app : ∀ (x x' y y' : List Nat), x.length = x'.length → x.length % 2 = 0 → cl1 (x ++ y) (x' ++ y') = (cl1 x x' || cl1 y y')
  | [], [], _, _, _, _ => by simp [cl1]
  | [], _ :: _, _, _, h, _ => by simp at h
  | _ :: _, [], _, _, h, _ => by simp at h
  | [_], _, _, _, _, h => by simp at h
  | _ :: _ :: _, [_], _, _, h, _ => by simp at h
  | a :: a' :: x, b :: b' :: x', y, y', h, he => by
    simp only [List.cons_append, cl1]
    rw [cl1_app x x' y y' (by simpa using h) (by simp at he; omega), Bool.or_assoc]
theorem cl1_two {a b : List Nat} {i : Nat} (hl : a.length = b.length) (h : i + 1 < a.length) (he : i % 2 = 0) :
    cl1 (a.take (i + 2)) (b.take (i + 2)) = (cl1 (a.take i) (b.take i) || tst (a.getD i 0) (a.getD (i + 1) 0) (b.getD i 0) (b.getD (i + 1) 0)) := by
  rw [take_two h, take_two (l := b) (by omega), cl1_app _ _ _ _ (by rw [List.length_take, List.length_take, hl]) (by rw [List.length_take]; omega)]
  simp [cl1, tst]
theorem cl1_one {a b : List Nat} {i : Nat} (hl : a.length = b.length) (h : i + 1 = a.length) (he : i % 2 = 0) :
    cl1 a b = (cl1 (a.take i) (b.take i) || tst (a.getD i 0) (a.getD i 0) (b.getD i 0) (b.getD i 0)) := by
  conv => lhs; rw [take_one h, take_one (l := b) (i := i) (by omega)]
  rw [cl1_app _ _ _ _ (by rw [List.length_take, List.length_take, hl]) (by rw [List.length_take]; omega)]
  simp [cl1, tst]
theorem cl1_take {a b : List Nat} {i : Nat} (hl : a.length = b.length) (h : i ≤ a.length) (he : i % 2 = 0) (hc : cl1 (a.take i) (b.take i) = true) : cl1 a b = true := by
  conv => lhs; rw [← List.take_append_drop i a, ← List.take_append_drop i b]
  rw [cl1_app _ _ _ _ (by rw [List.length_take, List.length_take, hl]) (by rw [List.length_take]; omega), hc, Bool.true_or]
theorem upl_j {a : List Nat} {i j : Nat} (h : i < a.length) (he : i % 2 = 0) (hj : j = min (i + 1) (a.length - 1)) : upl (a.take (i + 2)) = upl (a.take i) ++ [prs (a.getD i 0) (a.getD j 0)] := by
  by_cases h1 : i + 1 < a.length
  · rw [show j = i + 1 by omega]; exact upl_two h1 he
  · rw [show j = i by omega, List.take_of_length_le (by omega)]
    exact upl_one (by omega) he
theorem cl1_j {a b : List Nat} {i j : Nat} (hl : a.length = b.length) (h : i < a.length) (he : i % 2 = 0) (hj : j = min (i + 1) (a.length - 1)) :
    cl1 (a.take (i + 2)) (b.take (i + 2)) = (cl1 (a.take i) (b.take i) || tst (a.getD i 0) (a.getD j 0) (b.getD i 0) (b.getD j 0)) := by
  by_cases h1 : i + 1 < a.length
  · rw [show j = i + 1 by omega]; exact cl1_two hl h1 he
  · rw [show j = i by omega, List.take_of_length_le (l := a) (by omega), List.take_of_length_le (l := b) (by omega)]
    exact cl1_one hl (by omega) he
theorem cl1_tk {a b : List Nat} {i : Nat} (hl : a.length = b.length) (he : i % 2 = 0) (hc : cl1 (a.take i) (b.take i) = true) : cl1 a b = true := by
  by_cases h : i ≤ a.length
  · exact cl1_take hl h he hc
  · rw [List.take_of_length_le (l := a) (by omega), List.take_of_length_le (l := b) (by omega)] at hc
    exact hc
theorem clash_up {f : Nat} {a b : List Nat} (h : 1 < a.length) (hf : a.length ≤ f + 1) : ∃ g, (upl a).length ≤ g + 1 ∧ clash f a b = (cl1 a b || clash g (upl a) (upl b)) := by
  obtain ⟨g, rfl⟩ : ∃ g, f = g + 1 := ⟨f - 1, by omega⟩
  exact ⟨g, by rw [upl_len]; omega, by rw [clash, if_neg (by omega)]⟩
theorem clash_end {f : Nat} {a b : List Nat} (h : a.length ≤ 1) : clash f a b = false := by
  cases f with
  | zero => rfl
  | succ f => rw [clash, if_pos h]
end Go.Proofs.Ytfopockjakeplaa
