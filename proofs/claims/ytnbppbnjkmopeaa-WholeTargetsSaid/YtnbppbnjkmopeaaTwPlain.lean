/- Twins: sums of which the last ones are there twice, in plain lists. No condition. -/
import Derived.Test.YtnbppbnjkmopeaaMk1
namespace Go.Proofs.Ytnbppbnjkmopeaa

theorem mroot_lt : ∀ (f : Nat) (l : List Nat) (t : Bool), (∀ x ∈ l, x < 2 ^ 256) → (mroot f l t).1 < 2 ^ 256 := by
  have h0 : ∀ l : List Nat, (∀ x ∈ l, x < 2 ^ 256) → l.getD 0 0 < 2 ^ 256 := fun l h => by
    cases l with
    | nil => simp
    | cons a l => simpa using h a (by simp)
  intro f
  induction f with
  | zero => intro l t h; exact h0 l h
  | succ f ih =>
    intro l t h
    rw [mroot]; split
    · exact h0 l h
    · exact ih _ _ (upl_lt h)
theorem mroot_told : ∀ (f : Nat) (l : List Nat), (mroot f l true).2 = true
  | 0, _ => rfl
  | f + 1, l => by
    rw [mroot]; split
    · rfl
    · rw [Bool.true_or]; exact mroot_told f _
theorem mroot_fst : ∀ (f : Nat) (l : List Nat) (t t' : Bool), (mroot f l t).1 = (mroot f l t').1
  | 0, _, _, _ => rfl
  | f + 1, l, t, t' => by
    rw [mroot, mroot]; split
    · rfl
    · exact mroot_fst f _ _ _
theorem mroot_fuel : ∀ (f f' : Nat) (l : List Nat) (t : Bool), l.length ≤ f + 1 → l.length ≤ f' + 1 → mroot f l t = mroot f' l t
  | 0, 0, _, _, _, _ => rfl
  | 0, f' + 1, l, t, h, _ => by rw [mroot, mroot, if_pos (by omega)]
  | f + 1, 0, l, t, _, h => by rw [mroot, mroot, if_pos (by omega)]
  | f + 1, f' + 1, l, t, h, h' => by
    rw [mroot, mroot]
    split
    · rfl
    · exact mroot_fuel f f' _ _ (by rw [upl_len]; omega) (by rw [upl_len]; omega)
theorem upl_drop : ∀ (m : Nat) (l : List Nat), upl (l.drop (2 * m)) = (upl l).drop m
  | 0, l => rfl
  | m + 1, [] => by simp [upl]
  | m + 1, [a] => by simp [upl, show 2 * (m + 1) = 2 * m + 1 + 1 by omega]
  | m + 1, a :: b :: l => by
    rw [show 2 * (m + 1) = 2 * m + 1 + 1 by omega, List.drop_succ_cons, List.drop_succ_cons, upl_drop m l, upl, List.drop_succ_cons]
theorem twins_up : ∀ (k : Nat) (l : List Nat) (f f' : Nat) (t t' : Bool), l.length % (2 * 2 ^ k) = 2 ^ k → 2 ^ k < l.length → l.length ≤ f + 1 → l.length + 2 ^ k ≤ f' + 1 →
    (mroot f' (l ++ l.drop (l.length - 2 ^ k)) t').1 = (mroot f l t).1 ∧ (mroot f' (l ++ l.drop (l.length - 2 ^ k)) t').2 = true
  | 0, l, f, f', t, t', hm, hg, hf, hf' => by
    rw [Nat.pow_zero] at *
    obtain ⟨g, rfl⟩ : ∃ g, f = g + 1 := ⟨f - 1, by omega⟩
    obtain ⟨g', rfl⟩ : ∃ g, f' = g + 1 := ⟨f' - 1, by omega⟩
    have hl : l.length - 1 + 1 = l.length := by omega
    have hs := take_one hl
    have hd : l.drop (l.length - 1) = [l.getD (l.length - 1) 0] := by
      rw [List.drop_eq_getElem_cons (by omega), List.drop_eq_nil_of_le (by omega)]
      simp [List.getElem?_eq_getElem (show l.length - 1 < l.length by omega)]
    have hu := upl_one hl (by omega)
    obtain ⟨x, hx⟩ : ∃ x, x = l.getD (l.length - 1) 0 := ⟨_, rfl⟩
    obtain ⟨q, hq⟩ : ∃ q, q = l.take (l.length - 1) := ⟨_, rfl⟩
    have hql : q.length % 2 = 0 := by rw [hq, List.length_take]; omega
    have hlq : l.length = q.length + 1 := by rw [hq, List.length_take]; omega
    rw [← hx, ← hq] at hs hu
    rw [← hx] at hd
    have e : l ++ l.drop (l.length - 1) = q ++ [x, x] := by
      rw [hd]; conv => lhs; rw [hs]
      simp
    have eu : upl (q ++ [x, x]) = upl l := by rw [upl_app _ _ hql, hu]; rfl
    have et : twn (q ++ [x, x]) = true := by rw [twn_app _ _ hql]; simp [twn]
    rw [e, mroot, mroot, if_neg (by simp), if_neg (by omega), eu, et, Bool.or_true]
    refine ⟨?_, mroot_told _ _⟩
    rw [mroot_fuel g' g _ _ (by rw [upl_len]; omega) (by rw [upl_len]; omega)]
    exact mroot_fst _ _ _ _
  | k + 1, l, f, f', t, t', hm, hg, hf, hf' => by
    have hp : 2 ^ (k + 1) = 2 * 2 ^ k := by rw [Nat.pow_succ]; omega
    have h1 : 1 ≤ 2 ^ k := Nat.one_le_two_pow
    obtain ⟨p, hpp⟩ : ∃ p, p = 2 ^ k := ⟨_, rfl⟩
    have ih := twins_up k (upl l)
    simp only [hp, ← hpp] at hm hg hf hf' h1 ih ⊢
    obtain ⟨g, rfl⟩ : ∃ g, f = g + 1 := ⟨f - 1, by omega⟩
    obtain ⟨g', rfl⟩ : ∃ g, f' = g + 1 := ⟨f' - 1, by omega⟩
    have hmod : ∃ c, l.length = 2 * (2 * p) * c + 2 * p := ⟨l.length / (2 * (2 * p)), by have := Nat.div_add_mod l.length (2 * (2 * p)); omega⟩
    obtain ⟨c, hc⟩ := hmod
    have hc2 : 2 * (2 * p) * c = 2 * (2 * p * c) := by rw [Nat.mul_assoc]
    have hul : (upl l).length = 2 * p * c + p := by rw [upl_len]; omega
    have hev : l.length % 2 = 0 := by omega
    have e : upl (l ++ l.drop (l.length - 2 * p)) = upl l ++ (upl l).drop ((upl l).length - p) := by
      rw [upl_app _ _ hev, show l.length - 2 * p = 2 * ((upl l).length - p) by omega, upl_drop]
    rw [mroot, mroot, if_neg (by rw [List.length_append]; omega), if_neg (by omega), e]
    exact ih g g' _ _ (by rw [hul, Nat.mul_add_mod]; exact Nat.mod_eq_of_lt (by omega)) (by omega) (by omega) (by omega)
/-- the last 2 ^ k sums once more: the same root, and that is told -/
theorem twins_root (k : Nat) (l : List Nat) (hm : l.length % (2 * 2 ^ k) = 2 ^ k) (hg : 2 ^ k < l.length) :
    (Mroot (l ++ l.drop (l.length - 2 ^ k))).1 = (Mroot l).1 ∧ (Mroot (l ++ l.drop (l.length - 2 ^ k))).2 = true :=
  twins_up k l _ _ _ _ hm hg (Nat.le_succ _) (by rw [List.length_append, List.length_drop]; omega)
end Go.Proofs.Ytnbppbnjkmopeaa
