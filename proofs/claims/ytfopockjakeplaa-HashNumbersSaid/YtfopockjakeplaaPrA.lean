/- tallystickref01: prime, digits, more. No condition. -/
import Derived.Test.YtfopockjakeplaaPrPlain
import Derived.Test.YtfopockjakeplaaRs1
import Derived.Test.YtfopockjakeplaaReg
import Derived.Deep.QuietTactic
import Derived.BigQuiet
namespace Go.Proofs.Ytfopockjakeplaa
open Go.RowKit

/-- a row of numbers of 64 bits in memory -/
def DAt (w : World) (v : Value) (l : List Nat) : Prop := ∃ x c, v = .slice x l.length c ∧ (l ≠ [] → ∃ g, x = some ⟨g, 0, none⟩ ∧ ∀ j, j < l.length → w.cell? ⟨g, j, none⟩ = some (.int .u64 (l.getD j 0 : Nat)))
theorem DAt.keep {w w' : World} {v : Value} {l : List Nat} (h : DAt w v l) (hb : Below w.heap.size w w') : DAt w' v l := by
  obtain ⟨x, c, e, h⟩ := h
  refine ⟨x, c, e, fun hne => ?_⟩
  obtain ⟨g, e2, hc⟩ := h hne
  exact ⟨g, e2, fun j hj => (hb.cell (p := ⟨g, j, none⟩) (block_lt_of_cell (hc j hj))).trans (hc j hj)⟩
def d64 (l : List Nat) : List Value := l.map fun (x : Nat) => .int .u64 (x : Int)
theorem d64_len (l : List Nat) : (d64 l).length = l.length := by simp [d64]
theorem d64_get (l : List Nat) (j : Nat) (h : j < l.length) : (d64 l)[j]? = some (.int .u64 (l.getD j 0 : Nat)) := by simp [d64, h]
theorem d64_app (l m : List Nat) : d64 (l ++ m) = d64 l ++ d64 m := by simp [d64]
def OwnsD (w : World) (base : Nat) (v : Value) (q : List Nat) : Prop := w.ownsRow base 53 1 v q.length (d64 q)
theorem OwnsD.nil (w : World) (base : Nat) : OwnsD w base (.slice none 0 0) [] := World.ownsRow_nil _ _ _ _
theorem OwnsD.keep {w w' : World} {base : Nat} {v : Value} {q : List Nat} (h : OwnsD w base v q) (hb : Below w.heap.size w w') : OwnsD w' base v q := by
  refine ⟨h.1, ?_⟩
  rcases h.2 with h' | ⟨g, cap, cur, rfl, h1, h2, h3⟩
  · exact .inl h'
  · exact .inr ⟨g, cap, cur, rfl, h1, below_keep hb h2, h3⟩
theorem OwnsD.at {w : World} {base : Nat} {v : Value} {q : List Nat} (h : OwnsD w base v q) : DAt w v q := by
  have h' := h
  rcases h.2 with ⟨rfl, hq⟩ | ⟨g, cap, cur, rfl, h1, h2, h3⟩
  · exact ⟨none, 0, by rw [hq], fun hne => absurd (List.length_eq_zero_iff.1 hq) hne⟩
  · exact ⟨some ⟨g, 0, none⟩, cap, rfl, fun _ => ⟨g, rfl, fun j hj => by rw [World.ownsRow.cellAt h' j (by omega), d64_get q j hj]⟩⟩
theorem info_u64 : (Try.prog.info? 53).map (fun i => (i.zero, i.size, i.bytes)) = some (some (.int .u64 0), 1, 8) := by kernel_rfl
theorem underlying_u64s : Try.prog.underlying 64 = some (.slice 53) := by kernel_rfl
/-- numbers are appended to the call's own row -/
theorem wpList_append_u64 {ops : Array Oper} {rest : List Oper} {o : Oper} {a : Act} {w : World} {Q : Exit → Act → World → Prop} (hgd : o.guard = none) (s x : Operand)
    (ho : o.op = .call { callee := .builtin .append, args := #[s, x], argTypes := #[64, 64] })
    (base : Nat) (v : Value) (q : List Nat) (hs : a.eval s = v) (hown : OwnsD w base v q) (l : List Nat) (g c : Nat) (hx : a.eval x = .slice (some ⟨g, 0, none⟩) l.length c) (hc : ∀ j, j < l.length → w.cell? ⟨g, j, none⟩ = some (.int .u64 (l.getD j 0 : Nat)))
    (hL : q.length + l.length ≤ 1000000) (hbase : base ≤ w.heap.size)
    (h : ∀ v' w', OwnsD w' base v' (q ++ l) → (∀ B u, B ≤ base → Below B u w → Below B u w') → wpList Try.prog ops Q rest (a.put o.dst v') w') :
    wpList Try.prog ops Q (o :: rest) a w := by
  obtain ⟨i0, hi, hz0, hz1, hz2⟩ := info_parts info_u64
  refine wpList_append_own w hgd s x 64 ho base 53 i0 (.int .u64 0) 1 8 underlying_u64s hi hz0 hz1 hz2 rfl (by decide) v q.length (d64 q) hs hown ⟨g, 0, none⟩ l.length c (d64 l) hx (by rw [d64_len]; omega)
    (fun j u hj => ?_) (fun u hu => by simp only [d64, List.mem_map] at hu; obtain ⟨y, _, rfl⟩ := hu; rfl) (by unfold maxLen; omega) (by omega) hbase fun v' w' hown' hgrow _ => ?_
  · have hjl : j < l.length := by
      have := (List.getElem?_eq_some_iff.1 hj).1
      rwa [d64_len] at this
    rw [d64_get l j hjl] at hj
    rw [Addr.add_lit, Nat.zero_add, hc j hjl]; exact hj
  · refine h v' w' ?_ fun B u hB hu => ?_
    · unfold OwnsD
      rw [List.length_append, d64_app]
      exact hown'
    · exact hu.grown hgrow (by omega) (fun j hj => by have := (World.ownsRow.lt hown j hj).1; omega)

set_option maxRecDepth 100000 in
set_option maxHeartbeats 1000000 in
theorem prime_any (n : Nat) (hn : n ≤ 1000) (w : World) :
    Calls Try.prog 33 #[.int .i64 n] w fun e w' => e = .returned (.bool (isP n)) ∧ w = w' := by
  obtain ⟨R, hR⟩ : ∃ R, R = isP n := ⟨_, rfl⟩
  rw [← hR]
  have HR := Lib.hid hR
  clear hR
  go_enter Try.func33, Try.ntmps33
  go_wp2_with fail
  go_loopg [3] n (fun g dv wr => ∃ (f d : Nat), g = n + 2 - d ∧ 2 ≤ d ∧ d ≤ n + 2 ∧ n + 2 ≤ d + f ∧ prm f d n = R ∧ dv = .int .i64 d ∧ w = wr)
  case atStart => exact ⟨n, 2, by omega, by omega, by omega, by omega, HR.out.symm, rfl, rfl⟩
  case round =>
    clear HR
    obtain ⟨f, d, hg, hd2, hdn, hf, hR, rfl, rfl⟩ := hrel
    have HG := Lib.hid hg; have HR := Lib.hid hR; have HF := Lib.hid hf
    clear hg hR hf
    obtain ⟨dd, hdd⟩ : ∃ dd, dd = d * d := ⟨_, rfl⟩
    have edd : (d : Int) * (d : Int) = (dd : Int) := by rw [hdd, Int.natCast_mul]
    have hddl : dd ≤ 1100000 := by rw [hdd]; exact Nat.le_trans (Nat.mul_le_mul (show d ≤ 1002 by omega) (show d ≤ 1002 by omega)) (by omega)
    have hdge : d ≤ dd := by rw [hdd]; exact Nat.le_mul_of_pos_left d (by omega)
    have HDD := Lib.hid hdd
    clear hdd
    by_cases hlt : n < dd
    · have hlt' : ¬ (dd : Int) ≤ (n : Int) := by omega
      have hr : decide ((1 : Int) < (n : Int)) = R := by
        rw [← HR.out]
        cases f with
        | zero => rw [prm, Bool.eq_iff_iff]; simp; omega
        | succ f => rw [prm, if_pos (by rw [← HDD.out]; exact hlt), Bool.eq_iff_iff]; simp; omega
      have HRR := Lib.hid hr
      clear hr
      go_wp2_with fail
      go_ret
      exact ⟨by rw [← HRR.out]; rfl, rfl⟩
    · obtain ⟨f, rfl⟩ : ∃ f', f = f' + 1 := ⟨f - 1, by have := HF.out; omega⟩
      have hr := HR.out
      rw [prm, if_neg (by rw [← HDD.out]; exact hlt)] at hr
      have hlt' : (dd : Int) ≤ (n : Int) := by omega
      obtain ⟨r, hr2⟩ : ∃ r, r = n % d := ⟨_, rfl⟩
      have er : (n : Int) % (d : Int) = (r : Int) := by rw [hr2, Int.natCast_emod]
      have er2 : Int.tmod (n : Int) (d : Int) = (r : Int) := by rw [Int.tmod_eq_emod_of_nonneg (by omega)]; exact er
      rw [← hr2] at hr
      have HRR := Lib.hid hr
      clear hr hr2 HR
      by_cases h0 : r = 0
      · have hr := HRR.out
        rw [if_pos h0] at hr
        subst h0
        subst hr
        clear HRR
        go_wp2_with fail
        go_ret
        exact ⟨rfl, rfl⟩
      · have hr := HRR.out
        rw [if_neg h0] at hr
        have HR3 := Lib.hid hr
        have h0' : ¬ (r : Int) = 0 := by omega
        clear hr HRR h0
        go_wp2_with fail
        go_roundg (n + 2 - (d + 1))
        case measure => have := HG.out; omega
        case rel => exact ⟨f, d + 1, rfl, by omega, by omega, by have := HF.out; omega, HR3.out, by go_num, rfl⟩

set_option maxRecDepth 100000 in
set_option maxHeartbeats 1000000 in
theorem digits_any (n : Nat) (hn : n < 18446744073709551616) (w : World) :
    Calls Try.prog 41 #[.int .u64 n] w fun e w' => ∃ v, e = .returned v ∧ DAt w' v (cdg n) ∧ Below w.heap.size w w' := by
  obtain ⟨R, hR⟩ : ∃ R, R = cdg n := ⟨_, rfl⟩
  rw [← hR]
  have HR := Lib.hid hR
  have HRL : Hid (R.length ≤ 32) := Lib.hid (by rw [hR]; exact cdg_len (by omega) (Nat.le_refl _))
  clear hR
  go_enter Try.func41, Try.ntmps41
  go_wp2_with fail
  go_loopg [0, 3] n (fun g nv dv wr => ∃ (f m : Nat) (q : List Nat), g = m ∧ m < 18446744073709551616 ∧ (f = 0 → m = 0) ∧ f ≤ 32 ∧ m < 16777216 ^ f ∧ q ++ dgf f m = R ∧ nv = .int .u64 m ∧ OwnsD wr w.heap.size dv q ∧ Below w.heap.size w wr)
  case atStart => exact ⟨32, n, [], rfl, hn, by omega, by omega, Nat.lt_of_lt_of_le hn (by decide), HR.out.symm, rfl, OwnsD.nil _ _, Below.refl _ _⟩
  case round =>
    clear HR hn
    obtain ⟨f, m, q, hg, hm, hf0, hf, hmf, hR, rfl, hO, hB⟩ := hrel
    have HG := Lib.hid hg; have HR := Lib.hid hR; have HO := Lib.hid hO; have HB := Lib.hid hB; have HMF := Lib.hid hmf
    have HQL : Hid (q.length ≤ 32) := Lib.hid (by have h1 := HRL.out; rw [← hR, List.length_append] at h1; omega)
    clear hg hR hO hB hmf
    by_cases h0 : m = 0
    · have hr := HR.out
      have e0 : dgf f m = [] := by
        subst h0
        cases f with
        | zero => rfl
        | succ f => rw [dgf, if_pos rfl]
      rw [e0, List.append_nil] at hr
      have hgt : ¬ (0 : Int) < (m : Int) := by omega
      have HQ := Lib.hid hr
      have hD := HO.out.at
      rw [hr] at hD
      have HD := Lib.hid hD
      obtain ⟨x, c, hv, _⟩ := hD
      clear hr e0 HR
      subst hv
      go_wp2_with fail
      go_ret
      exact ⟨_, rfl, HD.out, HB.out⟩
    · obtain ⟨f, rfl⟩ : ∃ f', f = f' + 1 := ⟨f - 1, by omega⟩
      have hgt : (0 : Int) < (m : Int) := by omega
      have hr := HR.out
      rw [dgf, if_neg h0] at hr
      have hmf := HMF.out
      have h1 : m / 16777216 < 16777216 ^ f := by rw [Nat.div_lt_iff_lt_mul (by omega), ← Nat.pow_succ]; exact hmf
      obtain ⟨y, hy⟩ : ∃ y, y = m % 16777216 := ⟨_, rfl⟩
      obtain ⟨z, hz⟩ : ∃ z, z = m / 16777216 := ⟨_, rfl⟩
      have ey : (m : Int) % 16777216 = (y : Int) := by omega
      have ez : (m : Int) / 16777216 = (z : Int) := by omega
      have hzm : z < m := by omega
      rw [← hy, ← hz] at hr
      rw [← hz] at h1
      have HR3 : Hid ((q ++ [y]) ++ dgf f z = R) := Lib.hid (by rw [List.append_assoc]; exact hr)
      have H1 := Lib.hid h1
      have hf0' : f = 0 → z = 0 := fun e => by subst e; simpa using h1
      have HF0 := Lib.hid hf0'
      clear hr hmf h1 hy hz HR HMF h0 hf0 hf0'
      go_wp2_with (at_builtin; refine wpList_append_u64 rfl (.tmp 6) (.tmp 9) rfl w.heap.size _ q rfl (HO.out.keep (below_alloc (Below.refl _ _) _)) [y] wr.heap.size 1 rfl (fun j hj => by obtain rfl : j = 0 := (by simpa using hj); exact cell_new _ _ _) (by have := HQL.out; simp; omega) (by have := HB.out.size; simp; omega) (fun v' w5 hown' hbel => ?_))
      go_roundg z
      case measure => have := HG.out; omega
      case rel => exact ⟨f, z, q ++ [y], rfl, by omega, HF0.out, by omega, H1.out, HR3.out, rfl, hown', hbel _ _ (Nat.le_refl _) (below_alloc HB.out _)⟩
end Go.Proofs.Ytfopockjakeplaa
