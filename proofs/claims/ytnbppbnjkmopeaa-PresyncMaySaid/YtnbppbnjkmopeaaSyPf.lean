/- The second phase in plain words: the same headers, or other ones. No condition. -/
import Derived.Test.YtnbppbnjkmopeaaSyPe
namespace Go.Proofs.Ytnbppbnjkmopeaa
open Go.RowKit

/-- one header in the second phase -/
theorem ag_one {lim : Nat} {p : Ps} {k : Nat} {h : Hd} (hp : p.plain lim k) (h1 : p.phase = 2) (hc1 : h.p = p.last.id) (hc2 : h.b = lim) (hc3 : hpr h lim = 0) (hn : p.last.work + 2 < 2 ^ 256) : stp p h p.hgt = againP p (nx p.last h) (k + 1) := by
  have hs := step_plain hp hc1 hc2 hc3 hn
  unfold stp
  rw [hp.k, hs]
  dsimp only
  rw [if_neg (fun e => e rfl), if_neg (by omega)]
theorem getD_drop {l : List Bool} {a : Nat} {b : Bool} {B : List Bool} (h : l.drop a = b :: B) : a < l.length ∧ l.getD a false = b := by
  have h1 := congrArg List.length h
  rw [List.length_drop, List.length_cons] at h1
  refine ⟨by omega, ?_⟩
  have h2 := congrArg (fun l => l[0]?) h
  simp only [List.getElem?_drop, Nat.add_zero, List.getElem?_cons_zero] at h2
  rw [List.getD_eq_getElem?_getD, h2, Option.getD_some]
theorem mks_yes {S k : Nat} {h : Hd} (c : (k + 1) % 4 = S % 256 % 4) : mks S k [h] = [hbit S (hdid h)] := by
  simp only [mks]
  rw [if_pos c, List.append_nil]
theorem mks_no {S k : Nat} {h : Hd} (c : ¬ (k + 1) % 4 = S % 256 % 4) : mks S k [h] = [] := by
  simp only [mks]
  rw [if_neg c, List.append_nil]
/-- .. that is as was promised -/
theorem ag_same {p : Ps} {k : Nat} {h : Hd} {B : List Bool} (hB : p.bits.drop p.at' = mks p.salt k [h] ++ B) : againP p (nx p.last h) (k + 1) = agF { p with last := nx p.last h, at' := p.at' + (mks p.salt k [h]).length } (nx p.last h) := by
  unfold againP
  by_cases c : (k + 1) % 4 = p.salt % 256 % 4
  · rw [mks_yes c] at hB ⊢
    obtain ⟨hlt, hg⟩ := getD_drop (B := B) hB
    rw [if_pos ⟨c, hlt⟩, if_pos (show p.bits.getD p.at' false = hbit p.salt (nx p.last h).id from hg), List.length_singleton]
  · rw [mks_no c, if_neg (fun e => c e.1), List.length_nil, Nat.add_zero]
/-- as long as it isn't enough -/
theorem ag_run {lim : Nat} : ∀ (l : List Hd) (p : Ps) (k : Nat), p.plain lim k → p.phase = 2 → Chn lim p.last.id l → p.last.work + 2 * l.length < p.need → p.need < 2 ^ 256 → (∃ B, p.bits.drop p.at' = mks p.salt k l ++ B) → ∀ m,
    runT 2 (l ++ m) p = runT 2 m { p with last := nxs p.last l, at' := p.at' + (mks p.salt k l).length, ready := p.ready ++ l }
  | [], p, k, _, _, _, _, _, _, m => by simp [nxs, mks]
  | h :: l, p, k, hp, h1, hc, hw, hn, ⟨B, hB⟩, m => by
    rw [List.length_cons] at hw
    have hB1 : p.bits.drop p.at' = mks p.salt k [h] ++ (mks p.salt (k + 1) l ++ B) := by
      rw [hB, show h :: l = [h] ++ l from rfl, mks_app, List.append_assoc]; rfl
    have hnd : ¬ p.need ≤ (nx p.last h).work := by show ¬ p.need ≤ p.last.work + 2; omega
    have e : stp p h p.hgt = { p with last := nx p.last h, at' := p.at' + (mks p.salt k [h]).length, ready := p.ready ++ [h] } := by
      rw [ag_one hp h1 hc.1 hc.2.1 hc.2.2.2.1 (by omega), ag_same hB1]
      unfold agF
      rw [if_neg (by exact hnd)]
      rfl
    have hB2 : p.bits.drop (p.at' + (mks p.salt k [h]).length) = mks p.salt (k + 1) l ++ B := by
      rw [← List.drop_drop, hB1, List.drop_left]
    rw [List.cons_append, runT, if_pos h1, e, if_neg (by show ¬ p.phase = 4; omega)]
    rw [ag_run l { p with last := nx p.last h, at' := p.at' + (mks p.salt k [h]).length, ready := p.ready ++ [h] } (k + 1) (plain_next hp hc.2.1 rfl rfl) h1 hc.2.2.2.2 (by show p.last.work + 2 + 2 * l.length < p.need; omega) hn ⟨B, hB2⟩ m]
    rw [show mks p.salt k (h :: l) = mks p.salt k [h] ++ mks p.salt (k + 1) l from by rw [show h :: l = [h] ++ l from rfl, mks_app]; rfl]
    simp only [nxs, List.foldl_cons, List.length_append, List.append_assoc, Nat.add_assoc, List.singleton_append]
theorem run_done (b : Nat) (p : Ps) (h : p.phase ≠ b) : ∀ m, runT b m p = p := fun m => by
  cases m with
  | nil => rfl
  | cons y m => rw [runT, if_neg h]
/-- .. until it is -/
theorem ag_end {lim : Nat} (l : List Hd) (h : Hd) (m : List Hd) (p : Ps) (k : Nat) (hp : p.plain lim k) (h1 : p.phase = 2) (hc : Chn lim p.last.id (l ++ [h])) (hw : p.last.work + 2 * l.length < p.need) (hw2 : p.need ≤ p.last.work + 2 * l.length + 2) (hn : p.need < 2 ^ 255) (hB : ∃ B, p.bits.drop p.at' = mks p.salt k (l ++ [h]) ++ B) :
    runT 2 (l ++ h :: m) p = { p with phase := 3, last := nxs p.last (l ++ [h]), at' := p.at' + (mks p.salt k (l ++ [h])).length, ready := p.ready ++ (l ++ [h]) } := by
  obtain ⟨B, hB⟩ := hB
  obtain ⟨c1, c2⟩ := Chn.app.1 hc
  rw [mks_app, List.append_assoc] at hB
  rw [ag_run l p k hp h1 c1 hw (by omega) ⟨_, hB⟩]
  obtain ⟨q, hq⟩ : ∃ q : Ps, q = { p with last := nxs p.last l, at' := p.at' + (mks p.salt k l).length, ready := p.ready ++ l } := ⟨_, rfl⟩
  rw [← hq]
  have hq1 : q.plain lim (k + l.length) := by rw [hq]; exact plain_nxs hp c1 rfl rfl
  have hq2 : q.phase = 2 := by rw [hq]; exact h1
  have hqw : q.last.work = p.last.work + 2 * l.length := by rw [hq]; exact nxs_work _ _
  have hqi : q.last.id = lid p.last.id l := by rw [hq]; exact nxs_id _ _
  have hqn : q.need = p.need := by rw [hq]
  have hqs : q.salt = p.salt := by rw [hq]
  have hqb : q.bits.drop q.at' = mks q.salt (k + l.length) [h] ++ B := by rw [hqs, hq]; show p.bits.drop (p.at' + _) = _; rw [← List.drop_drop, hB, List.drop_left]
  have hnd : q.need ≤ (nx q.last h).work := by show q.need ≤ q.last.work + 2; omega
  have e : stp q h q.hgt = { q with phase := 3, last := nx q.last h, at' := q.at' + (mks q.salt (k + l.length) [h]).length, ready := q.ready ++ [h] } := by
    rw [ag_one hq1 hq2 (by rw [hqi]; exact c2.1) c2.2.1 c2.2.2.2.1 (by omega), ag_same hqb]
    unfold agF
    rw [if_pos (by exact hnd)]
    rfl
  rw [runT, if_pos hq2, e, if_neg (by show ¬ 3 = 4; omega), run_done _ _ (by show 3 ≠ 2; omega), hq]
  simp only [nxs, List.foldl_append, List.foldl_cons, List.foldl_nil, mks_app, List.length_append, List.append_assoc, Nat.add_assoc]
/-- .. or one isn't as was promised -/
theorem ag_bad {lim : Nat} (l : List Hd) (h : Hd) (m : List Hd) (p : Ps) (k : Nat) (hp : p.plain lim k) (h1 : p.phase = 2) (hc : Chn lim p.last.id (l ++ [h])) (hw : p.last.work + 2 * l.length < p.need) (hn : p.need < 2 ^ 255) (b : Bool) (B : List Bool) (hB : p.bits.drop p.at' = mks p.salt k l ++ b :: B) (hm : (k + l.length + 1) % 4 = p.salt % 256 % 4) (hb : b ≠ hbit p.salt (hdid h)) :
    ∃ q : Ps, runT 2 (l ++ h :: m) p = failP q 150 := by
  obtain ⟨c1, c2⟩ := Chn.app.1 hc
  rw [ag_run l p k hp h1 c1 hw (by omega) ⟨_, hB⟩]
  obtain ⟨q, hq⟩ : ∃ q : Ps, q = { p with last := nxs p.last l, at' := p.at' + (mks p.salt k l).length, ready := p.ready ++ l } := ⟨_, rfl⟩
  rw [← hq]
  have hq1 : q.plain lim (k + l.length) := by rw [hq]; exact plain_nxs hp c1 rfl rfl
  have hq2 : q.phase = 2 := by rw [hq]; exact h1
  have hqw : q.last.work = p.last.work + 2 * l.length := by rw [hq]; exact nxs_work _ _
  have hqi : q.last.id = lid p.last.id l := by rw [hq]; exact nxs_id _ _
  have hqn : q.need = p.need := by rw [hq]
  have hqs : q.salt = p.salt := by rw [hq]
  have hqb : q.bits.drop q.at' = b :: B := by rw [hq]; show p.bits.drop (p.at' + _) = _; rw [← List.drop_drop, hB, List.drop_left]
  obtain ⟨hlt, hg⟩ := getD_drop hqb
  have e : stp q h q.hgt = failP { q with last := nx q.last h } 150 := by
    rw [ag_one hq1 hq2 (by rw [hqi]; exact c2.1) c2.2.1 c2.2.2.2.1 (by omega)]
    unfold againP
    rw [if_pos ⟨by rw [hqs]; exact hm, hlt⟩, hg, if_neg (by rw [hqs]; exact hb)]
  rw [runT, if_pos hq2, e, if_pos (show (failP { q with last := nx q.last h } 150).phase = 4 from rfl)]
  exact ⟨_, rfl⟩
theorem mks_step (S : Nat) (l : List Hd) (j : Nat) (hj : j < l.length) : mks S 0 (l.take (j + 1)) = mks S 0 (l.take j) ++ (if (j + 1) % 4 = S % 256 % 4 then [hbit S (hdid (l.getD j hd0))] else []) := by
  have hh : l[j]? = some (l.getD j hd0) := by rw [List.getD_eq_getElem?_getD, List.getElem?_eq_getElem hj]; rfl
  rw [List.take_add_one, hh, mks_app, List.length_take, Nat.min_eq_left (by omega), Nat.zero_add]
  show _ ++ ((if (j + 1) % 4 = S % 256 % 4 then [hbit S (hdid (l.getD j hd0))] else []) ++ []) = _
  rw [List.append_nil]
theorem mks_alike (S : Nat) (l m : List Hd) : ∀ (j : Nat), j ≤ l.length → j ≤ m.length → (∀ i, i < j → (i + 1) % 4 = S % 256 % 4 → hbit S (hdid (l.getD i hd0)) = hbit S (hdid (m.getD i hd0))) → mks S 0 (l.take j) = mks S 0 (m.take j)
  | 0, _, _, _ => by rw [List.take_zero, List.take_zero]
  | j + 1, h1, h2, h => by
    rw [mks_step S l j (by omega), mks_step S m j (by omega), mks_alike S l m j (by omega) (by omega) (fun i hi => h i (by omega))]
    by_cases c : (j + 1) % 4 = S % 256 % 4
    · rw [if_pos c, if_pos c, h j (by omega) c]
    · rw [if_neg c, if_neg c]
theorem take_split (l : List Hd) (j : Nat) (hj : j < l.length) : l = l.take j ++ l.getD j hd0 :: l.drop (j + 1) := by
  conv => lhs; rw [← List.take_append_drop j l, List.drop_eq_getElem_cons hj]
  rw [List.getD_eq_getElem?_getD, List.getElem?_eq_getElem hj]; rfl
theorem take_snoc (l : List Hd) (j : Nat) (hj : j < l.length) : l.take (j + 1) = l.take j ++ [l.getD j hd0] := by
  rw [List.take_add_one, List.getD_eq_getElem?_getD, List.getElem?_eq_getElem hj]; rfl
/-- how many headers are enough -/
def enN (work : Nat) : Nat := max 1 (work - 1)
/-- the first phase over a line with enough work -/
theorem first_run {x : Nd} {I : Nat} (hx : GenX x I) (work : Nat) (hw : work ≤ 200) (S : Nat) (l : List Hd) (hc : Chn 545259519 I l) (hl : enN work ≤ l.length) :
    runT 1 l (newP (rlR (work : Int) 0) S x) = { newP (rlR (work : Int) 0) S x with phase := 2, bits := mks S 0 (l.take (enN work)) } := by
  obtain ⟨P, hP⟩ : ∃ P, P = newP (rlR (work : Int) 0) S x := ⟨_, rfl⟩
  have hpl : P.plain 545259519 0 := by rw [hP]; exact plain_newP hx S
  have hid : P.last.id = I := by rw [hP]; exact hx.id
  have hwk : P.last.work = 2 := by rw [hP]; exact hx.work
  have hnd : P.need = 2 * work := by rw [hP]; show needN (rlR work 0) = 2 * work; rw [need_rlR (by omega) (by omega)]; simp
  have h1 : P.phase = 1 := by rw [hP]; rfl
  have hbt : P.bits = [] := by rw [hP]; rfl
  have hsl : P.salt = S := by rw [hP]; rfl
  have hst : P.start = P.last := by rw [hP]; rfl
  rw [← hP]
  have key : ∀ (a b : Nd) (B C : List Bool), a = b → B = C → ({ P with phase := 2, last := a, bits := B } : Ps) = { P with phase := 2, last := b, bits := C } := fun a b B C e1 e2 => by rw [e1, e2]
  obtain ⟨j, hj⟩ : ∃ j, enN work = j + 1 := ⟨enN work - 1, by unfold enN; omega⟩
  rw [hj] at hl ⊢
  have hs := take_split l j (by omega)
  have hc2 : Chn 545259519 P.last.id (l.take j ++ [l.getD j hd0]) := by rw [hid, ← take_snoc l j (by omega)]; exact hc.take _
  have hlen : (l.take j).length = j := by rw [List.length_take]; omega
  unfold enN at hj
  by_cases hj0 : j = 0
  · subst hj0
    rw [List.take_zero, List.nil_append] at hc2
    have e := cnt_one (k := 0) hpl h1 hc2.1 hc2.2.1 hc2.2.2.2.1 (by omega) (by rw [hbt]; simp)
    rw [if_pos (by omega)] at e
    refine Eq.trans ?_ (key _ _ (P.bits ++ mks P.salt 0 [l.getD 0 hd0]) _ hst (by rw [hbt, List.nil_append, hsl, take_snoc l 0 (by omega), List.take_zero, List.nil_append]))
    conv => lhs; rw [hs, List.take_zero, List.nil_append, runT, if_pos h1, e, if_neg (by show ¬ 2 = 4; omega), run_done _ _ (by show 2 ≠ 1; omega)]
  · refine Eq.trans ?_ (key _ _ (P.bits ++ mks P.salt 0 (l.take j ++ [l.getD j hd0])) _ hst (by rw [hbt, List.nil_append, hsl, take_snoc l j (by omega)]))
    conv => lhs; rw [hs, cnt_end (l.take j) (l.getD j hd0) _ P 0 hpl h1 hc2 (by omega) (by omega) (by omega) (by rw [hbt]; simp; omega)]
/-- what is known when the second phase begins -/
def scnP (work : Nat) (S : Nat) (x : Nd) (B : List Bool) : Ps := { newP (rlR (work : Int) 0) S x with phase := 2, bits := B }
theorem scn_is {x : Nd} {I : Nat} (hx : GenX x I) (work : Nat) (hw : work ≤ 200) (S : Nat) (B : List Bool) {P : Ps} (hP : P = scnP work S x B) : P.plain 545259519 0 ∧ P.last.id = I ∧ P.last.work = 2 ∧ P.need = 2 * work ∧ P.phase = 2 ∧ P.bits = B ∧ P.salt = S ∧ P.at' = 0 ∧ P.ready = [] := by
  subst hP
  refine ⟨⟨rfl, rfl, wrk_LM, hx.b, hx.height⟩, hx.id, hx.work, ?_, rfl, rfl, rfl, rfl, rfl⟩
  show needN (rlR work 0) = 2 * work
  rw [need_rlR (by omega) (by omega)]
  simp
/-- the second phase over a line that is as was promised -/
theorem second_run {x : Nd} {I : Nat} (hx : GenX x I) (work : Nat) (hw : work ≤ 200) (S : Nat) (l : List Hd) (hc : Chn 545259519 I l) (hl : enN work ≤ l.length) :
    runT 2 l (scnP work S x (mks S 0 (l.take (enN work)))) = { scnP work S x (mks S 0 (l.take (enN work))) with phase := 3, last := nxs x (l.take (enN work)), at' := (mks S 0 (l.take (enN work))).length, ready := l.take (enN work) } := by
  obtain ⟨P, hP⟩ : ∃ P, P = scnP work S x (mks S 0 (l.take (enN work))) := ⟨_, rfl⟩
  obtain ⟨hpl, hid, hwk, hnd, h2, hbt, hsl, hat, hrd⟩ := scn_is hx work hw S _ hP
  have hlx : P.last = x := by rw [hP]; rfl
  rw [← hP]
  have key : ∀ (a b : Nd) (n m : Nat) (B C : List Hd), a = b → n = m → B = C → ({ P with phase := 3, last := a, at' := n, ready := B } : Ps) = { P with phase := 3, last := b, at' := m, ready := C } := fun a b n m B C e1 e2 e3 => by rw [e1, e2, e3]
  obtain ⟨j, hj⟩ : ∃ j, enN work = j + 1 := ⟨enN work - 1, by unfold enN; omega⟩
  rw [hj] at hl hbt ⊢
  have hs := take_split l j (by omega)
  have hc2 : Chn 545259519 P.last.id (l.take j ++ [l.getD j hd0]) := by rw [hid, ← take_snoc l j (by omega)]; exact hc.take _
  have hlen : (l.take j).length = j := by rw [List.length_take]; omega
  have hB : P.bits.drop P.at' = mks P.salt 0 (l.take j ++ [l.getD j hd0]) ++ [] := by rw [hbt, hat, List.drop_zero, hsl, ← take_snoc l j (by omega), List.append_nil]
  unfold enN at hj
  by_cases hj0 : j = 0
  · subst hj0
    rw [List.take_zero, List.nil_append] at hc2 hB
    have e := ag_one (k := 0) hpl h2 hc2.1 hc2.2.1 hc2.2.2.2.1 (by omega)
    rw [ag_same hB] at e
    unfold agF at e
    rw [if_pos (by show P.need ≤ P.last.work + 2; omega)] at e
    refine Eq.trans ?_ (key (nx P.last (l.getD 0 hd0)) _ _ _ (P.ready ++ [l.getD 0 hd0]) _ (by rw [take_snoc l 0 (by omega), List.take_zero, hlx]; rfl) (show P.at' + (mks P.salt 0 [l.getD 0 hd0]).length = _ by rw [hat, hsl, take_snoc l 0 (by omega), List.take_zero, Nat.zero_add, List.nil_append]) (by rw [hrd, take_snoc l 0 (by omega), List.take_zero]))
    conv => lhs; rw [hs, List.take_zero, List.nil_append, runT, if_pos h2, e, if_neg (by show ¬ 3 = 4; omega), run_done _ _ (by show 3 ≠ 2; omega)]
    rfl
  · refine Eq.trans ?_ (key (nxs P.last (l.take j ++ [l.getD j hd0])) _ _ _ (P.ready ++ (l.take j ++ [l.getD j hd0])) _ (by rw [take_snoc l j (by omega), hlx]) (show P.at' + (mks P.salt 0 (l.take j ++ [l.getD j hd0])).length = _ by rw [hat, hsl, take_snoc l j (by omega), Nat.zero_add]) (by rw [hrd, take_snoc l j (by omega), List.nil_append]))
    conv => lhs; rw [hs, ag_end (l.take j) (l.getD j hd0) _ P 0 hpl h2 hc2 (by omega) (by omega) (by omega) ⟨_, hB⟩]
/-- .. over one that isn't -/
theorem second_bad {x : Nd} {I : Nat} (hx : GenX x I) (work : Nat) (hw0 : 2 ≤ work) (hw : work ≤ 200) (S : Nat) (one l : List Hd) (hc : Chn 545259519 I l) (hl : enN work ≤ l.length) (ho : enN work ≤ one.length) (j : Nat) (hj : j < enN work) (hm : (j + 1) % 4 = S % 256 % 4) (hb : hbit S (hdid (one.getD j hd0)) ≠ hbit S (hdid (l.getD j hd0)))
    (ha : ∀ i, i < j → (i + 1) % 4 = S % 256 % 4 → hbit S (hdid (one.getD i hd0)) = hbit S (hdid (l.getD i hd0))) : ∃ q, runT 2 l (scnP work S x (mks S 0 (one.take (enN work)))) = failP q 150 := by
  obtain ⟨P, hP⟩ : ∃ P, P = scnP work S x (mks S 0 (one.take (enN work))) := ⟨_, rfl⟩
  obtain ⟨hpl, hid, hwk, hnd, h2, hbt, hsl, hat, hrd⟩ := scn_is hx work hw S _ hP
  rw [← hP]
  have hs := take_split l j (by omega)
  have hc2 : Chn 545259519 P.last.id (l.take j ++ [l.getD j hd0]) := by rw [hid, ← take_snoc l j (by omega)]; exact hc.take _
  have hlen : (l.take j).length = j := by rw [List.length_take]; omega
  obtain ⟨R, hsp⟩ : ∃ R, one.take (enN work) = one.take (j + 1) ++ R := ⟨(one.take (enN work)).drop (j + 1), by
    conv => lhs; rw [← List.take_append_drop (j + 1) (one.take (enN work)), List.take_take, Nat.min_eq_left (by omega)]⟩
  have hB : P.bits.drop P.at' = mks P.salt 0 (l.take j) ++ hbit S (hdid (one.getD j hd0)) :: mks S (0 + (one.take (j + 1)).length) R := by
    rw [hbt, hat, List.drop_zero, hsl, hsp, mks_app, mks_step S one j (by omega), if_pos hm, mks_alike S one l j (by omega) (by omega) ha, List.append_assoc, List.singleton_append]
  rw [hs]
  exact ag_bad (l.take j) (l.getD j hd0) _ P 0 hpl h2 hc2 (by unfold enN at hj; omega) (by omega) _ _ hB (by rw [hlen, hsl, Nat.zero_add]; exact hm) (by rw [hsl]; exact hb)
end Go.Proofs.Ytnbppbnjkmopeaa
