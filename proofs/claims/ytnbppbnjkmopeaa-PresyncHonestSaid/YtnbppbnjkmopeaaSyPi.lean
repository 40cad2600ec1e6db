/- A line said twice in messages of any sizes, in plain words. No condition. -/
import Derived.Test.YtnbppbnjkmopeaaSyPg
namespace Go.Proofs.Ytnbppbnjkmopeaa
open Go.RowKit

theorem cnt_end' {lim : Nat} (l : List Hd) (h : Hd) (m : List Hd) (p : Ps) (k : Nat) (hp : p.plain lim k) (h1 : p.phase = 1) (hc : Chn lim p.last.id (l ++ [h])) (hw : l = [] ∨ p.last.work + 2 * l.length < p.need) (hw2 : p.need ≤ p.last.work + 2 * l.length + 2) (hn : p.need < 2 ^ 255) (hlw : p.last.work < 2 ^ 255) (hb : p.bits.length + l.length + 1 ≤ 256) :
    runT 1 (l ++ h :: m) p = { p with phase := 2, last := p.start, bits := p.bits ++ mks p.salt k (l ++ [h]) } := by
  rcases hw with rfl | hw
  · rw [List.nil_append] at hc ⊢
    have e := cnt_one (k := k) hp h1 hc.1 hc.2.1 hc.2.2.2.1 (by omega) (by simpa using hb)
    rw [if_pos (by simpa using hw2)] at e
    rw [runT, if_pos h1, e, if_neg (by show ¬ 2 = 4; omega), run_done _ _ (by show 2 ≠ 1; omega), List.nil_append]
  · exact cnt_end l h m p k hp h1 hc hw hw2 hn hb
theorem ag_end' {lim : Nat} (l : List Hd) (h : Hd) (m : List Hd) (p : Ps) (k : Nat) (hp : p.plain lim k) (h1 : p.phase = 2) (hc : Chn lim p.last.id (l ++ [h])) (hw : l = [] ∨ p.last.work + 2 * l.length < p.need) (hw2 : p.need ≤ p.last.work + 2 * l.length + 2) (hn : p.need < 2 ^ 255) (hlw : p.last.work < 2 ^ 255) (hB : ∃ B, p.bits.drop p.at' = mks p.salt k (l ++ [h]) ++ B) :
    runT 2 (l ++ h :: m) p = { p with phase := 3, last := nxs p.last (l ++ [h]), at' := p.at' + (mks p.salt k (l ++ [h])).length, ready := p.ready ++ (l ++ [h]) } := by
  rcases hw with rfl | hw
  · rw [List.nil_append] at hc hB ⊢
    obtain ⟨B, hB⟩ := hB
    have e := ag_one (k := k) hp h1 hc.1 hc.2.1 hc.2.2.2.1 (by omega)
    rw [ag_same hB] at e
    unfold agF at e
    rw [if_pos (by show p.need ≤ p.last.work + 2; simpa using hw2)] at e
    rw [runT, if_pos h1, e, if_neg (by show ¬ 3 = 4; omega), run_done _ _ (by show 3 ≠ 2; omega), List.nil_append]
    rfl
  · exact ag_end l h m p k hp h1 hc hw hw2 hn hB
theorem drop_take_split (l : List Hd) (j n s : Nat) (h1 : j < n) (h2 : n ≤ j + s) (h3 : n ≤ l.length) : ∃ m, (l.drop j).take s = (l.drop j).take (n - 1 - j) ++ l.getD (n - 1) hd0 :: m ∧ (l.drop j).take (n - 1 - j) ++ [l.getD (n - 1) hd0] = (l.drop j).take (n - j) ∧ ((l.drop j).take (n - 1 - j)).length = n - 1 - j := by
  have hlen : ((l.drop j).take s).length = min s (l.length - j) := by rw [List.length_take, List.length_drop]
  have hg : ((l.drop j).take s).getD (n - 1 - j) hd0 = l.getD (n - 1) hd0 := by
    rw [List.getD_eq_getElem?_getD, List.getElem?_take_of_lt (by omega), List.getElem?_drop, show j + (n - 1 - j) = n - 1 by omega, List.getD_eq_getElem?_getD]
  have hs := take_split ((l.drop j).take s) (n - 1 - j) (by omega)
  rw [hg, List.take_take, Nat.min_eq_left (by omega)] at hs
  refine ⟨_, hs, ?_, by rw [List.length_take, List.length_drop]; omega⟩
  have := take_snoc (l.drop j) (n - 1 - j) (by rw [List.length_drop]; omega)
  rw [show n - 1 - j + 1 = n - j by omega] at this
  rw [this, List.getD_eq_getElem?_getD (l := List.drop j l), List.getElem?_drop, show j + (n - 1 - j) = n - 1 by omega, List.getD_eq_getElem?_getD]
section
variable {x : Nd} {I : Nat} (W S : Nat) (l : List Hd)
/-- after j headers in the first phase -/
def stA (x : Nd) (j : Nat) : Ps := { newP (rlR (W : Int) 0) S x with last := nxs x (l.take j), bits := mks S 0 (l.take j) }
/-- after j headers in the second phase -/
def stC (x : Nd) (j : Nat) : Ps := { newP (rlR (W : Int) 0) S x with phase := 2, last := nxs x (l.take j), at' := (mks S 0 (l.take j)).length, bits := mks S 0 (l.take (enN W)), ready := (l.take j).drop (j - 8) }
theorem stA_is (hx : GenX x I) (hW : W ≤ 200) (hc : Chn 545259519 I l) (j : Nat) (hj : j ≤ l.length) {P : Ps} (hP : P = stA W S l x j) : P.plain 545259519 j ∧ P.last.id = lid I (l.take j) ∧ P.last.work = 2 + 2 * j ∧ P.need = 2 * W ∧ P.phase = 1 ∧ P.bits = mks S 0 (l.take j) ∧ P.salt = S ∧ P.ready = [] ∧ P.start = x ∧ P.last = nxs x (l.take j) := by
  subst hP
  have hl : (l.take j).length = j := by rw [List.length_take]; omega
  have hp := plain_nxs (q := stA W S l x j) (plain_newP hx (work := (W : Int)) S) (hc.take j) rfl rfl
  rw [hl, Nat.zero_add] at hp
  refine ⟨hp, ?_, ?_, ?_, rfl, rfl, rfl, rfl, rfl, rfl⟩
  · show (nxs x (l.take j)).id = _; rw [nxs_id, hx.id]
  · show (nxs x (l.take j)).work = _; rw [nxs_work, hx.work, hl]
  · show needN (rlR W 0) = 2 * W; rw [need_rlR (by omega) (by omega)]; simp
theorem stC_is (hx : GenX x I) (hW : W ≤ 200) (hc : Chn 545259519 I l) (j : Nat) (hj : j ≤ l.length) {P : Ps} (hP : P = stC W S l x j) : P.plain 545259519 j ∧ P.last.id = lid I (l.take j) ∧ P.last.work = 2 + 2 * j ∧ P.need = 2 * W ∧ P.phase = 2 ∧ P.bits = mks S 0 (l.take (enN W)) ∧ P.salt = S ∧ P.ready = (l.take j).drop (j - 8) ∧ P.at' = (mks S 0 (l.take j)).length ∧ P.last = nxs x (l.take j) := by
  subst hP
  have hl : (l.take j).length = j := by rw [List.length_take]; omega
  have hp := plain_nxs (q := stC W S l x j) (plain_newP hx (work := (W : Int)) S) (hc.take j) rfl rfl
  rw [hl, Nat.zero_add] at hp
  refine ⟨hp, ?_, ?_, ?_, rfl, rfl, rfl, rfl, rfl, rfl⟩
  · show (nxs x (l.take j)).id = _; rw [nxs_id, hx.id]
  · show (nxs x (l.take j)).work = _; rw [nxs_work, hx.work, hl]
  · show needN (rlR W 0) = 2 * W; rw [need_rlR (by omega) (by omega)]; simp
theorem take_add (l : List Hd) (j s : Nat) : l.take (j + s) = l.take j ++ (l.drop j).take s := by
  rw [List.take_add]
theorem nxs_app (x : Nd) (l m : List Hd) : nxs (nxs x l) m = nxs x (l ++ m) := by unfold nxs; rw [List.foldl_append]
theorem chn_mid {I : Nat} {l : List Hd} (hc : Chn 545259519 I l) (j s : Nat) : Chn 545259519 (lid I (l.take j)) ((l.drop j).take s) := by
  have := hc.take (j + s)
  rw [take_add] at this
  exact (Chn.app.1 this).2
/-- a message in the first phase -/
theorem take_stA (hx : GenX x I) (hW : W ≤ 200) (hc : Chn 545259519 I l) (hl : enN W ≤ l.length) (j s : Nat) (hj : j < enN W) (hs : 1 ≤ s) (hjs : j + s ≤ l.length) :
    takeP (stA W S l x j) true ((l.drop j).take s) = if j + s < enN W then (stA W S l x (j + s), []) else (stC W S l x 0, []) := by
  obtain ⟨P, hP⟩ : ∃ P, P = stA W S l x j := ⟨_, rfl⟩
  obtain ⟨hp, hid, hwk, hnd, h1, hbt, hsl, hrd, hst, hla⟩ := stA_is W S l hx hW hc j (by omega) hP
  have hen : enN W = max 1 (W - 1) := rfl
  have hlj : (l.take j).length = j := by rw [List.length_take]; omega
  have hls : ((l.drop j).take s).length = s := by rw [List.length_take, List.length_drop]; omega
  have hm := mks_len S (l.take j) 0
  rw [← hP]
  by_cases hlt : j + s < enN W
  · rw [if_pos hlt, take_cnt _ P j hp h1 (by rw [hid]; exact chn_mid hc j s) (by omega) (by omega) (by rw [hbt]; omega) hrd]
    rw [hla, hbt, hsl, nxs_app, ← take_add]
    have hmk : mks S 0 (l.take j) ++ mks S j ((l.drop j).take s) = mks S 0 (l.take (j + s)) := by
      rw [take_add, mks_app, hlj, Nat.zero_add]
    rw [hmk, hP]
    rfl
  · rw [if_neg hlt]
    obtain ⟨m, e1, e2, e3⟩ := drop_take_split l j (enN W) s hj (by omega) hl
    have hcc : Chn 545259519 P.last.id ((l.drop j).take (enN W - 1 - j) ++ [l.getD (enN W - 1) hd0]) := by rw [e2, hid]; exact chn_mid hc j _
    have e := cnt_end' _ _ m P j hp h1 hcc (by
      by_cases h0 : enN W - 1 - j = 0
      · left; rw [h0]; rfl
      · right; rw [e3]; omega) (by rw [e3]; omega) (by omega) (by omega) (by rw [hbt, e3]; omega)
    rw [← e1, e2, hbt, hsl] at e
    have hmk : mks S 0 (l.take j) ++ mks S j ((l.drop j).take (enN W - j)) = mks S 0 (l.take (enN W)) := by
      have := take_add l j (enN W - j)
      rw [show j + (enN W - j) = enN W by omega] at this
      rw [this, mks_app, hlj, Nat.zero_add]
    rw [hmk] at e
    unfold takeP
    rw [if_neg (by omega), h1, e]
    dsimp only
    rw [if_neg (by show ¬ 2 = 4; omega), if_neg (by simp)]
    rw [hrd, List.drop_nil, List.take_nil, hst, hP]
    rfl
/-- a message in the second phase -/
theorem take_stC (hx : GenX x I) (hW : W ≤ 200) (hc : Chn 545259519 I l) (hl : enN W ≤ l.length) (j s : Nat) (hj : j < enN W) (hs : 1 ≤ s) (hjs : j + s ≤ l.length) :
    (j + s < enN W → takeP (stC W S l x j) true ((l.drop j).take s) = (stC W S l x (j + s), (l.take (j + s - 8)).drop (j - 8))) ∧
    (enN W ≤ j + s → (takeP (stC W S l x j) true ((l.drop j).take s)).1.phase = 3 ∧ (takeP (stC W S l x j) true ((l.drop j).take s)).2 = (l.take (enN W)).drop (j - 8)) := by
  obtain ⟨P, hP⟩ : ∃ P, P = stC W S l x j := ⟨_, rfl⟩
  obtain ⟨hp, hid, hwk, hnd, h2, hbt, hsl, hrd, hat, hla⟩ := stC_is W S l hx hW hc j (by omega) hP
  have hen : enN W = max 1 (W - 1) := rfl
  have hlj : (l.take j).length = j := by rw [List.length_take]; omega
  have hsp : mks S 0 (l.take (enN W)) = mks S 0 (l.take j) ++ mks S j ((l.drop j).take (enN W - j)) := by
    have := take_add l j (enN W - j)
    rw [show j + (enN W - j) = enN W by omega] at this
    rw [this, mks_app, hlj, Nat.zero_add]
  have hdr : P.bits.drop P.at' = mks S j ((l.drop j).take (enN W - j)) := by rw [hbt, hat, hsp, List.drop_left]
  rw [← hP]
  refine ⟨fun hlt => ?_, fun hge => ?_⟩
  · have hls : ((l.drop j).take s).length = s := by rw [List.length_take, List.length_drop]; omega
    have hB : ∃ B, P.bits.drop P.at' = mks P.salt j ((l.drop j).take s) ++ B := by
      refine ⟨mks S (j + s) (((l.drop j).drop s).take (enN W - j - s)), ?_⟩
      have := take_add (l.drop j) s (enN W - j - s)
      rw [show s + (enN W - j - s) = enN W - j by omega] at this
      rw [hdr, this, mks_app, hls, hsl]
    have e := ag_run ((l.drop j).take s) P j hp h2 (by rw [hid]; exact chn_mid hc j s) (by omega) (by omega) hB []
    rw [List.append_nil, runT, hla, nxs_app, ← take_add, hsl, hat, hrd] at e
    have hat2 : (mks S 0 (l.take j)).length + (mks S j ((l.drop j).take s)).length = (mks S 0 (l.take (j + s))).length := by
      rw [take_add, mks_app, List.length_append, hlj, Nat.zero_add]
    have hrd2 : (l.take j).drop (j - 8) ++ (l.drop j).take s = (l.take (j + s)).drop (j - 8) := by
      rw [take_add, List.drop_append_of_le_length (by omega)]
    rw [hat2, hrd2] at e
    unfold takeP
    rw [if_neg (by omega), h2, e]
    dsimp only
    rw [if_neg (by show ¬ P.phase = 4; omega), if_neg (by simp)]
    have hll : ((l.take (j + s)).drop (j - 8)).length = j + s - (j - 8) := by rw [List.length_drop, List.length_take]; omega
    have hk : ∀ q : Ps, q.phase ≠ 3 → q.ready = (l.take (j + s)).drop (j - 8) → keepN q = (j + s - 8) - (j - 8) := fun q q1 q2 => by
      unfold keepN
      rw [q2, hll, if_neg q1]
      omega
    rw [hk _ (by show P.phase ≠ 3; omega) rfl]
    have o1 : ((l.take (j + s)).drop (j - 8)).take ((j + s - 8) - (j - 8)) = (l.take (j + s - 8)).drop (j - 8) := by
      rw [List.take_drop, List.take_take, show min (j - 8 + (j + s - 8 - (j - 8))) (j + s) = j + s - 8 by omega]
    have o2 : ((l.take (j + s)).drop (j - 8)).drop ((j + s - 8) - (j - 8)) = (l.take (j + s)).drop (j + s - 8) := by
      rw [List.drop_drop, show j - 8 + (j + s - 8 - (j - 8)) = j + s - 8 by omega]
    rw [o1, o2, hP]
    rfl
  · obtain ⟨m, e1, e2, e3⟩ := drop_take_split l j (enN W) s hj (by omega) hl
    have hcc : Chn 545259519 P.last.id ((l.drop j).take (enN W - 1 - j) ++ [l.getD (enN W - 1) hd0]) := by rw [e2, hid]; exact chn_mid hc j _
    have e := ag_end' _ _ m P j hp h2 hcc (by
      by_cases h0 : enN W - 1 - j = 0
      · left; rw [h0]; rfl
      · right; rw [e3]; omega) (by rw [e3]; omega) (by omega) (by omega) ⟨[], by rw [e2, hdr, hsl, List.append_nil]⟩
    rw [← e1, e2, hrd] at e
    have hrd2 : (l.take j).drop (j - 8) ++ (l.drop j).take (enN W - j) = (l.take (enN W)).drop (j - 8) := by
      have := take_add l j (enN W - j)
      rw [show j + (enN W - j) = enN W by omega] at this
      rw [this, List.drop_append_of_le_length (by omega)]
    rw [hrd2] at e
    unfold takeP
    rw [if_neg (by omega), h2, e]
    dsimp only
    rw [if_neg (by show ¬ 3 = 4; omega), if_neg (by simp)]
    refine ⟨rfl, ?_⟩
    show ((l.take (enN W)).drop (j - 8)).take (((l.take (enN W)).drop (j - 8)).length - _) = _
    rw [if_pos rfl, Nat.sub_zero, List.take_length]
end
/-- what is behind a name -/
def aftG (full : List Hd) (id : Nat) : List Hd → List Hd
  | [] => full
  | h :: t => if hdid h = id then t else aftG full id t
def afterP (l : List Hd) (id : Nat) : List Hd := aftG l id l
theorem aft_none {full : List Hd} {id : Nat} : ∀ {l : List Hd}, (∀ h ∈ l, hdid h ≠ id) → aftG full id l = full
  | [], _ => rfl
  | x :: l, h => by
    unfold aftG
    rw [if_neg (h x List.mem_cons_self)]
    exact aft_none fun y hy => h y (List.mem_cons_of_mem _ hy)
theorem aft_at {full : List Hd} {id : Nat} : ∀ {l : List Hd} (j : Nat), j < l.length → hdid (l.getD j hd0) = id → (∀ i, i < j → hdid (l.getD i hd0) ≠ id) → aftG full id l = l.drop (j + 1)
  | [], j, hj, _, _ => by cases hj
  | x :: l, 0, _, h, _ => by
    unfold aftG
    rw [if_pos (by exact h)]
    rfl
  | x :: l, j + 1, hj, h, hn => by
    unfold aftG
    rw [if_neg (by exact hn 0 (by omega))]
    exact aft_at j (by simpa using hj) h (fun i hi => hn (i + 1) (by omega))
def allNe : List Nat → Bool
  | [] => true
  | a :: l => l.all (fun b => !(b == a)) && allNe l
theorem allNe_get : ∀ {l : List Nat}, allNe l = true → ∀ i j, i < j → j < l.length → l.getD i 0 ≠ l.getD j 0
  | [], _, i, j, _, hj => by cases hj
  | a :: l, h, i, j, hij, hj => by
    unfold allNe at h
    rw [Bool.and_eq_true] at h
    obtain ⟨j, rfl⟩ : ∃ j', j = j' + 1 := ⟨j - 1, by omega⟩
    have hjl : j < l.length := by simpa using hj
    cases i with
    | zero =>
      have := List.all_eq_true.1 h.1 (l.getD j 0) (by rw [List.getD_eq_getElem?_getD, List.getElem?_eq_getElem hjl]; exact List.getElem_mem _)
      intro e
      rw [List.getD_cons_zero, List.getD_cons_succ] at e
      simp at this
      exact this (by rw [← List.getD_eq_getElem?_getD]; exact e.symm)
    | succ i => exact allNe_get h.2 i j (by omega) hjl
/-- where all names are unlike, what is behind the last one of so many is the rest -/
theorem after_lid {I : Nat} {l : List Hd} (h : allNe (I :: l.map hdid) = true) (j : Nat) (hj : j ≤ l.length) : afterP l (lid I (l.take j)) = l.drop j := by
  have hne := allNe_get h
  have hg : ∀ i, i < l.length → (I :: l.map hdid).getD (i + 1) 0 = hdid (l.getD i hd0) := fun i hi => by
    rw [List.getD_cons_succ, List.getD_eq_getElem?_getD, List.getElem?_map, List.getElem?_eq_getElem hi, List.getD_eq_getElem?_getD, List.getElem?_eq_getElem hi, Option.map_some, Option.getD_some, Option.getD_some]
  cases j with
  | zero =>
    unfold afterP
    rw [List.take_zero, List.drop_zero]
    refine aft_none fun y hy e => ?_
    obtain ⟨i, hi⟩ := List.getElem?_of_mem hy
    have hil := (List.getElem?_eq_some_iff.1 hi).1
    have := hne 0 (i + 1) (by omega) (by simp; omega)
    rw [List.getD_cons_zero, hg i hil, List.getD_eq_getElem?_getD, hi] at this
    exact this e.symm
  | succ j =>
    unfold afterP
    rw [take_snoc l j (by omega), lid_snoc]
    refine aft_at j (by omega) rfl fun i hi e => ?_
    have := hne (i + 1) (j + 1) (by omega) (by simp; omega)
    rw [hg i (by omega), hg j (by omega)] at this
    exact this e
end Go.Proofs.Ytnbppbnjkmopeaa
