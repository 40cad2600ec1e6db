/- Lines of headers behind each other, and what is remembered of them, in plain words. No condition. law15.asks: four headers, of which three are enough. No condition. law15.asks. No condition. What the statements on headers asked for twice have in common. No condition. -/
import Derived.Test.YtnbppbnjkmopeaaSyPd
namespace Go.Proofs.Ytnbppbnjkmopeaa
open Go.RowKit

theorem tgt_LM : (tgt 545259519).2 = true := by kernel_rfl
theorem wrk_LM : wrk (tgt 545259519).1 = 2 := by kernel_rfl
/-- headers that stand behind each other, each proved -/
def Chn (lim : Nat) : Nat → List Hd → Prop
  | _, [] => True
  | id, h :: l => h.p = id ∧ h.b = lim ∧ h.ok ∧ hpr h lim = 0 ∧ Chn lim (hdid h) l
theorem mine_proved : ∀ (k : Nat) (h : Hd) (l : Nat) (m : Hd), mineP k h l = some m → hpr m l = 0 ∧ m.p = h.p ∧ m.b = h.b
  | 0, h, l, m, e => by cases e
  | k + 1, h, l, m, e => by
    unfold mineP at e
    split at e
    · rename_i c
      cases e
      exact ⟨c, rfl, rfl⟩
    · exact mine_proved k h.up l m e
theorem chn_line {tr mark : Nat} (hm : mark < 256) : ∀ n i prev, prev < 2 ^ 256 → Chn 545259519 prev (lineP tr 545259519 mark n i prev)
  | 0, _, _, _ => trivial
  | n + 1, i, prev, hp => by
    unfold lineP
    split
    · trivial
    · rename_i x hx
      obtain ⟨h1, h2, h3⟩ := mine_proved _ _ _ _ hx
      exact ⟨h2, h3, mine_ok tr _ _ _ (lineH_ok hm hp) hx, h1, chn_line hm n (i + 1) _ (hdid_lt x)⟩
theorem Chn.ok {lim : Nat} : ∀ {l : List Hd} {id : Nat}, Chn lim id l → ∀ h ∈ l, h.ok
  | [], _, _, h, hh => by cases hh
  | x :: l, id, hc, h, hh => by
    rw [List.mem_cons] at hh
    rcases hh with rfl | hh
    · exact hc.2.2.1
    · exact Chn.ok hc.2.2.2.2 h hh
theorem Chn.take {lim : Nat} : ∀ {l : List Hd} {id : Nat} (k : Nat), Chn lim id l → Chn lim id (l.take k)
  | [], _, k, _ => by rw [List.take_nil]; trivial
  | x :: l, id, 0, _ => trivial
  | x :: l, id, k + 1, hc => ⟨hc.1, hc.2.1, hc.2.2.1, hc.2.2.2.1, Chn.take k hc.2.2.2.2⟩
/-- the name of the last one -/
def lid : Nat → List Hd → Nat
  | id, [] => id
  | _, h :: l => lid (hdid h) l
theorem lid_snoc (h : Hd) : ∀ (l : List Hd) (id : Nat), lid id (l ++ [h]) = hdid h
  | [], _ => rfl
  | x :: l, _ => lid_snoc h l (hdid x)
theorem lid_app (m : List Hd) : ∀ (l : List Hd) (id : Nat), lid id (l ++ m) = lid (lid id l) m
  | [], _ => rfl
  | x :: l, _ => lid_app m l (hdid x)
theorem Chn.app {lim : Nat} : ∀ {l m : List Hd} {id : Nat}, Chn lim id (l ++ m) ↔ Chn lim id l ∧ Chn lim (lid id l) m
  | [], _, _ => ⟨fun h => ⟨trivial, h⟩, fun h => h.2⟩
  | _ :: _, _, _ => ⟨fun h => ⟨⟨h.1, h.2.1, h.2.2.1, h.2.2.2.1, (Chn.app.1 h.2.2.2.2).1⟩, (Chn.app.1 h.2.2.2.2).2⟩, fun h => ⟨h.1.1, h.1.2.1, h.1.2.2.1, h.1.2.2.2.1, Chn.app.2 ⟨h.1.2.2.2.2, h.2⟩⟩⟩
/-- a node behind another one, where the bits never change -/
def nx (x : Nd) (h : Hd) : Nd := ⟨h, hdid h, 0, 0, x.height + 1, x.work + 2, false⟩
def nxs (x : Nd) (l : List Hd) : Nd := l.foldl nx x
/-- what is remembered of headers behind one of height k -/
def mks (salt : Nat) : Nat → List Hd → List Bool
  | _, [] => []
  | k, h :: l => (if (k + 1) % 4 = salt % 256 % 4 then [hbit salt (hdid h)] else []) ++ mks salt (k + 1) l
theorem mks_len (salt : Nat) : ∀ (l : List Hd) (k : Nat), (mks salt k l).length ≤ l.length
  | [], _ => Nat.le_refl _
  | h :: l, k => by
    have := mks_len salt l (k + 1)
    unfold mks
    rw [List.length_append, List.length_cons]
    split <;> simp <;> omega
theorem mks_app (salt : Nat) (m : List Hd) : ∀ (l : List Hd) (k : Nat), mks salt k (l ++ m) = mks salt k l ++ mks salt (k + l.length) m
  | [], _ => rfl
  | h :: l, k => by
    rw [List.cons_append, mks, mks, mks_app salt m l (k + 1), List.append_assoc, List.length_cons, show k + 1 + l.length = k + (l.length + 1) by omega]
/-- a state in which the bits never change -/
structure Ps.plain (p : Ps) (lim k : Nat) : Prop where
  rlim : p.rules.limit = lim
  every : p.rules.every = 0
  wrk : wrk (tgt lim).1 = 2
  bits : p.last.h.b = lim
  hgt : p.last.height = (k : Int)
theorem Ps.plain.k {p : Ps} {lim k : Nat} (h : p.plain lim k) : p.hgt = k := by unfold Ps.hgt; rw [h.hgt]; rfl
theorem step_plain {p : Ps} {lim k : Nat} (hp : p.plain lim k) {h : Hd} (h1 : h.p = p.last.id) (h2 : h.b = lim) (h3 : hpr h lim = 0) (hw : p.last.work + 2 < 2 ^ 256) : stepP p h k = (nx p.last h, 0) := by
  unfold stepP
  rw [if_neg (fun e => e h1), hp.rlim, if_neg (fun e => e h3)]
  have hm : mayP p.rules (k + 1) p.last.h.b h.b = true := by
    unfold mayP
    rw [if_pos (.inl hp.every), hp.bits, h2]
    simp
  rw [hm, if_neg (by decide), h2, hp.wrk, Nat.mod_eq_of_lt hw]
  unfold nx
  rw [hp.hgt]
  rfl
theorem plain_next {p q : Ps} {lim k : Nat} (hp : p.plain lim k) {h : Hd} (h2 : h.b = lim) (hr : q.rules = p.rules) (hl : q.last = nx p.last h) : q.plain lim (k + 1) :=
  ⟨by rw [hr]; exact hp.rlim, by rw [hr]; exact hp.every, hp.wrk, by rw [hl]; exact h2, by rw [hl]; show p.last.height + 1 = _; rw [hp.hgt]; rfl⟩
/-- one header more in the first phase -/
theorem cnt_one {lim : Nat} {p : Ps} {k : Nat} {h : Hd} (hp : p.plain lim k) (h1 : p.phase = 1) (hc1 : h.p = p.last.id) (hc2 : h.b = lim) (hc3 : hpr h lim = 0) (hn : p.last.work + 2 < 2 ^ 256) (hb : p.bits.length + 1 ≤ 256) :
    stp p h p.hgt = if p.need ≤ p.last.work + 2 then { p with phase := 2, last := p.start, bits := p.bits ++ mks p.salt k [h] } else { p with last := nx p.last h, bits := p.bits ++ mks p.salt k [h] } := by
  have hs := step_plain hp hc1 hc2 hc3 hn
  unfold stp
  rw [hp.k, hs]
  dsimp only
  rw [if_neg (fun e => e rfl), if_pos h1]
  have hx : (nx p.last h).work = p.last.work + 2 := rfl
  have hi : (nx p.last h).id = hdid h := rfl
  unfold countP cntF
  simp only [mks, List.append_nil, hx, hi]
  by_cases c : (k + 1) % 4 = p.salt % 256 % 4
  · rw [if_pos c, if_neg (by omega), if_pos c]
  · rw [if_neg c, if_neg c, List.append_nil]
/-- in the first phase, as long as it isn't enough -/
theorem cnt_run {lim : Nat} : ∀ (l : List Hd) (p : Ps) (k : Nat), p.plain lim k → p.phase = 1 → Chn lim p.last.id l → p.last.work + 2 * l.length < p.need → p.need < 2 ^ 256 → p.bits.length + l.length ≤ 256 → ∀ m, 
    runT 1 (l ++ m) p = runT 1 m { p with last := nxs p.last l, bits := p.bits ++ mks p.salt k l }
  | [], p, k, _, _, _, _, _, _, m => by simp [nxs, mks]
  | h :: l, p, k, hp, h1, hc, hw, hn, hb, m => by
    rw [List.length_cons] at hw hb
    have hnd : ¬ p.need ≤ p.last.work + 2 := by omega
    rw [List.cons_append, runT, if_pos h1, cnt_one hp h1 hc.1 hc.2.1 hc.2.2.2.1 (by omega) (by omega), if_neg hnd, if_neg (by show ¬ p.phase = 4; omega)]
    have hl := mks_len p.salt [h] k
    rw [cnt_run l { p with last := nx p.last h, bits := p.bits ++ mks p.salt k [h] } (k + 1) (plain_next hp hc.2.1 rfl rfl) h1 hc.2.2.2.2 (by show p.last.work + 2 + 2 * l.length < p.need; omega) hn (by show (p.bits ++ _).length + l.length ≤ 256; rw [List.length_append]; simp at hl; omega) m]
    simp only [nxs, List.foldl_cons, mks, List.append_assoc, List.append_nil]
theorem nxs_work (x : Nd) : ∀ (l : List Hd), (nxs x l).work = x.work + 2 * l.length := fun l => by
  induction l generalizing x with
  | nil => rfl
  | cons h l ih => rw [nxs, List.foldl_cons, ← nxs, ih, List.length_cons]; show x.work + 2 + _ = _; omega
theorem nxs_height (x : Nd) : ∀ (l : List Hd), (nxs x l).height = x.height + l.length := fun l => by
  induction l generalizing x with
  | nil => show x.height = x.height + (0 : Nat); omega
  | cons h l ih => rw [nxs, List.foldl_cons, ← nxs, ih, List.length_cons]; show x.height + 1 + _ = _; omega
theorem nxs_id (x : Nd) : ∀ (l : List Hd), (nxs x l).id = lid x.id l := fun l => by
  induction l generalizing x with
  | nil => rfl
  | cons h l ih => rw [nxs, List.foldl_cons, ← nxs, ih]; rfl
theorem nxs_b {lim : Nat} (x : Nd) : ∀ (l : List Hd) {id : Nat}, Chn lim id l → x.h.b = lim → (nxs x l).h.b = lim := fun l => by
  induction l generalizing x with
  | nil => intro id _ h; exact h
  | cons h l ih => intro id hc hx; rw [nxs, List.foldl_cons, ← nxs]; exact ih _ hc.2.2.2.2 hc.2.1
theorem plain_nxs {p q : Ps} {lim k : Nat} (hp : p.plain lim k) {l : List Hd} {id : Nat} (hc : Chn lim id l) (hr : q.rules = p.rules) (hl : q.last = nxs p.last l) : q.plain lim (k + l.length) :=
  ⟨by rw [hr]; exact hp.rlim, by rw [hr]; exact hp.every, hp.wrk, by rw [hl]; exact nxs_b _ l hc hp.bits, by rw [hl, nxs_height, hp.hgt]; omega⟩
/-- .. and where it is -/
theorem cnt_end {lim : Nat} (l : List Hd) (h : Hd) (m : List Hd) (p : Ps) (k : Nat) (hp : p.plain lim k) (h1 : p.phase = 1) (hc : Chn lim p.last.id (l ++ [h])) (hw : p.last.work + 2 * l.length < p.need) (hw2 : p.need ≤ p.last.work + 2 * l.length + 2) (hn : p.need < 2 ^ 255) (hb : p.bits.length + l.length + 1 ≤ 256) :
    runT 1 (l ++ h :: m) p = { p with phase := 2, last := p.start, bits := p.bits ++ mks p.salt k (l ++ [h]) } := by
  obtain ⟨c1, c2⟩ := Chn.app.1 hc
  have hl := mks_len p.salt l k
  rw [cnt_run l p k hp h1 c1 hw (by omega) (by omega)]
  obtain ⟨q, hq⟩ : ∃ q : Ps, q = { p with last := nxs p.last l, bits := p.bits ++ mks p.salt k l } := ⟨_, rfl⟩
  rw [← hq]
  have hq1 : q.plain lim (k + l.length) := by rw [hq]; exact plain_nxs hp c1 rfl rfl
  have hq2 : q.phase = 1 := by rw [hq]; exact h1
  have hqw : q.last.work = p.last.work + 2 * l.length := by rw [hq]; exact nxs_work _ _
  have hqi : q.last.id = lid p.last.id l := by rw [hq]; exact nxs_id _ _
  have hqn : q.need = p.need := by rw [hq]
  have hqb : q.bits.length + 1 ≤ 256 := by rw [hq]; show (p.bits ++ _).length + 1 ≤ 256; rw [List.length_append]; omega
  have e := cnt_one hq1 hq2 (by rw [hqi]; exact c2.1) c2.2.1 c2.2.2.2.1 (by omega) hqb
  have hnd : q.need ≤ q.last.work + 2 := by omega
  rw [if_pos hnd] at e
  rw [runT, if_pos hq2, e, if_neg (by show ¬ 2 = 4; omega)]
  have hf : ∀ m, runT 1 m { q with phase := 2, last := q.start, bits := q.bits ++ mks q.salt (k + l.length) [h] } = { q with phase := 2, last := q.start, bits := q.bits ++ mks q.salt (k + l.length) [h] } := fun m => by
    cases m with
    | nil => rfl
    | cons y m => rw [runT, if_neg (by show ¬ 2 = 1; omega)]
  rw [hf, hq]
  simp only [mks_app, List.append_assoc]
end Go.Proofs.Ytnbppbnjkmopeaa
namespace Go.Proofs.Ytnbppbnjkmopeaa
open Go.RowKit
def l4 : List Hd := lineP 1000 545259519 1 4 0 (hdid gh0)
/-- headers asked for twice, anew -/
def newP (r : Rl) (salt : Nat) (x : Nd) : Ps := ⟨r, salt, needN r, x, 1, x, 0, [], [], 0⟩
def p4 : Ps := newP (rlR 4 0) 1 (genN gh0)
theorem l4_len : l4.length = 4 := by kernel_rfl
theorem need4 : needN (rlR 4 0) = 8 := by kernel_rfl
theorem chk4 : chkP (rlR 4 0) = 0 := by kernel_rfl
theorem p4a : ((takeP p4 false l4).1.phase, (takeP p4 false l4).2.length) = (2, 0) := by kernel_rfl
theorem p4b : ((takeP (takeP p4 false l4).1 false l4).1.phase, (takeP (takeP p4 false l4).1 false l4).1.reason, (takeP (takeP p4 false l4).1 false l4).2.length) = (3, 0, 3) := by kernel_rfl
end Go.Proofs.Ytnbppbnjkmopeaa
namespace Go.Proofs.Ytnbppbnjkmopeaa
open Go.RowKit
theorem field_nd_id (x : Nd) (w : World) : (Instr.field 69 (ndv x) 1).run Try.prog w = .ok (iv x.id) w := by kernel_rfl
/-- an own row of headers as an argument -/
theorem OwnsH.arg {w : World} {base : Nat} {v : Value} {l : List Hd} {D : Nat → Prop} (h : OwnsH w base v l) (hD : ∀ k, base ≤ k → k < w.heap.size → ¬ D k) : ∃ x c, v = .slice x l.length c ∧ (0 < l.length → ∃ b o, x = some ⟨b, o, none⟩ ∧ HdsAt w b o l ∧ ¬ D b) := by
  rcases h.rows with ⟨rfl, rfl⟩ | ⟨b, cap, rfl, h1, h2, _, _, h3⟩
  · exact ⟨none, 0, rfl, fun e => by cases e⟩
  · exact ⟨_, cap, rfl, fun _ => ⟨b, 0, rfl, h3, hD b h1 h2⟩⟩
theorem PsTo.below {w0 w w' : World} {g : Nat} {vb vr : Value} {q : Ps} (h : PsTo w w' g vb vr q) (hb : Below w0.heap.size w0 w) (hD : ∀ k, psD g vb vr k → w0.heap.size ≤ k) : Below w0.heap.size w0 w' := by
  obtain ⟨_, _, _, hg, _⟩ := h
  exact hb.trans (hg.below _ hb.size (fun i hi e => by have := hD i e; omega))
theorem psD_new {g k : Nat} (h : psD g (.slice none 0 0) (.slice none 0 0) k) : k = g := by
  rcases h with e | e | e
  · exact e
  · cases e
  · cases e
theorem gh0_ok : gh0.ok := by unfold gh0 Hd.ok; simp
theorem bld_salt1 : Try.prog.built 24 [(0, .int .u8 1)] = some (ids 1).toArray := by kernel_rfl
theorem wpList_build_salt1 {ops : Array Oper} {rest : List Oper} {o : Oper} {a : Act} {w : World} {Q : Exit → Act → World → Prop} (hg : o.guard = none) (ho : o.op = .build 24 #[(0, .const (.int .u8 1))])
    (hc : wpList Try.prog ops Q rest (a.put o.dst (iv 1)) w) : wpList Try.prog ops Q (o :: rest) a w := by
  refine wpList_build_of hg 24 _ ho (ids 1).toArray ?_ hc
  simp only [List.map_toArray, List.map_cons, List.map_nil]
  exact bld_salt1
theorem good_new {work every : Int} (h0 : 0 ≤ every) (h1 : every ≤ 1000) (salt : Nat) (hn : needN (rlR work every) < 2 ^ 256) : (newP (rlR work every) salt (genN gh0)).good 0 :=
  ⟨by show (545259519 : Nat) < 4294967296; decide, h0, h1, by show (1 : Int) ≤ 10; decide, by show (10 : Int) ≤ 1048576; decide, hn, hdid_lt _, by show (545259519 : Nat) < 4294967296; decide, (by exact wk_lt (tgt gh0.b).1), Int.le_refl _, Int.le_refl _, hdid_lt _, by show (545259519 : Nat) < 4294967296; decide, (by exact wk_lt (tgt gh0.b).1), Int.le_refl _, Int.le_refl _, Nat.zero_le _, .inl (Nat.le_refl _), Nat.zero_le _, Nat.zero_le _, fun _ h => by cases h⟩

set_option maxRecDepth 100000 in
set_option maxHeartbeats 4000000 in
theorem asks_any (w : World) : Calls Try.prog 30 #[] w fun e w' => e = .returned (.bool true) ∧ Below w.heap.size w w' := by
  obtain ⟨r, hr⟩ : ∃ r, r = rlR 4 0 := ⟨_, rfl⟩
  have c1 := Lib.hid fun W => lrules_any 4 0 W
  have c2 := Lib.hid fun W => new_any r (by rw [hr]; show (545259519 : Nat) < 4294967296; decide) (by rw [hr]; exact gh0_ok) (by rw [hr]; rfl) (by rw [hr]; exact chk4) W
  have c3 := Lib.hid fun T m vn c D (salt : Nat) W (h : TrIs W T vn m r [genN r.gen] c D) => snew_any T m vn r [genN r.gen] c D salt Nat.one_pos (by show 1 ≤ 1000000; omega) (by rw [hr]; show (545259519 : Nat) < 4294967296; decide) (by rw [hr]; show (4 : Int) ≤ 9223372036854775807; decide) (by rw [hr]; rfl) W h
  rw [← hr] at c1
  have HR := Lib.hid hr
  clear hr
  go_enter Try.func30, Try.ntmps30
  go_wp2_with fail
  refine (c1.out _).mono ?_
  rintro e w1 ⟨rfl, hb⟩
  have B1 := Lib.hid hb
  clear hb
  go_wp2_with fail
  refine (c2.out _).mono ?_
  rintro e w2 ⟨T, vn, m, rfl, hT, hb, hown⟩
  have B2 := Lib.hid (below_next B1.out hb); have K2 := Lib.hid hT
  clear hb hT hown B1
  go_wp2_with (first | ((with_reducible show wpList _ _ _ _ _ _); refine wpList_build_salt1 rfl rfl ?_))
  refine (c3.out T m vn _ _ 1 _ K2.out).mono ?_
  rintro e w3 ⟨g, rfl, hg, hp, hb⟩
  have hgw : w.heap.size ≤ g := Nat.le_trans B2.out.size hg
  have B3 := Lib.hid (below_next B2.out hb); have K3 := Lib.hid (K2.out.keep hb); have P3 := Lib.hid hp
  clear hb hp B2 K2
  obtain ⟨p, hp⟩ : ∃ p, p = p4 := ⟨_, rfl⟩
  have P3 : Hid (PsIs w3 g (.slice none 0 0) (.slice none 0 0) p) := Lib.hid (by rw [hp]; have := P3.out; rw [HR.out] at this; exact this)
  have hgd : p.good 0 := by rw [hp]; exact good_new (by decide) (by decide) 1 (by rw [need4]; decide)
  obtain ⟨I0, hI0⟩ : ∃ I, I = hdid gh0 := ⟨_, rfl⟩
  have hIl : I0 < 2 ^ 256 := hI0 ▸ hdid_lt gh0
  have hpl : p.last.id = I0 := by rw [hp, hI0]; rfl
  have c4 := Lib.hid fun (W : World) vb vr (q : Ps) (hW : PsIs W g vb vr q) => phase_any g (q.sy vb vr) W hW.blk
  have c5 : Hid (∀ W, PsIs W g (.slice none 0 0) (.slice none 0 0) p → Calls Try.prog 38 #[.pointer (some ⟨g, 0, none⟩)] W fun e w' => e = .returned (iv I0) ∧ Below W.heap.size W w') := Lib.hid fun W hW => hpl ▸ last_any g (p.sy _ _) W hW.blk
  have c6 : Hid (∀ W, TrIs W T vn m r [genN r.gen] 1 (byD [genN r.gen] 0 (.map [])) → Calls Try.prog 35 #[.pointer (some ⟨T, 0, none⟩), .int .i64 0] W fun e w' => e = .returned (ndv (genN r.gen)) ∧ Below W.heap.size W w') := Lib.hid fun W hW => by
    have := tget_any T m vn r [genN r.gen] _ _ 0 (by omega) (by omega) Nat.one_pos (by show 1 ≤ 1000000; omega) W hW
    rw [if_neg (by show ¬ ((0 : Int) < 0 ∨ ((1 : Nat) : Int) ≤ 0); omega)] at this
    exact this
  have hx0 : (genN r.gen).id = I0 := by rw [HR.out, hI0]; rfl
  obtain ⟨x0, hx00⟩ : ∃ x, x = genN r.gen := ⟨_, rfl⟩
  rw [← hx00] at c6 K3 hx0
  have hph : p.phase = 1 := by rw [hp]; rfl
  have HP := Lib.hid hp; have HGD := Lib.hid hgd; have HI := Lib.hid hIl; have HI0 := Lib.hid hI0; have HX0 := Lib.hid hx0; have HPH := Lib.hid hph
  clear hp hgd hI0 hIl hpl hx0 hx00 hph c1 c2 c3
  go_wp2_with fail
  refine (c4.out _ _ _ p P3.out).mono ?_
  rintro e w4 ⟨rfl, hb⟩
  have B4 := Lib.hid (below_next B3.out hb); have K4 := Lib.hid (K3.out.keep hb); have P4 := Lib.hid (P3.out.keep hb)
  rw [show (p.sy (.slice none 0 0) (.slice none 0 0)).phase = 1 from by show ((p.phase : Nat) : Int) = 1; rw [HPH.out]; rfl]
  clear hb B3 K3 P3
  go_wp2_with fail
  refine (c5.out _ P4.out).mono ?_
  rintro e w5 ⟨rfl, hb⟩
  have B5 := Lib.hid (below_next B4.out hb); have K5 := Lib.hid (K4.out.keep hb); have P5 := Lib.hid (P4.out.keep hb)
  clear hb B4 K4 P4
  go_wp2_with fail
  refine (c6.out _ K5.out).mono ?_
  rintro e w6 ⟨rfl, hb⟩
  have B6 := Lib.hid (below_next B5.out hb); have K6 := Lib.hid (K5.out.keep hb); have P6 := Lib.hid (P5.out.keep hb)
  clear hb B5 K5 P5
  have ep := field_nd_id x0 w6
  rw [HX0.out] at ep
  have eq := eq_self I0 HI.out w6
  go_wp2_with fail
  refine (c6.out _ K6.out).mono ?_
  rintro e w7 ⟨rfl, hb⟩
  have B7 := Lib.hid (below_next B6.out hb); have K7 := Lib.hid (K6.out.keep hb); have P7 := Lib.hid (P6.out.keep hb)
  clear hb B6 K6 P6 ep eq
  have ep := field_nd_id x0 w7
  rw [HX0.out] at ep
  have cl := Lib.hid fun W => line_any I0 HI.out 4 (by omega) 1 (by omega) W
  obtain ⟨l, hl⟩ : ∃ l, l = l4 := ⟨_, rfl⟩
  have hl2 : lineP 1000 545259519 1 4 0 I0 = l := by rw [hl, HI0.out]; rfl
  have hll : l.length = 4 := by rw [hl]; exact l4_len
  have hlo : ∀ h ∈ l, h.ok := by rw [← hl2]; exact lineP_ok (by omega) 4 0 I0 HI.out
  rw [hl2] at cl
  have HL := Lib.hid hl; have HLL := Lib.hid hll; have HLO := Lib.hid hlo
  clear hl hl2 hll hlo
  go_wp2_with fail
  refine (cl.out _).mono ?_
  rintro e w8 ⟨v4, rfl, hO, hb⟩
  have B8 := Lib.hid (below_next B7.out hb); have K8 := Lib.hid (K7.out.keep hb); have P8 := Lib.hid (P7.out.keep hb)
  have hg7 : g < w7.heap.size := block_lt P7.out.blk
  obtain ⟨x4, c4', e4, hx4⟩ := hO.arg (D := psD g (.slice none 0 0) (.slice none 0 0)) (fun k hk _ e => by have := psD_new e; omega)
  subst e4
  have HX4 := Lib.hid hx4
  have HO := Lib.hid hO
  clear hb hx4 hO B7 K7 P7 ep cl c6 c5 K8
  go_wp2_with fail
  refine (take_any g _ _ p false x4 c4' l 0 HGD.out (by rw [HLL.out]; omega) HLO.out _ P8.out HX4.out).mono ?_
  rintro e w9 ⟨v5, rfl, ⟨x5, c5, e5, _⟩, hto, _⟩
  subst e5
  have B9 := Lib.hid (hto.below B8.out (fun k hk => by have := psD_new hk; omega))
  obtain ⟨q1, hq1⟩ : ∃ q, q = takeP p false l := ⟨_, rfl⟩
  have hg1 : q1.1.good (0 + l.length) := by rw [hq1]; exact good_take HGD.out false l HLO.out
  have ha : q1.1.phase = 2 ∧ q1.2.length = 0 := by
    have := p4a
    rw [← HP.out, ← HL.out, ← hq1] at this
    exact Prod.mk.inj this
  rw [← hq1] at hto
  rw [← hq1]
  obtain ⟨vb1, vr1, hps, hgr, hdf⟩ := hto
  have P9 := Lib.hid hps
  have HX9 : Hid (0 < l.length → ∃ b o, x4 = some ⟨b, o, none⟩ ∧ HdsAt w9 b o l ∧ ¬ psD g vb1 vr1 b) := Lib.hid fun hl => by
    obtain ⟨b, o, e1, e2, e3⟩ := HX4.out hl
    refine ⟨b, o, e1, e2.gr hgr e3, fun e => ?_⟩
    rcases hdf b e with e | e
    · exact e3 e
    · rcases HO.out.rows with ⟨_, e0⟩ | ⟨b', cap, e0, _, hb', _⟩
      · rw [e0] at hl; cases hl
      · rw [e1] at e0
        have : b = b' := by simpa using (Value.slice.inj e0).1
        omega
  have HD9 : Hid (∀ k, psD g vb1 vr1 k → w.heap.size ≤ k) := Lib.hid fun k hk => by
    rcases hdf k hk with e | e
    · have := psD_new e; omega
    · have := B8.out.size; omega
  have HQ1 := Lib.hid hq1; have HG1 := Lib.hid hg1; have HA := Lib.hid ha
  clear hq1 hg1 ha hps hgr hdf B8 P8 HX4 HO hg7 hg
  go_wp2_with fail
  refine (c4.out _ _ _ _ P9.out).mono ?_
  rintro e w10 ⟨rfl, hb⟩
  have B10 := Lib.hid (below_next B9.out hb); have P10 := Lib.hid (P9.out.keep hb)
  have HX10 : Hid (0 < l.length → ∃ b o, x4 = some ⟨b, o, none⟩ ∧ HdsAt w10 b o l ∧ ¬ psD g vb1 vr1 b) := Lib.hid fun hl => by
    obtain ⟨b, o, e1, e2, e3⟩ := HX9.out hl
    exact ⟨b, o, e1, e2.keep hb, e3⟩
  rw [show (q1.1.sy vb1 vr1).phase = 2 from by show ((q1.1.phase : Nat) : Int) = 2; rw [HA.out.1]; rfl]
  clear hb B9 P9 HX9
  go_wp2_with fail
  refine (take_any g _ _ q1.1 false x4 c4' l (0 + l.length) HG1.out (by rw [HLL.out]; omega) HLO.out _ P10.out HX10.out).mono ?_
  rintro e w11 ⟨v7, rfl, ⟨x7, c7, e7, _⟩, hto, _⟩
  subst e7
  have B11 := Lib.hid (hto.below B10.out HD9.out)
  obtain ⟨q2, hq2⟩ : ∃ q, q = takeP q1.1 false l := ⟨_, rfl⟩
  have ha2 : q2.1.phase = 3 ∧ q2.1.reason = 0 ∧ q2.2.length = 3 := by
    have := p4b
    rw [← HP.out, ← HL.out, ← HQ1.out, ← hq2] at this
    exact ⟨(Prod.mk.inj this).1, (Prod.mk.inj (Prod.mk.inj this).2).1, (Prod.mk.inj (Prod.mk.inj this).2).2⟩
  rw [← hq2] at hto
  rw [← hq2]
  obtain ⟨vb2, vr2, hps, _, _⟩ := hto
  have P11 := Lib.hid hps; have HA2 := Lib.hid ha2
  clear hq2 hps ha2 B10 P10 HX10 HG1
  have f1 : ((l.length : Int) == 4) = true := by rw [HLL.out]; rfl
  have f2 : ((q1.2.length : Int) == 0) = true := by rw [HA.out.2]; rfl
  have f3 : ((q2.2.length : Int) == 3) = true := by rw [HA2.out.2.2]; rfl
  go_wp2_with fail
  refine (c4.out _ _ _ _ P11.out).mono ?_
  rintro e w12 ⟨rfl, hb⟩
  have B12 := Lib.hid (below_next B11.out hb); have P12 := Lib.hid (P11.out.keep hb)
  rw [show (q2.1.sy vb2 vr2).phase = 3 from by show ((q2.1.phase : Nat) : Int) = 3; rw [HA2.out.1]; rfl]
  clear hb B11 P11
  go_wp2_with fail
  refine (reason_any g (q2.1.sy vb2 vr2) _ P12.out.blk).mono ?_
  rintro e w13 ⟨rfl, hb⟩
  have B13 := Lib.hid (below_next B12.out hb)
  rw [show (q2.1.sy vb2 vr2).reason = 0 from by show ((q2.1.reason : Nat) : Int) = 0; rw [HA2.out.2.1]; rfl]
  clear hb B12 P12
  have c1 := Lib.hid fun W => lrules_any 4 0 W
  rw [← HR.out] at c1
  go_wp2_with fail
  refine (c1.out _).mono ?_
  rintro e w14 ⟨rfl, hb⟩
  have B14 := Lib.hid (below_next B13.out hb)
  clear hb B13 c1
  have c2 := Lib.hid fun W => need_any r (by rw [HR.out]; show (545259519 : Nat) < 4294967296; decide) (by rw [HR.out]; show (4 : Int) ≤ 9223372036854775807; decide) W
  rw [show needN r = 8 from by rw [HR.out]; exact need4] at c2
  go_wp2_with fail
  refine (c2.out _).mono ?_
  rintro e w15 ⟨rfl, hb⟩
  have B15 := Lib.hid (below_next B14.out hb)
  clear hb B14 c2
  have c3 := Lib.hid fun W => of_nat 8 W (by omega)
  go_wp2_with fail
  refine (c3.out _).mono ?_
  rintro e w16 ⟨rfl, hb⟩
  have B16 := Lib.hid (below_next B15.out hb)
  clear hb B15 c3
  have eq := eq_num 8 8 (by decide) (by decide) w16
  rw [decide_eq_true rfl] at eq
  go_wp2_with fail
  go_ret
  exact ⟨rfl, B16.out⟩
end Go.Proofs.Ytnbppbnjkmopeaa
namespace Go.Proofs.Ytnbppbnjkmopeaa
open Go.RowKit

/-- the statements' tree: of a genesis alone -/
def GTree (w : World) (T : Nat) (vn : Value) (m : Nat) (work every : Int) : Prop := TrIs w T vn m (rlR work every) [genN gh0] 1 (byD [genN gh0] 0 (.map []))
theorem chk_rlR {work every : Int} (h0 : 0 ≤ work) (h1 : work ≤ 1000) (h2 : 0 ≤ every) (h3 : every ≤ 1000) : chkP (rlR work every) = 0 := by
  unfold chkP
  rw [if_neg (by
    show ¬ ((tgt 545259519).2 = false ∨ (545259519 : Nat) ≠ 545259519)
    rw [tgt_LM]; simp), if_neg (by
    show ¬ (every < 0 ∨ 1000 < every ∨ (10 : Int) < 1 ∨ (1048576 : Int) < 10 ∨ (50 : Int) < 0 ∨ (1125899906842624 : Int) < 50 ∨ work < 0 ∨ 1000 < work)
    omega)]
theorem need_rlR {work every : Int} (h0 : 0 ≤ work) (h1 : work ≤ 1000) : needN (rlR work every) = 2 * work.toNat := by
  unfold needN
  rw [show (tgt (rlR work every).limit).1 = (tgt 545259519).1 from rfl, wrk_LM, show (rlR work every).work = work from rfl, if_neg (by omega)]
theorem ltree_any {work every : Int} (h0 : 0 ≤ work) (h1 : work ≤ 1000) (h2 : 0 ≤ every) (h3 : every ≤ 1000) (W : World) :
    Calls Try.prog 31 #[rlv (rlR work every)] W fun e w' => ∃ T vn m, e = .returned (.tuple #[.pointer (some ⟨T, 0, none⟩), .int .i64 0]) ∧ GTree w' T vn m work every ∧ Below W.heap.size W w' ∧ ∀ k, trD T vn m k → W.heap.size ≤ k :=
  new_any (rlR work every) (by show (545259519 : Nat) < 4294967296; decide) gh0_ok rfl (chk_rlR h0 h1 h2 h3) W
/-- the genesis' node -/
structure GenX (x : Nd) (I : Nat) : Prop where
  is : x = genN gh0
  id : x.id = I
  lt : I < 2 ^ 256
  work : x.work = 2
  height : x.height = 0
  b : x.h.b = 545259519
theorem genX : ∃ x I, GenX x I := ⟨_, _, rfl, rfl, hdid_lt gh0, wrk_LM, rfl, rfl⟩
theorem lget_any {x : Nd} {I : Nat} (hx : GenX x I) {T : Nat} {vn : Value} {m : Nat} {work every : Int} (W : World) (h : GTree W T vn m work every) : Calls Try.prog 35 #[.pointer (some ⟨T, 0, none⟩), .int .i64 0] W fun e w' => e = .returned (ndv x) ∧ Below W.heap.size W w' := by
  have := tget_any T m vn _ [genN gh0] _ _ 0 (by omega) (by omega) Nat.one_pos (by show 1 ≤ 1000000; omega) W h
  rw [if_neg (by show ¬ ((0 : Int) < 0 ∨ ((1 : Nat) : Int) ≤ 0); omega)] at this
  rw [hx.is]
  exact this
theorem lsync_any {x : Nd} {I : Nat} (hx : GenX x I) {T : Nat} {vn : Value} {m : Nat} {work every : Int} (h1 : work ≤ 1000) (salt : Nat) (W : World) (h : GTree W T vn m work every) :
    Calls Try.prog 33 #[.pointer (some ⟨T, 0, none⟩), .int .i64 0, iv salt] W fun e w' => ∃ g, e = .returned (.pointer (some ⟨g, 0, none⟩)) ∧ W.heap.size ≤ g ∧ PsIs w' g (.slice none 0 0) (.slice none 0 0) (newP (rlR work every) salt x) ∧ Below W.heap.size W w' := by
  have := snew_any T m vn (rlR work every) [genN gh0] _ _ salt Nat.one_pos (by show 1 ≤ 1000000; omega) (by show (545259519 : Nat) < 4294967296; decide) (by show work ≤ 9223372036854775807; omega) rfl W h
  rw [hx.is]
  exact this
theorem GTree.keep {w w' : World} {T : Nat} {vn : Value} {m : Nat} {work every : Int} (h : GTree w T vn m work every) (hb : Below w.heap.size w w') : GTree w' T vn m work every := TrIs.keep h hb
theorem field_gen {x : Nd} {I : Nat} (hx : GenX x I) (w : World) : (Instr.field 69 (ndv x) 1).run Try.prog w = .ok (iv I) w := hx.id ▸ field_nd_id x w
theorem PsIs.gr {w w' : World} {g : Nat} {vb vr : Value} {p : Ps} {D : Nat → Prop} (h : PsIs w g vb vr p) (hg : Gr D w w') (hD : ∀ k, psD g vb vr k → ¬ D k) : PsIs w' g vb vr p :=
  ⟨hg.keep h.blk (hD g (.inl rfl)), h.bits.gr hg (fun k hk => hD k (.inr (.inl hk))), h.ready.gr hg (fun k hk => hD k (.inr (.inr hk)))⟩
theorem OwnsB.lt {w : World} {base : Nat} {v : Value} {l : List Bool} (h : OwnsB w base v l) {k : Nat} (hk : v.ownBlock = some k) : k < w.heap.size := by
  rcases h.2 with ⟨rfl, _⟩ | ⟨g, cap, cur, rfl, _, h2, _⟩
  · cases hk
  · obtain rfl : g = k := Option.some.inj hk
    exact block_lt h2
theorem PsIs.lt {w : World} {g : Nat} {vb vr : Value} {p : Ps} (h : PsIs w g vb vr p) (k : Nat) (hk : psD g vb vr k) : k < w.heap.size := by
  rcases hk with rfl | hk | hk
  · exact block_lt h.blk
  · exact h.bits.lt hk
  · exact h.ready.lt hk
theorem good_newP {x : Nd} {I : Nat} (hx : GenX x I) {work every : Int} (h0 : 0 ≤ work) (h1 : work ≤ 1000) (h2 : 0 ≤ every) (h3 : every ≤ 1000) (salt : Nat) : (newP (rlR work every) salt x).good 0 := by
  rw [hx.is]
  exact good_new h2 h3 salt (by rw [need_rlR h0 h1]; omega)
theorem plain_newP {x : Nd} {I : Nat} (hx : GenX x I) {work : Int} (salt : Nat) : (newP (rlR work 0) salt x).plain 545259519 0 := ⟨rfl, rfl, wrk_LM, hx.b, hx.height⟩
/-- a message in the first phase that isn't enough -/
theorem take_cnt {lim : Nat} (l : List Hd) (p : Ps) (k : Nat) (hp : p.plain lim k) (h1 : p.phase = 1) (hc : Chn lim p.last.id l) (hw : p.last.work + 2 * l.length < p.need) (hn : p.need < 2 ^ 256) (hb : p.bits.length + l.length ≤ 256) (hr : p.ready = []) :
    takeP p true l = ({ p with last := nxs p.last l, bits := p.bits ++ mks p.salt k l }, []) := by
  have e := cnt_run l p k hp h1 hc hw hn hb []
  rw [List.append_nil, runT] at e
  unfold takeP
  rw [if_neg (by omega), h1, e]
  dsimp only
  rw [if_neg (by show ¬ p.phase = 4; omega), if_neg (by simp)]
  have hk : keepN { p with last := nxs p.last l, bits := p.bits ++ mks p.salt k l } = 0 := by
    unfold keepN
    show p.ready.length - _ = 0
    rw [hr]; simp
  rw [hk]
  show (_, p.ready.take 0) = _
  rw [List.take_zero, List.drop_zero, h1]
theorem OwnsH.arg2 {w : World} {base n c : Nat} {x : Option Addr} {l : List Hd} (h : OwnsH w base (.slice x n c) l) : 0 < l.length → ∃ b, x = some ⟨b, 0, none⟩ ∧ HdsAt w b 0 l ∧ base ≤ b ∧ b < w.heap.size := fun hl => by
  rcases h.rows with ⟨_, e⟩ | ⟨b, cap, e, h1, h2, _, _, h3⟩
  · rw [e] at hl; cases hl
  · exact ⟨b, (Value.slice.inj e).1, h3, h1, h2⟩
theorem psize_any (g : Nat) (vb vr : Value) (p : Ps) (w : World) (h : PsIs w g vb vr p) (h1 : p.bits.length ≤ 1000000) (h2 : p.ready.length ≤ 1000000) : Calls Try.prog 50 #[.pointer (some ⟨g, 0, none⟩)] w fun e w' => e = .returned (.int .i64 (p.bits.length + p.ready.length : Nat)) ∧ Below w.heap.size w w' := by
  obtain ⟨xb, cb, e1⟩ := h.bits.shape
  obtain ⟨xr, cr, e2⟩ := h.ready.shape
  exact size_any g (p.sy vb vr) w h.blk xb xr _ _ cb cr e1 e2 h1 h2
end Go.Proofs.Ytnbppbnjkmopeaa
