/- The law WholeNumbers: sums are numbers: there and back, added and taken off again; of parts they are those of the whole. No condition. -/
import Derived.Test.YtnbppbnjkmopeaaNumMem
import Derived.Test.YtnbppbnjkmopeaaNumSum
import Derived.Test.YtnbppbnjkmopeaaRegZ
import Derived.Test.YtnbppbnjkmopeaaNumId
import Derived.Test.YtnbppbnjkmopeaaOpenBytes
import Derived.Test.YtnbppbnjkmopeaaHead
namespace Go.Proofs.Ytnbppbnjkmopeaa
open Go.ChangeShapes Go.WideShapes Go.ChangeAt Go.RowKit

theorem flatB : ∀ (ls : List (List Nat)) (M : Nat), (∀ l ∈ ls, l.length ≤ M) → ls.flatten.length ≤ M * ls.length
  | [], M, _ => by simp
  | l :: ls, M, h => by
    have := flatB ls M fun x hx => h x (by simp [hx])
    have := h l (by simp)
    rw [List.flatten_cons, List.length_append, List.length_cons, Nat.mul_succ]; omega
theorem getD_bytes {ls : List (List Nat)} (hb : ∀ l ∈ ls, ∀ y ∈ l, y < 256) (k : Nat) : ∀ y ∈ ls.getD k [], y < 256 := by
  rw [List.getD_eq_getElem?_getD]
  rcases h : ls[k]? with _ | l
  · simp
  · exact hb l (List.mem_of_getElem? h)
theorem take_shorts {ls : List (List Nat)} {k M : Nat} (hk : k < ls.length) (h : ∀ l ∈ ls.take k, l.length ≤ M) (h2 : (ls.getD k []).length ≤ M) : ∀ l ∈ ls.take (k + 1), l.length ≤ M := by
  intro l hl
  rw [List.take_add_one, List.mem_append] at hl
  rcases hl with hl | hl
  · exact h l hl
  · rw [List.getElem?_eq_getElem hk] at hl
    simp at hl
    subst hl
    simpa [List.getD, List.getElem?_eq_getElem hk] using h2
theorem map_step {ls : List (List Nat)} {k : Nat} (h : k < ls.length) : (ls.take (k + 1)).map tw = (ls.take k).map tw ++ [tw (ls.getD k [])] := by
  rw [List.take_add_one, List.map_append]
  simp [List.getElem?_eq_getElem h]
/-- what is left of a sum, so many taken off again -/
def left (L : List Nat) (k : Nat) : Nat := (L.drop k).sum % 2 ^ 256
theorem left_lt (L : List Nat) (k : Nat) : left L k < 2 ^ 256 := Nat.mod_lt _ (by omega)
theorem left_step {L : List Nat} {k : Nat} (hk : k < L.length) (h : L.getD k 0 < 2 ^ 256) : (left L k + 2 ^ 256 - L.getD k 0) % 2 ^ 256 = left L (k + 1) := by
  unfold left
  have e : (L.drop k).sum = L.getD k 0 + (L.drop (k + 1)).sum := by
    rw [List.drop_eq_getElem_cons hk, List.sum_cons, List.getD_eq_getElem?_getD, List.getElem?_eq_getElem hk]; rfl
  rw [e]
  generalize L.getD k 0 = y at *
  generalize (L.drop (k + 1)).sum = s
  omega
theorem left_end (L : List Nat) : left L L.length = 0 := by unfold left; rw [List.drop_length]; rfl
theorem left_start (L : List Nat) : (addAll L).1 = left L 0 := by unfold left; rw [addAll_sum, List.drop_zero]
theorem NumsAt.range {w : World} {b o : Nat} {l : List Nat} (h : NumsAt w b o l) {i : Nat} (hi : i < l.length) : w.rangeAt b (o + i * 4) (nvs (l.getD i 0)) := fun j v hv => by
  have hj : j < 4 := (List.getElem?_eq_some_iff.1 hv).1
  rw [nvs_get _ j hj] at hv
  rw [h i hi j hj]; exact hv
theorem NumsAt.keep {w w' : World} {b o : Nat} {l : List Nat} (h : NumsAt w b o l) (hb : Below w.heap.size w w') (hlt : b < w.heap.size) : NumsAt w' b o l := fun i hi j hj => (hb.cell (p := ⟨b, _, none⟩) hlt).trans (h i hi j hj)
theorem sha_no : decide (sha [] = 0) = false := decide_eq_false fun e => by
  have := sha_nil
  rw [e] at this
  simp [lb] at this

set_option maxRecDepth 100000 in
set_option maxHeartbeats 40000000 in
theorem WholeNumbers_walk (x : Option Addr) (cap : Nat) (ls : List (List Nat)) (hb : ∀ l ∈ ls, ∀ y ∈ l, y < 256) (k0 : Int) (w0 : (Lit.int .u64 k0).wf = true) (w : World) (hp : PartsAt w x ls) :
    Calls Try.prog 15 #[.slice x ls.length cap, .int .u64 k0] w fun e w' => e = .returned (.bool true) ∧ Below w.heap.size w w' := by
  have hx2 : 0 ≤ k0 ∧ k0 ≤ 18446744073709551615 := by simpa [Lit.wf, IntKind.min, IntKind.max, IntKind.signed, IntKind.bits] using w0
  obtain ⟨n, rfl⟩ := Int.eq_ofNat_of_zero_le hx2.1
  have hn : n < 18446744073709551616 := by omega
  have hbl : ¬ (64 : Int) < (bitLen n : Int) := by
    have h1 := bitLen_word n 0
    have h2 : (lw n 0).toNat = n := by unfold lw; rw [Int.toNat_natCast, Nat.mul_zero, Nat.pow_zero, Nat.div_one, Nat.mod_eq_of_lt (by omega)]
    rw [h2] at h1
    omega
  have HNN := Lib.hid hn
  have HB := Lib.hid hb; have HP := Lib.hid hp
  clear hb hp hx2 w0 hn
  obtain ⟨N, hN⟩ : ∃ N, N = ls.length := ⟨_, rfl⟩
  rw [← hN]
  have HN := Lib.hid hN
  clear hN
  obtain ⟨E, hE⟩ : ∃ E, E = sha [] := ⟨_, rfl⟩
  have HE0 : Hid (decide (E = 0) = false) := Lib.hid (by rw [hE]; exact sha_no)
  have HEL : Hid (E < 2 ^ 256) := Lib.hid (by rw [hE]; exact sha_lt _)
  have cs0 := Lib.hid fun W => sum_none none 0 W
  rw [← hE] at cs0
  clear hE
  have B : Below w.heap.size w w := Below.refl _ _
  go_enter Try.func15, Try.ntmps15
  go_wp2_with fail
  refine (cs0.out _).mono ?_
  rintro e w1 ⟨rfl, hb1⟩
  have B1 := Lib.hid (below_next B hb1)
  clear hb1 B
  go_wp2_with fail
  refine (fromid_any E HEL.out _).mono ?_
  rintro e w2 ⟨rfl, hb1⟩
  have B2 := Lib.hid (below_next B1.out hb1)
  clear hb1 B1
  go_wp2_with fail
  refine (zero_any E HEL.out _).mono ?_
  rintro e w3 ⟨rfl, hb1⟩
  have B3 := Lib.hid (below_next B2.out hb1)
  clear hb1 B2
  rw [HE0.out]
  go_wp2_with fail
  refine (of_nat n _ HNN.out).mono ?_
  rintro e w4 ⟨rfl, hb1⟩
  have B4 := Lib.hid (below_next B3.out hb1)
  clear hb1 B3
  go_wp2_with fail
  refine (len_any n (by have := HNN.out; omega) _).mono ?_
  rintro e W ⟨rfl, hb1⟩
  have B5 := Lib.hid (below_next B4.out hb1)
  clear hb1 B4 cs0 HE0 HEL
  by_cases h10 : 10 < N
  · have h10' : (10 : Int) < (N : Int) := by omega
    go_wp2_with fail
    go_ret
    exact ⟨rfl, B5.out⟩
  have h10' : ¬ (10 : Int) < (N : Int) := by omega
  have hN10 : N ≤ 10 := by omega
  have HPW := Lib.hid (HP.out.keep B5.out)
  clear h10 HP
  go_wp2_with fail
  go_loopg [5, 6, 33] N (fun g av lv ix wr => ∃ k : Nat, g = N - k ∧ k ≤ N ∧ ix = .int .i64 k ∧ (∀ l ∈ ls.take k, l.length ≤ 200) ∧ Owns wr W.heap.size av (ls.take k).flatten ∧ OwnsN wr W.heap.size lv ((ls.take k).map tw) ∧ Below W.heap.size W wr)
  case atStart => exact ⟨0, rfl, by omega, rfl, by simp, by rw [List.take_zero, List.flatten_nil]; exact Owns.nil _ _, by rw [List.take_zero]; exact OwnsN.nil _ _, Below.refl _ _⟩
  case round =>
    obtain ⟨k, hg, hk, rfl, hsh, hO, hL, hB⟩ := hrel
    have HG := Lib.hid hg; have HO := Lib.hid hO; have HL := Lib.hid hL; have HSH := Lib.hid hsh; have HBB := Lib.hid hB
    clear hg hO hL hsh hB
    by_cases hlt : k < N
    · have hkl : k < ls.length := by rw [← HN.out]; exact hlt
      obtain ⟨b, o, rfl, hc⟩ := HPW.out (by intro e; rw [e] at hkl; simp at hkl)
      obtain ⟨u, hu, hU⟩ := hc k hkl
      have hu1 : wr.cell? ⟨b, o + k, none⟩ = some u := (HBB.out.cell (p := ⟨b, o + k, none⟩) (block_lt_of_cell hu)).trans hu
      have HU := Lib.hid (hU.keep HBB.out)
      obtain ⟨xu, cu, rfl⟩ := hU.shape
      have HLF := Lib.hid (flatB _ _ HSH.out)
      have HTL : Hid ((ls.take k).length ≤ 10) := Lib.hid (by rw [List.length_take]; omega)
      have HST := Lib.hid (flat_step hkl)
      have HMS := Lib.hid (map_step hkl)
      have HBY := Lib.hid (getD_bytes HB.out k)
      have HTS := Lib.hid (take_shorts hkl HSH.out)
      obtain ⟨l, hl⟩ : ∃ l, l = ls.getD k [] := ⟨_, rfl⟩
      have HUW := Lib.hid hU
      rw [← hl] at HU HUW HST HMS HBY HTS
      obtain ⟨m, hm⟩ : ∃ m, m = l.length := ⟨_, rfl⟩
      rw [← hm] at HU HUW
      rw [← hl, ← hm] at hu1
      have HM := Lib.hid hm
      clear hc hu hU hl hm hkl
      by_cases h200 : 200 < m
      · have h200' : (200 : Int) < (m : Int) := by omega
        go_wp2_with fail
        go_ret
        exact ⟨rfl, below_next B5.out HBB.out⟩
      have h200' : ¬ (200 : Int) < (m : Int) := by omega
      have HM2 : Hid (l.length ≤ 200) := Lib.hid (by rw [← HM.out]; omega)
      clear h200
      have ct := Lib.hid fun (V : World) (g : Nat) (h : V.heap[g]? = some (.cells #[.slice xu m cu] 27 (0, 0))) (hb : BytesAt V (.slice xu m cu) l) => twice_one (.slice xu m cu) l g 27 1 V h hb HBY.out (by have := HM2.out; omega)
      obtain ⟨y, hy⟩ : ∃ y, y = tw l := ⟨_, rfl⟩
      have HYL : Hid (y < 2 ^ 256) := Lib.hid (by rw [hy]; exact tw_lt l)
      rw [← hy] at HMS ct
      have hbs : W.heap.size ≤ wr.heap.size := HBB.out.size
      clear hy
      go_wp2_with (at_builtin; refine wpList_append_u8g rfl (.tmp 40) (.tmp 41) rfl W.heap.size _ (ls.take k).flatten rfl HO.out _ l rfl HU.out (by have := HLF.out; have := HTL.out; have := HM2.out; omega) hbs (fun v' w4 hown' hgrow => ?_); have HO4 := Lib.hid hown'; have HL4 := Lib.hid (World.ownsRow.kept HL.out hgrow (own_types HL.out HO.out (by decide))); have HB4 := Lib.hid (HBB.out.grown hgrow hbs fun q hq => (World.ownsRow.lt HO.out q hq).1); clear hown' hgrow)
      refine (ct.out _ _ (heap_new w4 _) (HUW.out.keep (below_alloc HB4.out _))).mono ?_
      rintro e w5 ⟨rfl, hb5⟩
      have HO5 := Lib.hid (Owns.keep (HO4.out.keep (below_alloc (Below.refl _ _) _)) hb5); have HL5 := Lib.hid (OwnsN.keep (OwnsN.keep HL4.out (below_alloc (Below.refl _ _) _)) hb5); have HB5 := Lib.hid (below_next (below_alloc HB4.out _) hb5)
      clear hb5 HO4 HL4 HB4 ct
      go_wp2_with fail
      refine (fromid_any y HYL.out _).mono ?_
      rintro e w6 ⟨rfl, hb6⟩
      have HO6 := Lib.hid (HO5.out.keep hb6); have HL6 := Lib.hid (HL5.out.keep hb6); have HB6 := Lib.hid (below_next HB5.out hb6)
      have hbs6 : W.heap.size ≤ w6.heap.size := HB6.out.size
      clear hb6 HO5 HL5 HB5
      go_wp2_with (first | refine wpList_build_num rfl (.tmp 47) y rfl rfl ?_ | (at_builtin; refine wpList_append_num rfl (.tmp 43) (.tmp 48) rfl W.heap.size _ ((ls.take k).map tw) rfl (HL6.out.keep (below_alloc (Below.refl _ _) _)) y w6.heap.size rfl (heap_new _ _) (by have := HTL.out; rw [List.length_map]; omega) (by simp; omega) (fun v2 w7 hown hgrow hat => ?_)))
      have HL7 := Lib.hid hown
      have HO7 := Lib.hid (World.ownsRow.kept (Owns.keep HO6.out (below_alloc (Below.refl _ _) (.cells (numsL [y]).toArray 47 (0, 0)))) hgrow (own_types (Owns.keep HO6.out (below_alloc (Below.refl _ _) (.cells (numsL [y]).toArray 47 (0, 0)))) (OwnsN.keep HL6.out (below_alloc (Below.refl _ _) (.cells (numsL [y]).toArray 47 (0, 0)))) (by decide)))
      have HB7 := Lib.hid ((below_alloc HB6.out (.cells (numsL [y]).toArray 47 (0, 0))).grown hgrow (by simp; omega) fun q hq => (World.ownsRow.lt (OwnsN.keep HL6.out (below_alloc (Below.refl _ _) (.cells (numsL [y]).toArray 47 (0, 0)))) q hq).1)
      clear hown hgrow hat HO6 HL6 HB6
      go_wp2_with fail
      go_roundg (N - (k + 1))
      case measure => have := HG.out; omega
      case rel => exact ⟨k + 1, rfl, by omega, by go_num, HTS.out HM2.out, by rw [HST.out]; exact HO7.out, by rw [HMS.out]; exact HL7.out, HB7.out⟩
    · obtain rfl : k = N := by omega
      obtain ⟨wo, rfl⟩ : ∃ wo : World, wo = wr := ⟨_, rfl⟩
      have et : ls.take k = ls := by rw [HN.out, List.take_length]
      rw [et] at HSH HO HL
      have HLEN : Hid (ls.flatten.length ≤ 100000) := Lib.hid (by have := flatB _ _ HSH.out; have := HN.out; omega)
      have HFB : Hid (∀ y ∈ ls.flatten, y < 256) := Lib.hid fun y hy => by
        obtain ⟨l, hl, hy⟩ := List.mem_flatten.1 hy
        exact HB.out l hl y hy
      have cs := Lib.hid fun V (hb : Below W.heap.size W V) => sum_any x cap ls HFB.out HLEN.out (by have := HN.out; omega) V (HPW.out.keep hb)
      rw [← HN.out] at cs
      obtain ⟨q, hq⟩ : ∃ q, q = ls.flatten := ⟨_, rfl⟩
      rw [← hq] at cs HO HLEN HFB
      have HOB := Lib.hid (Owns.bytes HO.out)
      obtain ⟨xa, ca, rfl⟩ := HO.out.shape
      obtain ⟨L, hL⟩ : ∃ L, L = ls.map tw := ⟨_, rfl⟩
      rw [← hL] at HL
      have HLL : Hid (∀ y ∈ L, y < 2 ^ 256) := Lib.hid fun y hy => by
        rw [hL] at hy
        obtain ⟨l, _, rfl⟩ := List.mem_map.1 hy
        exact tw_lt l
      have hLN : L.length = k := by rw [hL, List.length_map, HN.out]
      have HLN := Lib.hid hLN
      obtain ⟨xl, cl, rfl, hrow⟩ := HL.out.rows
      rw [hLN] at HL
      rw [hLN]
      have HR := Lib.hid fun V (hb : Below wo.heap.size wo V) (hne : L ≠ []) => (hrow hne).elim fun b h => h.elim fun o h => (⟨b, o, h.1, Nat.lt_of_lt_of_le h.2.1 hb.size, h.2.2.keep hb h.2.1⟩ : ∃ b o, xl = some ⟨b, o, none⟩ ∧ b < V.heap.size ∧ NumsAt V b o L)
      have ca' := Lib.hid fun V (hb : Below wo.heap.size wo V) => add_list xl cl L HLL.out (by rw [HLN.out]; omega) V (HR.out V hb)
      obtain ⟨X, hX⟩ : ∃ X, X = sha q := ⟨_, rfl⟩
      have HXL : Hid (X < 2 ^ 256) := Lib.hid (by rw [hX]; exact sha_lt _)
      have co1 := Lib.hid fun (V : World) (g : Nat) (h : V.heap[g]? = some (.cells #[.slice xa q.length ca] 27 (0, 0))) (hb : BytesAt V (.slice xa q.length ca) q) => sum_one (.slice xa q.length ca) q g 27 1 V h hb HFB.out HLEN.out
      rw [← hX] at cs co1
      rw [HLN.out] at ca'
      obtain ⟨S, hS⟩ : ∃ S, S = (addAll L).1 := ⟨_, rfl⟩
      obtain ⟨F, hF⟩ : ∃ F, F = (addAll L).2 := ⟨_, rfl⟩
      have HS0 : Hid (S = left L 0) := Lib.hid (by rw [hS]; exact left_start L)
      rw [← hS, ← hF] at ca'
      have qX := eq_self X HXL.out
      have qN : ∀ V : World, (Op.equalIn 10000 47 (nv X) (nv X)).run Try.prog V = .ok true V := fun V => by rw [eq_num X X HXL.out HXL.out V, decide_eq_true rfl]
      have BW := Lib.hid (below_next B5.out HBB.out)
      have cs' := Lib.hid (cs.out wo HBB.out)
      clear et hq hX hS hF hL hLN hrow hlt HSH HG hk HPW HB cs
      go_wp2_with fail
      refine cs'.out.mono ?_
      rintro e w5 ⟨rfl, hb5⟩
      have B15 := Lib.hid hb5
      clear hb5 cs'
      go_wp2_with fail
      refine (fromid_any X HXL.out _).mono ?_
      rintro e w6 ⟨rfl, hb6⟩
      have B16 := Lib.hid (below_next B15.out hb6)
      have B16a := Lib.hid (below_alloc B16.out (nbk 0))
      have hz6 : wo.heap.size ≤ w6.heap.size := B16.out.size
      clear hb6 B15
      go_wp2_with (first | (refine wpList_store_nv rfl (.tmp 9) (.tmp 53) rfl w6.heap.size 0 X rfl rfl (heap_new w6 _) (fun w7 h1 h2 h3 h4 => ?_); have K9 := Lib.hid h1; have B17 := Lib.hid (h4 wo.heap.size wo hz6 B16a.out); clear h1 h2 h3 h4) | refine wpList_load_nv rfl (.tmp 9) rfl w6.heap.size X rfl K9.out ?_)
      obtain ⟨gx, hgx⟩ : ∃ g, g = w6.heap.size := ⟨_, rfl⟩
      rw [← hgx] at K9 hz6
      simp only [← hgx]
      clear hgx B16 B16a
      refine (id_any X HXL.out _).mono ?_
      rintro e w8 ⟨rfl, hb8⟩
      have K98 := Lib.hid (block_keep hb8 K9.out); have B18 := Lib.hid (below_next B17.out hb8)
      clear hb8 K9 B17
      go_wp2_with fail
      refine (co1.out _ _ (heap_new w8 _) (HOB.out.keep (below_alloc B18.out _))).mono ?_
      rintro e w9 ⟨rfl, hb9⟩
      have K99 := Lib.hid (block_keep hb9 (keep_alloc _ K98.out)); have B19 := Lib.hid (below_next (below_alloc B18.out _) hb9)
      clear hb9 K98 B18 co1
      go_wp2_with fail
      refine (ca'.out _ B19.out).mono ?_
      rintro e w10 ⟨rfl, hb10⟩
      have K9a := Lib.hid (keep_alloc (nbk 0) (block_keep hb10 K99.out)); have B20 := Lib.hid (below_alloc (below_next B19.out hb10) (nbk 0))
      have hz10 : wo.heap.size ≤ w10.heap.size := by have := B19.out.size; have := hb10.size; omega
      have hgxw : gx < w10.heap.size := block_lt (block_keep hb10 K99.out)
      clear hb10 K99 B19 ca'
      go_wp2_with (first | (refine wpList_store_nv rfl (.tmp 10) (.tmp 63) rfl w10.heap.size 0 S rfl rfl (heap_new w10 _) (fun w11 h1 h2 h3 h4 => ?_); have K10 := Lib.hid h1; have K9b := Lib.hid ((h2 gx (by omega)).trans K9a.out); have B21 := Lib.hid (h4 wo.heap.size wo hz10 B20.out); clear h1 h2 h3 h4))
      obtain ⟨gs, hgs⟩ : ∃ g, g = w10.heap.size := ⟨_, rfl⟩
      rw [← hgs] at K10 hz10 hgxw
      simp only [← hgs]
      clear hgs K9a B20
      go_loopg [67] k (fun g ix wr2 => ∃ j : Nat, g = k - j ∧ j ≤ k ∧ ix = .int .i64 j ∧ wr2.heap[gx]? = some (nbk X) ∧ wr2.heap[gs]? = some (nbk (left L j)) ∧ Below wo.heap.size wo wr2)
      case atStart => exact ⟨0, rfl, by omega, rfl, K9b.out, by rw [← HS0.out]; exact K10.out, B21.out⟩
      case round =>
        clear K9b K10 B21
        obtain ⟨j, hg, hj, rfl, h9, h10, hB⟩ := hrel
        have HG := Lib.hid hg; have K9 := Lib.hid h9; have K10 := Lib.hid h10; have HB2 := Lib.hid hB
        clear hg h9 h10 hB
        by_cases hlt : j < k
        · have hjl : j < L.length := by rw [HLN.out]; exact hlt
          obtain ⟨bl, ol, rfl, hbl, hnum⟩ := HR.out wr HB2.out (by intro e; rw [e] at hjl; simp at hjl)
          have hr := hnum.range hjl
          have hyl : L.getD j 0 < 2 ^ 256 := by rw [List.getD_eq_getElem?_getD, List.getElem?_eq_getElem hjl]; exact HLL.out _ (List.getElem_mem _)
          have hst := left_step hjl hyl
          have csb := Lib.hid fun V => sub_any (left L j) (L.getD j 0) (left_lt L j) hyl V
          rw [hst] at csb
          obtain ⟨y, hy⟩ : ∃ y, y = L.getD j 0 := ⟨_, rfl⟩
          rw [← hy] at hr csb
          obtain ⟨s, hs⟩ : ∃ s, s = left L j := ⟨_, rfl⟩
          rw [← hs] at K10 csb
          have HRG := Lib.hid hr
          have hz : wo.heap.size ≤ wr.heap.size := HB2.out.size
          have h9r : gx < wr.heap.size := block_lt K9.out
          have h10r : gs < wr.heap.size := block_lt K10.out
          clear hr hyl hst hy hs hnum hbl hjl
          go_wp2_with (first | refine wpList_load_nr rfl (.tmp 69) rfl bl (ol + j * 4) y rfl HRG.out ?_ | (refine wpList_store_nv rfl (.tmp 13) (.tmp 70) rfl wr.heap.size 0 y rfl rfl (heap_new wr _) (fun w13 h1 h2 h3 h4 => ?_); have K13 := Lib.hid h1; have K9' := Lib.hid ((h2 gx (by omega)).trans (keep_alloc _ K9.out)); have K10' := Lib.hid ((h2 gs (by omega)).trans (keep_alloc _ K10.out)); have B13 := Lib.hid (h4 wo.heap.size wo hz (below_alloc HB2.out _)); clear h1 h2 h3 h4) | refine wpList_load_nv rfl (.tmp 10) rfl gs s rfl K10'.out ?_ | refine wpList_load_nv rfl (.tmp 13) rfl wr.heap.size y rfl K13.out ?_)
          refine (csb.out _).mono ?_
          rintro e w14 ⟨rfl, hb14⟩
          have K9c := Lib.hid (block_keep hb14 K9'.out); have K10c := Lib.hid (block_keep hb14 K10'.out); have B14 := Lib.hid (below_next B13.out hb14)
          have h910 : gx ≠ gs := by omega
          clear hb14 K9' K10' K13 B13 csb
          go_wp2_with (first | (refine wpList_store_nv rfl (.tmp 10) (.tmp 75) rfl gs s (left L (j + 1)) rfl rfl K10c.out (fun w15 h1 h2 h3 h4 => ?_); have K10d := Lib.hid h1; have K9d := Lib.hid ((h2 gx h910).trans K9c.out); have B15 := Lib.hid (h4 wo.heap.size wo (by omega) B14.out); clear h1 h2 h3 h4))
          go_roundg (k - (j + 1))
          case measure => have := HG.out; omega
          case rel => exact ⟨j + 1, rfl, by omega, by go_num, K9d.out, K10d.out, B15.out⟩
        · obtain rfl : j = k := by omega
          have e0 : left L j = 0 := by rw [← HLN.out]; exact left_end L
          rw [e0] at K10
          have cm := Lib.hid fun V => mul_any X HXL.out (n : Int) (by omega) (by have := HNN.out; omega) V
          rw [Int.toNat_natCast] at cm
          obtain ⟨P, hP⟩ : ∃ P, P = X * n % 2 ^ 256 := ⟨_, rfl⟩
          obtain ⟨o, ho⟩ : ∃ o, o = decide (2 ^ 256 ≤ X * n) := ⟨_, rfl⟩
          rw [← hP, ← ho] at cm
          have HPP := Lib.hid hP; have HO := Lib.hid ho
          have HPL : Hid (P < 2 ^ 256) := Lib.hid (by rw [hP]; exact Nat.mod_lt _ (by omega))
          clear e0 hP ho hlt HG HR
          go_wp2_with (first | refine wpList_load_nv rfl (.tmp 9) rfl gx X rfl K9.out ?_)
          refine (cm.out _).mono ?_
          rintro e w16 ⟨rfl, hb16⟩
          have K9a := Lib.hid (keep_alloc (nbk 0) (block_keep hb16 K9.out)); have K10a := Lib.hid (keep_alloc (nbk 0) (block_keep hb16 K10.out)); have B16 := Lib.hid (below_alloc (below_next HB2.out hb16) (nbk 0))
          have hz16 : wo.heap.size ≤ w16.heap.size := by have := HB2.out.size; have := hb16.size; omega
          have h9r : gx < w16.heap.size := block_lt (block_keep hb16 K9.out)
          have h10r : gs < w16.heap.size := block_lt (block_keep hb16 K10.out)
          clear hb16 K9 K10 cm
          go_wp2_with (first | (refine wpList_store_nv rfl (.tmp 14) (.tmp 82) rfl w16.heap.size 0 P rfl rfl (heap_new w16 _) (fun w17 h1 h2 h3 h4 => ?_); have K14 := Lib.hid h1; have K9b := Lib.hid ((h2 gx (by omega)).trans K9a.out); have K10b := Lib.hid ((h2 gs (by omega)).trans K10a.out); have B17 := Lib.hid (h4 wo.heap.size wo hz16 B16.out); clear h1 h2 h3 h4) | refine wpList_load_nv rfl (.tmp 10) rfl gs 0 rfl K10b.out ?_)
          obtain ⟨gp, hgp⟩ : ∃ g, g = w16.heap.size := ⟨_, rfl⟩
          rw [← hgp] at K14 hz16 h9r h10r
          simp only [← hgp]
          clear hgp K9a K10a B16
          refine (zero_any 0 (by omega) _).mono ?_
          rintro e w18 ⟨rfl, hb18⟩
          rw [decide_eq_true (rfl : (0 : Nat) = 0)]
          have K9c := Lib.hid (block_keep hb18 K9b.out); have K14c := Lib.hid (block_keep hb18 K14.out); have B18 := Lib.hid (below_next B17.out hb18)
          clear hb18 K9b K10b K14 B17
          by_cases hn0 : n = 0
          · subst hn0
            have hP0 : P = 0 := by rw [HPP.out, Nat.mul_zero, Nat.zero_mod]
            have ho0 : o = false := by rw [HO.out, Nat.mul_zero]; rfl
            subst hP0
            subst ho0
            go_wp2_with (first | refine wpList_load_nv rfl (.tmp 14) rfl gp 0 rfl K14c.out ?_ | (refine wpList_unguard rfl ?_; refine wpList_load_nv rfl (.tmp 14) rfl gp 0 rfl K14c.out ?_))
            refine (zero_any 0 (by omega) _).mono ?_
            rintro e w19 ⟨rfl, hb19⟩
            rw [decide_eq_true (rfl : (0 : Nat) = 0)]
            have B19 := Lib.hid (below_next BW.out (below_next B18.out hb19))
            clear hb19
            go_wp2_with fail
            go_ret
            exact ⟨rfl, B19.out⟩
          · have hne : ((n : Int) == 0) = false := by simpa using hn0
            have BX := Lib.hid (below_next BW.out B18.out)
            have HN0 := Lib.hid hn0
            clear hn0
            cases o
            · have hPX : P = X * n := by rw [HPP.out, Nat.mod_eq_of_lt (by have := HO.out; simp at this; omega)]
              have cd : Hid (∀ V, Calls Try.prog 61 #[nv P, nv n] V fun e w' => e = .returned (.tuple #[nv X, nv 0, .int .i64 0]) ∧ Below V.heap.size V w') := Lib.hid fun V => by
                have h := div_walk P n HPL.out (by have := HNN.out; omega) HN0.out V
                rw [hPX, Nat.mul_div_cancel _ (Nat.pos_of_ne_zero HN0.out), Nat.mul_mod_left] at h
                rw [hPX]; exact h
              have co := Lib.hid fun V => of_nat n V HNN.out
              obtain ⟨V9, rfl⟩ : ∃ V : World, V = w18 := ⟨_, rfl⟩
              clear hPX
              go_wp2_with fail
              refine wp_region_z 10 [6, 7] (fun j => decide (j = 8) || decide (j = 9) || false) [Is (nv P), Is (.int .u64 n), Is (nv n), Is (.tuple #[nv X, nv 0, .int .i64 0]), Is (.tuple #[nv X, nv 0, .int .i64 0]), Is (nv X), Is (nv 0), Is (.int .i64 0), BoxOf (nbk 0), BoxOf (nbk 0)] [[], [], [(1, some 103)], [(0, some 102), (2, some 104)], [(3, some 105)], [(4, some 101)], [(4, some 101)], [(4, some 101)], [], [], [(5, some 106), (8, some 16)], [(6, some 107), (9, some 17)], [(7, some 108)]] [(0, some 102), (1, some 103), (2, some 104), (3, some 105), (4, some 101), (5, some 106), (6, some 107), (7, some 108), (8, some 16), (9, some 17)] [0, 0, 2, 7, 15, 31, 31, 31, 0, 0, 831, 1919, 4095]
                (by kernel_rfl) (by kernel_rfl) (by kernel_rfl) (by kernel_rfl) (by kernel_rfl) ⟨Is.kept _, Is.kept _, Is.kept _, Is.kept _, Is.kept _, Is.kept _, Is.kept _, Is.kept _, BoxOf.kept _, BoxOf.kept _, trivial⟩ ⟨?_, ?_, trivial⟩ ⟨?_, ?_, ?_, ?_, ?_, ?_, ?_, ?_, ?_, ?_, trivial⟩ ?_
              · as_aux_lemma =>
                refine fun w' hB => (show onP _ w' [(4, some 101)] _ _ from ?_)
                refine fun v4 h4 => ?_
                obtain rfl := h4
                exact ⟨_, nv 0, rfl, Or.inl ⟨by rfl, fun w => by go_simp⟩⟩
              · as_aux_lemma =>
                refine fun w' hB => (show onP _ w' [(4, some 101)] _ _ from ?_)
                refine fun v4 h4 => ?_
                obtain rfl := h4
                exact ⟨_, .int .i64 0, rfl, Or.inl ⟨by rfl, fun w => by go_simp⟩⟩
              · as_aux_lemma =>
                refine fun w' hB => ?_
                show wpList _ _ _ _ _ _
                go_wp2_with (first | refine wpList_load_nv rfl (.tmp 14) rfl gp P rfl (block_keep hB K14c.out) ?_)
                exact ⟨nv P, rfl, rfl, Below.refl _ _, fun h => absurd h (by decide)⟩
              · as_aux_lemma =>
                refine fun w' hB => ?_
                show wpList _ _ _ _ _ _
                go_wp2_with fail
                exact ⟨.int .u64 n, by first | rfl | (go_simp; done), rfl, Below.refl _ _, fun h => absurd h (by decide)⟩
              · as_aux_lemma =>
                refine fun w' hB v1 h1 => ?_
                obtain rfl := h1
                show wpList _ _ _ _ _ _
                go_wp2_with fail
                refine (co.out w').mono ?_
                rintro e w2 ⟨rfl, hb2⟩
                go_wp2_with fail
                exact ⟨nv n, by first | rfl | (go_simp; done), rfl, hb2, fun h => absurd h (by decide)⟩
              · as_aux_lemma =>
                refine fun w' hB v0 h0 v2 h2 => ?_
                obtain rfl := h0
                obtain rfl := h2
                show wpList _ _ _ _ _ _
                go_wp2_with fail
                refine (cd.out w').mono ?_
                rintro e w2 ⟨rfl, hb2⟩
                go_wp2_with fail
                exact ⟨.tuple #[nv X, nv 0, .int .i64 0], by first | rfl | (go_simp; done), rfl, hb2, fun h => absurd h (by decide)⟩
              · as_aux_lemma =>
                refine fun w' hB v3 h3 => ?_
                obtain rfl := h3
                show wpList _ _ _ _ _ _
                go_wp2_with fail
                exact ⟨.tuple #[nv X, nv 0, .int .i64 0], by first | rfl | (go_simp; done), rfl, Below.refl _ _, fun h => absurd h (by decide)⟩
              · as_aux_lemma =>
                refine fun w' hB v4 h4 => ?_
                obtain rfl := h4
                show wpList _ _ _ _ _ _
                go_wp2_with fail
                exact ⟨nv X, by first | rfl | (go_simp; done), rfl, Below.refl _ _, fun h => absurd h (by decide)⟩
              · as_aux_lemma =>
                refine fun w' hB v4 h4 => ?_
                obtain rfl := h4
                show wpList _ _ _ _ _ _
                go_wp2_with fail
                exact ⟨nv 0, by first | rfl | (go_simp; done), rfl, Below.refl _ _, fun h => absurd h (by decide)⟩
              · as_aux_lemma =>
                refine fun w' hB v4 h4 => ?_
                obtain rfl := h4
                show wpList _ _ _ _ _ _
                go_wp2_with fail
                exact ⟨.int .i64 0, by first | rfl | (go_simp; done), rfl, Below.refl _ _, fun h => absurd h (by decide)⟩
              · as_aux_lemma =>
                refine fun w' hB => ?_
                show wpList _ _ _ _ _ _
                go_wp2_with fail
                exact ⟨_, rfl, ⟨_, rfl, heap_new _ _⟩, below_alloc (Below.refl _ _) _, fun _ => ⟨_, rfl, Nat.le_refl _, by simp⟩⟩
              · as_aux_lemma =>
                refine fun w' hB => ?_
                show wpList _ _ _ _ _ _
                go_wp2_with fail
                exact ⟨_, rfl, ⟨_, rfl, heap_new _ _⟩, below_alloc (Below.refl _ _) _, fun _ => ⟨_, rfl, Nat.le_refl _, by simp⟩⟩
              · refine fun w' G hB hN1 hN2 v0 h0 v1 h1 v2 h2 v3 h3 v4 h4 v5 h5 v6 h6 v7 h7 v8 h8 v9 h9 => ?_
                replace h0 := h0.1
                replace h1 := h1.1
                replace h2 := h2.1
                replace h3 := h3.1
                replace h4 := h4.1
                replace h5 := h5.1
                replace h6 := h6.1
                replace h7 := h7.1
                obtain ⟨h8, hG8⟩ := h8; replace hG8 := hG8 (by decide)
                obtain ⟨h9, hG9⟩ := h9; replace hG9 := hG9 (by decide)
                have hW8 := hN1 8 (by decide) (by decide)
                have hW9 := hN1 9 (by decide) (by decide)
                have hD8_9 := hN2 8 9 (by decide) (by decide) (by decide) (by decide) (by decide)
                clear hN1 hN2
                obtain rfl := h5
                obtain rfl := h6
                obtain rfl := h7
                obtain ⟨g8, rfl, hg8⟩ := h8
                obtain ⟨g9, rfl, hg9⟩ := h9
                obtain ⟨gn8, en8, hge8, hlt8⟩ := hW8
                obtain rfl := Option.some.inj (hG8.trans en8)
                obtain ⟨gn9, en9, hge9, hlt9⟩ := hW9
                obtain rfl := Option.some.inj (hG9.trans en9)
                have hne8_9 := fun e => hD8_9 (en8.trans ((congrArg some e).trans en9.symm))
                dsimp only at hge8 hlt8 hge9 hlt9 hne8_9
                clear en8 en9
                simp only [onP, List.drop_succ_cons, List.drop_zero]
                go_simp
                clear h0 h1 h2 h3 h4
                have K9d := Lib.hid (block_keep hB K9c.out)
                have B29 := Lib.hid (below_next BX.out hB)
                have hxl : gx < V9.heap.size := block_lt K9c.out
                have h98 : g9 ≠ g8 := fun e => hne8_9 e.symm
                have hwx : w.heap.size ≤ V9.heap.size := BX.out.size
                clear hB
                go_wp2_with (first | (refine wpList_store_nv rfl (.tmp 16) (.tmp 106) rfl g8 0 X rfl rfl hg8 (fun w30 h1 h2 h3 h4 => ?_); have K16 := Lib.hid h1; have K17z := Lib.hid ((h2 g9 h98).trans hg9); have K9e := Lib.hid ((h2 gx (by omega)).trans K9d.out); have B30 := Lib.hid (h4 w.heap.size w (by omega) B29.out); clear h1 h2 h3 h4) | (refine wpList_store_nv rfl (.tmp 17) (.tmp 107) rfl g9 0 0 rfl rfl K17z.out (fun w31 h1 h2 h3 h4 => ?_); have K17 := Lib.hid h1; have K16b := Lib.hid ((h2 g8 (Ne.symm h98)).trans K16.out); have K9f := Lib.hid ((h2 gx (by omega)).trans K9e.out); have BZ := Lib.hid (h4 w.heap.size w (by omega) B30.out); clear h1 h2 h3 h4))
                dsimp only [QN]
                go_wp2_with (first | refine wpList_load_nv rfl (.tmp 16) rfl g8 X rfl K16b.out ?_ | refine wpList_load_nv rfl (.tmp 9) rfl gx X rfl K9f.out ?_ | refine wpList_load_nv rfl (.tmp 17) rfl g9 0 rfl K17.out ?_ | (refine wpList_unguard rfl ?_; refine wpList_load_nv rfl (.tmp 17) rfl g9 0 rfl K17.out ?_))
                refine (zero_any 0 (by omega) _).mono ?_
                rintro e w32 ⟨rfl, hb20⟩
                rw [decide_eq_true (rfl : (0 : Nat) = 0)]
                have B20 := Lib.hid (below_next BZ.out hb20)
                clear hb20
                go_wp2_with fail
                go_ret
                exact ⟨rfl, B20.out⟩
            · go_wp2_with fail
              go_ret
              exact ⟨rfl, BX.out⟩

set_option maxRecDepth 100000 in
theorem WholeNumbers_lifted (os : Os) (started : os.Started) (H : Type) (enc : TypeId × Value → H) :
    ReturnsInHanded {} Try.checked os 15 .any (Rows.wholeNumbersSpec.pre6 enc Try.prog Try.f15 Rows.wholeNumbersRow.domain false) (Rows.wholeNumbersSpec.post enc Try.prog Try.f15 false true false false) := by
  refine returnsInHanded_of_change (C := Try.checked) own started (by kernel_rfl) Try.func15
    (ChangeSpec.witness6 (enc := enc) (C := Try.checked) false ⟨#[], #[.slice none 0 0, .int .u64 0], []⟩ 8 (by kernel_rfl) (by kernel_rfl) (by kernel_rfl) (by kernel_rfl)) ?_
  intro W base args ds gs before hval0 hW hcnd _
  have hval : ∀ (j : Nat) t v, Try.f15.params[j]? = some t → args[j]? = some v → Value.okWide Try.prog W .any base t v := hval0
  have hW' := hW
  obtain ⟨p, q, hA0, hV, rfl, hfz, hnd⟩ := hW
  have hA : DataW.TrodAll enc Try.prog W 0 (fun _ => true) true Try.f15.params.toList args.toList ds p := hA0
  rw [Try.params15] at hA hval
  obtain ⟨v0, vs0, d0, ds0, p0, q0, hargs, rfl, rfl, h0, r0⟩ := trodAll_cons hA
  obtain ⟨v1, vs1, d1, ds1, p1, q1, rfl, rfl, rfl, h1, r1⟩ := trodAll_cons r0
  obtain ⟨rfl, rfl, rfl⟩ := trodAll_nil r1
  obtain rfl : args = #[v0, v1] := by cases args; simp_all
  obtain ⟨rfl, rfl⟩ := trodVars_none hV
  have k0 := h0
  have lt0 := trod_lt_of h0
  obtain ⟨a0, cap0, l0, b0, rfl, c0⟩ := open_parts (hval 0 104 v0 rfl rfl) h0
  have k1 := h1
  have lt1 := trod_lt_of h1
  obtain ⟨a1, rfl, rfl, rfl, b1⟩ := open_int Try.underlying45 (hval 1 45 v1 rfl rfl) h1
  clear hA0 hval0
  refine (WholeNumbers_walk a0 cap0 l0 b0 a1 b1 W c0).mono fun e W' ⟨he, bel⟩ => ?_
  subst he
  exact ⟨_, rfl, _, _, _, [], _, [], hW', trodAll_mk1 (shut_bool (by kernel_rfl) _), (trodAll_cons_mk (Below.trod laidOut (by kernel_rfl) (of_decide_eq_true (by kernel_rfl)) k0 bel lt0) (trodAll_cons_mk (Below.trod laidOut (by kernel_rfl) (of_decide_eq_true (by kernel_rfl)) k1 bel lt1) trodAll_mk0)), rfl, bel.frame _, fun h => by cases h⟩

theorem WholeNumbers_closed : joinedFacts Try.prog 15 Try.f15 Rows.wholeNumbersSpec Rows.wholeNumbersRow = true := by
  simp only [joinedFacts, Bool.and_eq_true]
  repeat' apply And.intro
  all_goals first
    | (with_reducible exact head_enter)
    | (rw [head_make]; kernel_rfl)
    | (rw [head_lift]; kernel_rfl)
    | kernel_rfl

theorem WholeNumbers_holds : Rows.WholeNumbersSaid :=
  OpenClaim.holds_of_wide 15 Try.f15 rfl rfl rfl rfl rfl rfl rfl ⟨rfl, rfl, rfl, rfl, rfl⟩ rfl rfl rfl rfl rfl (by kernel_rfl) Try.func15 WholeNumbers_closed
    (of_decide_eq_true (by kernel_rfl)) (by unfold Func.isWrapper; rw [if_neg (of_decide_eq_false (by kernel_rfl))]; exact ⟨rfl, rfl⟩)
    (fun os started H enc _ => WholeNumbers_lifted os started H enc)
end Go.Proofs.Ytnbppbnjkmopeaa
