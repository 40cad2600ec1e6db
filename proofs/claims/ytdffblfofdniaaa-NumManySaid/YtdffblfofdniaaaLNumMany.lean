/- The law NumMany: many numbers added at once are so one after the other, in any order. No condition. -/
import Derived.Test.YtdffblfofdniaaaNumLawA
import Derived.Test.YtdffblfofdniaaaOpenMore
import Derived.Test.YtdffblfofdniaaaHead
namespace Go.Proofs.Ytdffblfofdniaaa
open Go.ChangeShapes Go.WideShapes Go.ChangeAt Go.RowKit

theorem addAll_from (xs : List Nat) : ∀ p : Nat × Bool, p.1 < 2 ^ 256 → (xs.foldl addStep p).1 = (p.1 + xs.sum) % 2 ^ 256 := by
  induction xs with
  | nil => intro p h; simp [Nat.mod_eq_of_lt h]
  | cons x xs ih =>
    intro p h
    rw [List.foldl_cons, ih _ (by unfold addStep; exact Nat.mod_lt _ (by omega)), List.sum_cons]
    unfold addStep
    simp only
    omega
theorem addAll_sum (xs : List Nat) : (addAll xs).1 = xs.sum % 2 ^ 256 := by
  unfold addAll
  rw [addAll_from xs _ (by simp)]; simp
theorem addAll_lt (xs : List Nat) : (addAll xs).1 < 2 ^ 256 := by rw [addAll_sum]; exact Nat.mod_lt _ (by omega)
theorem addAll_back (xs : List Nat) : (addAll xs.reverse).1 = (addAll xs).1 := by rw [addAll_sum, addAll_sum, List.sum_reverse]
/-- the sum of the last k -/
def backs (xs : List Nat) (k : Nat) : Nat := (addAll (xs.reverse.take k)).1
theorem backs_lt (xs : List Nat) (k : Nat) : backs xs k < 2 ^ 256 := addAll_lt _
theorem backs_step (xs : List Nat) (k : Nat) (h : k < xs.length) : backs xs (k + 1) = (xs.getD (xs.length - 1 - k) 0 + backs xs k) % 2 ^ 256 := by
  unfold backs
  rw [addAll_snoc _ _ (by simpa using h)]
  unfold addStep
  simp only
  rw [Nat.add_comm]
  congr 2
  simp [List.getD, List.getElem?_reverse h]
theorem backs_all (xs : List Nat) : backs xs xs.length = (addAll xs).1 := by
  unfold backs
  rw [List.take_of_length_le (by simp), addAll_back]

set_option maxRecDepth 100000 in
theorem add_nil (x : Option Addr) (cap : Nat) (w : World) : Calls Try.prog 21 #[.slice x 0 cap] w fun e w' => e = .returned (.tuple #[nv 0, .bool false]) ∧ Below w.heap.size w w' := by
  go_enter Try.func21, Try.ntmps21
  go_wp2_with fail
  refine wp_loop_rounds 1 ?_
  rw [rounds_succ]
  go_wp2_with fail
  exact bodyPost_ret (v := .tuple #[.agg #[.int .u64 0, .int .u64 0, .int .u64 0, .int .u64 0], .bool false]) (by simp [results, Try.results21, go_sem]) rfl ⟨rfl, (by repeat' (first | (with_reducible exact Below.refl _ _) | (with_reducible assumption) | (with_reducible refine below_alloc ?_ _) | (with_reducible refine Below.drew ?_) | (with_reducible refine below_drewN ?_ _) | (with_reducible refine Below.setCell ?_ ?_ _) | go_size))⟩

theorem add_list (x : Option Addr) (cap : Nat) (l : List Nat) (hl : ∀ x ∈ l, x < 2 ^ 256) (hn : l.length ≤ 1000000) (w : World) (hx : l ≠ [] → ∃ b o, x = some ⟨b, o, none⟩ ∧ b < w.heap.size ∧ NumsAt w b o l) :
    Calls Try.prog 21 #[.slice x l.length cap] w fun e w' => e = .returned (.tuple #[nv (addAll l).1, .bool (addAll l).2]) ∧ Below w.heap.size w w' := by
  by_cases h : l = []
  · subst h; exact add_nil x cap w
  · obtain ⟨b, o, rfl, hb, hc⟩ := hx h
    exact add_row l b o cap w hl hn hb hc

attribute [local irreducible] backs addAll
set_option maxRecDepth 100000 in
set_option maxHeartbeats 4000000 in
theorem NumMany_walk (x : Option Addr) (cap : Nat) (l : List Nat) (hl : ∀ x ∈ l, x < 2 ^ 256) (w : World) (hx : l ≠ [] → ∃ b o, x = some ⟨b, o, none⟩ ∧ b < w.heap.size ∧ NumsAt w b o l) :
    Calls Try.prog 4 #[.slice x l.length cap] w fun e w' => e = .returned (.bool true) ∧ Below w.heap.size w w' := by
  have HL := Lib.hid hl; have HX := Lib.hid hx
  clear hl hx
  obtain ⟨n, hn⟩ : ∃ n, n = l.length := ⟨_, rfl⟩
  have B : Below w.heap.size w w := Below.refl _ _
  have cl : Hid (n ≤ 50 → ∀ w1, Below w.heap.size w w1 → Calls Try.prog 21 #[.slice x n cap] w1 fun e w' => e = .returned (.tuple #[nv (addAll l).1, .bool (addAll l).2]) ∧ Below w1.heap.size w1 w') := Lib.hid fun h w1 hb => by
    rw [hn]
    refine add_list x cap l HL.out (by omega) w1 fun hne => ?_
    obtain ⟨b, o, e, hbs, hc⟩ := HX.out hne
    exact ⟨b, o, e, Nat.lt_of_lt_of_le hbs hb.size, fun i hi j hj => (hb.cell (p := ⟨b, _, none⟩) hbs).trans (hc i hi j hj)⟩
  rw [← hn]
  have HNN := Lib.hid hn
  clear hn
  go_enter Try.func4, Try.ntmps4
  go_wp2_with fail
  refine (counts_any _).mono ?_
  rintro e w1 ⟨rfl, hb1⟩
  have B' := below_next (w := w) (by repeat' (first | (with_reducible exact Below.refl _ _) | (with_reducible assumption) | (with_reducible refine below_alloc ?_ _) | (with_reducible refine Below.drew ?_) | (with_reducible refine below_drewN ?_ _) | (with_reducible refine Below.setCell ?_ ?_ _) | go_size)) hb1
  clear hb1 B
  have B := B'
  clear B'
  by_cases h50 : 50 < n
  · have h50' : (50 : Int) < (n : Int) := by omega
    go_wp2_with fail
    go_ret
    exact ⟨rfl, (by repeat' (first | (with_reducible exact Below.refl _ _) | (with_reducible assumption) | (with_reducible refine below_alloc ?_ _) | (with_reducible refine Below.drew ?_) | (with_reducible refine below_drewN ?_ _) | (with_reducible refine Below.setCell ?_ ?_ _) | go_size))⟩
  · have h50' : ¬ (50 : Int) < (n : Int) := by omega
    go_wp2_with fail
    refine (cl.out (by omega) _ (by repeat' (first | (with_reducible exact Below.refl _ _) | (with_reducible assumption) | (with_reducible refine below_alloc ?_ _) | (with_reducible refine Below.drew ?_) | (with_reducible refine below_drewN ?_ _) | (with_reducible refine Below.setCell ?_ ?_ _) | go_size))).mono ?_
    rintro e w2 ⟨rfl, hb2⟩
    have B' := below_next (w := w) (by repeat' (first | (with_reducible exact Below.refl _ _) | (with_reducible assumption) | (with_reducible refine below_alloc ?_ _) | (with_reducible refine Below.drew ?_) | (with_reducible refine below_drewN ?_ _) | (with_reducible refine Below.setCell ?_ ?_ _) | go_size)) hb2
    clear hb2 B cl
    have B := B'
    clear B'
    have hz2 : w.heap.size ≤ w2.heap.size := B.size
    have HS := Lib.hid (addAll_lt l)
    obtain ⟨S, hS⟩ : ∃ S, S = (addAll l).1 := ⟨_, rfl⟩
    obtain ⟨O, hO⟩ : ∃ O, O = (addAll l).2 := ⟨_, rfl⟩
    rw [← hS] at HS
    rw [← hS, ← hO]
    have ES := Lib.hid hS; have EO := Lib.hid hO
    clear hS hO
    have A := alloc3 w2 (nblk S) zblk zblk
    have K0 := Lib.hid A.1; have K1 := Lib.hid A.2.1; have K2 := Lib.hid A.2.2
    clear A
    go_wp2_with fail
    go_loopw [6, 25] (fun ov ix wr => ∃ k : Nat, k ≤ n ∧ ix = .int .i64 k ∧ ov = .bool (addAll (l.take k)).2 ∧ wr.heap[w2.heap.size]? = some (nblk S) ∧ wr.heap[w2.heap.size + 1]? = some (nblk (addAll (l.take k)).1) ∧ wr.heap[w2.heap.size + 1 + 1]? = some (nblk (backs l k)) ∧ Below w.heap.size w wr) (fun _ ix _ => n - (intOf ix).toNat)
    case atStart =>
      have e0 : addAll (l.take 0) = (0, false) := by unfold addAll; rfl
      have e1 : backs l 0 = 0 := by unfold backs addAll; rfl
      refine ⟨0, Nat.zero_le _, rfl, ?_, K0.out, ?_, ?_, (by repeat' (first | (with_reducible exact Below.refl _ _) | (with_reducible assumption) | (with_reducible refine below_alloc ?_ _) | (with_reducible refine Below.drew ?_) | (with_reducible refine below_drewN ?_ _) | (with_reducible refine Below.setCell ?_ ?_ _) | go_size))⟩
      · rw [e0]
      · rw [e0]; exact K1.out
      · rw [e1]; exact K2.out
    case round =>
      obtain ⟨k, hk, rfl, rfl, hr0, hr1, hr2, B⟩ := hrel
      have K0' := Lib.hid hr0; have K1' := Lib.hid hr1; have K2' := Lib.hid hr2
      clear hr0 hr1 hr2 K0 K1 K2
      have K0 := K0'; have K1 := K1'; have K2 := K2'
      clear K0' K1' K2'
      obtain ⟨K0_0, K0_1, K0_2, K0_3, K0_f, K0_z⟩ := cells4 K0.out
      obtain ⟨K1_0, K1_1, K1_2, K1_3, K1_f, K1_z⟩ := cells4 K1.out
      obtain ⟨K2_0, K2_1, K2_2, K2_3, K2_f, K2_z⟩ := cells4 K2.out
      by_cases hlt : k < n
      · have hkl : k < l.length := by rw [← HNN.out]; exact hlt
        obtain ⟨b, o, rfl, hbs, hnum⟩ := HX.out (by intro h; rw [h] at hkl; simp at hkl)
        have hst := addAll_snoc l k hkl
        unfold addStep at hst
        have hbk := backs_step l k hkl
        have hM := addAll_lt (l.take k)
        have hX : l.getD k 0 < 2 ^ 256 := by rw [List.getD_eq_getElem?_getD, List.getElem?_eq_getElem hkl]; exact HL.out _ (List.getElem_mem hkl)
        obtain ⟨j, hj⟩ : ∃ j, j = l.length - 1 - k := ⟨_, rfl⟩
        rw [← hj] at hbk
        have hjl : j < l.length := by omega
        have hY : l.getD j 0 < 2 ^ 256 := by rw [List.getD_eq_getElem?_getD, List.getElem?_eq_getElem hjl]; exact HL.out _ (List.getElem_mem hjl)
        have hBk := backs_lt l k
        generalize hq : addAll (l.take k) = q at *
        obtain ⟨M, O2⟩ := q
        simp only at hst hM
        have d0 : wr.cell? ⟨b, o + k * 4, none⟩ = _ := (B.cell (p := ⟨b, o + k * 4, none⟩) hbs).trans (hnum k hkl 0 (by omega))
        have d1 := (B.cell (p := ⟨b, o + k * 4 + 1, none⟩) hbs).trans (hnum k hkl 1 (by omega))
        have d2 := (B.cell (p := ⟨b, o + k * 4 + 2, none⟩) hbs).trans (hnum k hkl 2 (by omega))
        have d3 := (B.cell (p := ⟨b, o + k * 4 + 3, none⟩) hbs).trans (hnum k hkl 3 (by omega))
        have HN := Lib.hid (show b < w.heap.size ∧ NumsAt w b o l from ⟨hbs, hnum⟩)
        generalize hX' : l.getD k 0 = X at *
        generalize hY' : l.getD j 0 = Y at *
        have EY := Lib.hid hY'
        have ej : IntKind.i64.wrap ((n : Int) - 1) = (n : Int) - 1 := IntWalk.i64_in _ (by omega)
        have ej2 : (n : Int) - 1 - (k : Int) = (j : Int) := by have := HNN.out; omega
        have HM := Lib.hid hM; have HXX := Lib.hid hX; have HY := Lib.hid hY; have HB := Lib.hid hBk; have HST := Lib.hid hst; have HBK := Lib.hid hbk; have HJ := Lib.hid (show j < n by have := HNN.out; omega)
        clear hM hX hY hBk hst hbk hX' hY' hbs hnum hj hjl hkl
        go_wp2_with fail
        have Kx := Lib.hid (heap_new wr (nblk X))
        have Ka := Lib.hid (keep_alloc (nblk X) K0.out); have Kb := Lib.hid (keep_alloc (nblk X) K1.out); have Kc := Lib.hid (keep_alloc (nblk X) K2.out)
        clear K0 K1 K2 K0_0 K0_1 K0_2 K0_3 K0_f K0_z K1_0 K1_1 K1_2 K1_3 K1_f K1_z K2_0 K2_1 K2_2 K2_3 K2_f K2_z
        refine (add2_any M X HM.out HXX.out _ _ _ (alloc2 _ _ _).2).mono ?_
        rintro e w3 ⟨rfl, hb3⟩
        have K0 := Lib.hid (below_keep hb3 (keep_alloc _ Ka.out)); have K1 := Lib.hid (below_keep hb3 (keep_alloc _ Kb.out)); have K2 := Lib.hid (below_keep hb3 (keep_alloc _ Kc.out))
        have B2 := below_next (w := w) (by repeat' (first | (with_reducible exact Below.refl _ _) | (with_reducible assumption) | (with_reducible refine below_alloc ?_ _) | (with_reducible refine Below.drew ?_) | (with_reducible refine below_drewN ?_ _) | (with_reducible refine Below.setCell ?_ ?_ _) | go_size)) hb3
        clear hb3 B Ka Kb Kc Kx d0 d1 d2 d3
        have B := B2
        clear B2
        obtain ⟨K0_0, K0_1, K0_2, K0_3, K0_f, K0_z⟩ := cells4 K0.out
        obtain ⟨K1_0, K1_1, K1_2, K1_3, K1_f, K1_z⟩ := cells4 K1.out
        obtain ⟨K2_0, K2_1, K2_2, K2_3, K2_f, K2_z⟩ := cells4 K2.out
        generalize (M + X) % 2 ^ 256 = M2 at *
        generalize decide (2 ^ 256 ≤ M + X) = o2 at *
        go_wp2_with fail
        all_goals
          refine wp_abs (fun W => W.heap[w2.heap.size]? = some (nblk S) ∧ W.heap[w2.heap.size + 1]? = some (nblk M2) ∧ W.heap[w2.heap.size + 1 + 1]? = some (nblk (backs l k)) ∧ Below w.heap.size w W)
            ⟨(set4_other _ _ _ _ (by omega)).trans K0.out, set4 _ _ _ _ K1.out, (set4_other _ _ _ _ (by omega)).trans K2.out, (by repeat' (first | (with_reducible exact Below.refl _ _) | (with_reducible assumption) | (with_reducible refine below_alloc ?_ _) | (with_reducible refine Below.drew ?_) | (with_reducible refine below_drewN ?_ _) | (with_reducible refine Below.setCell ?_ ?_ _) | go_size))⟩ ?_
          clear K0 K1 K2 K0_0 K0_1 K0_2 K0_3 K0_f K0_z K1_0 K1_1 K1_2 K1_3 K1_f K1_z K2_0 K2_1 K2_2 K2_3 K2_f K2_z B
          rintro V ⟨k0, k1, k2, B⟩
          have K0 := Lib.hid k0; have K1 := Lib.hid k1; have K2 := Lib.hid k2
          clear k0 k1 k2
          have hnum := HN.out.2; have hbs := HN.out.1
          have hjl : j < l.length := by have := HJ.out; have := HNN.out; omega
          have d0 : V.cell? ⟨b, o + j * 4, none⟩ = _ := (B.cell (p := ⟨b, o + j * 4, none⟩) hbs).trans (hnum j hjl 0 (by omega))
          have d1 := (B.cell (p := ⟨b, o + j * 4 + 1, none⟩) hbs).trans (hnum j hjl 1 (by omega))
          have d2 := (B.cell (p := ⟨b, o + j * 4 + 2, none⟩) hbs).trans (hnum j hjl 2 (by omega))
          have d3 := (B.cell (p := ⟨b, o + j * 4 + 3, none⟩) hbs).trans (hnum j hjl 3 (by omega))
          rw [EY.out] at d0 d1 d2 d3
          obtain ⟨K2_0, K2_1, K2_2, K2_3, K2_f, K2_z⟩ := cells4 K2.out
          have hbk := HBK.out
          obtain ⟨o4, ho4⟩ : ∃ o4, o4 = decide (2 ^ 256 ≤ Y + backs l k) := ⟨_, rfl⟩
          have cadd : ∀ g t w, w.heap[g]? = some (.cells #[.int .u64 (lw Y 0), .int .u64 (lw Y 1), .int .u64 (lw Y 2), .int .u64 (lw Y 3), .int .u64 (lw (backs l k) 0), .int .u64 (lw (backs l k) 1), .int .u64 (lw (backs l k) 2), .int .u64 (lw (backs l k) 3)] t (0, 0)) →
              Calls Try.prog 21 #[.slice (some ⟨g, 0, none⟩) 2 2] w fun e w' => e = .returned (.tuple #[nv (backs l (k + 1)), .bool o4]) ∧ Below w.heap.size w w' := fun g t w h => by
            have := add2_any Y (backs l k) HY.out HB.out g t w h
            rwa [← hbk, ← ho4] at this
          have ca1 := Lib.hid fun W t => cadd _ t _ (heap_new W _)
          have ca2 := Lib.hid fun (W : World) t => cadd W.heap.size t (World.drew (W.alloc _)) (heap_new W _)
          clear cadd ho4 hbk hnum hbs hjl
          have hj0 : (0 : Int) ≤ (j : Int) := by omega
          have hjn : (j : Int) < (n : Int) := by have := HJ.out; omega
          have ej3 : IntKind.i64.wrap ((n : Int) - 1 - (k : Int)) = (j : Int) := by rw [ej2]; exact IntWalk.i64_in _ (by have := HJ.out; omega)
          clear ej2
          go_region_with ((go_at_call 21; (first | refine (ca2.out _ _).mono ?_ | refine (ca1.out _ _).mono ?_); rintro e wy ⟨rfl, hby⟩; have hSy := below_next (w := w) (by repeat' (first | (with_reducible exact Below.refl _ _) | (with_reducible assumption) | (with_reducible refine below_alloc ?_ _) | (with_reducible refine Below.drew ?_) | (with_reducible refine below_drewN ?_ _) | (with_reducible refine Below.setCell ?_ ?_ _) | go_size)) hby; have hzy := hSy.size; have Y0 := Lib.hid (below_keep hby (keep_alloc _ K0.out)); have Y1 := Lib.hid (below_keep hby (keep_alloc _ K1.out)); have Y2 := Lib.hid (below_keep hby (keep_alloc _ K2.out)); obtain ⟨Y2_0, Y2_1, Y2_2, Y2_3, Y2_f, Y2_z⟩ := cells4 Y2.out))
          all_goals
            clear ej ej3
            go_wp2_with fail
            go_roundw
            case rel =>
              refine ⟨k + 1, by omega, by go_num, ?_, ?_, ?_, ?_, (by repeat' (first | (with_reducible exact Below.refl _ _) | (with_reducible assumption) | (with_reducible refine below_alloc ?_ _) | (with_reducible refine Below.drew ?_) | (with_reducible refine below_drewN ?_ _) | (with_reducible refine Below.setCell ?_ ?_ _) | go_size))⟩
              · rw [HST.out]
                first
                  | (have hO : O2 = true := by assumption
                     rw [hO]; rfl)
                  | (have hO : ¬ O2 = true := by assumption
                     rw [Bool.eq_false_iff.2 hO]; rfl)
              · exact (set4_other _ _ _ _ (by omega)).trans Y0.out
              · rw [HST.out]; exact (set4_other _ _ _ _ (by omega)).trans Y1.out
              · exact set4 _ _ _ _ Y2.out
            case measure => simp [intOf]; omega
      · obtain rfl : k = n := by omega
        have et : l.take k = l := List.take_of_length_le (by rw [← HNN.out]; exact Nat.le_refl _)
        have eb : backs l k = S := by rw [HNN.out, backs_all, ← ES.out]
        rw [et, ← ES.out] at K1 K1_0 K1_1 K1_2 K1_3
        rw [eb] at K2 K2_0 K2_1 K2_2 K2_3
        rw [et, ← EO.out]
        have qa : ∀ w : World, (Op.equalIn 10000 24 (nv S) (nv S)).run Try.prog w = .ok true w := fun w => by rw [eq_num S S HS.out HS.out w, decide_eq_true rfl]
        clear et eb
        go_wp2_with fail
        go_ret
        exact ⟨by simp, (by repeat' (first | (with_reducible exact Below.refl _ _) | (with_reducible assumption) | (with_reducible refine below_alloc ?_ _) | (with_reducible refine Below.drew ?_) | (with_reducible refine below_drewN ?_ _) | (with_reducible refine Below.setCell ?_ ?_ _) | go_size))⟩

set_option maxRecDepth 100000 in
theorem NumMany_lifted (os : Os) (started : os.Started) (H : Type) (enc : TypeId × Value → H) :
    ReturnsInHanded {} Try.checked os 4 .any (Rows.numManySpec.pre6 enc Try.prog Try.f4 Rows.numManyRow.domain false) (Rows.numManySpec.post enc Try.prog Try.f4 false true false false) := by
  refine returnsInHanded_of_change (C := Try.checked) own started (by kernel_rfl) Try.func4
    (ChangeSpec.witness6 (enc := enc) (C := Try.checked) false ⟨#[], #[.slice none 0 0], []⟩ 8 (by kernel_rfl) (by kernel_rfl) (by kernel_rfl) (by kernel_rfl)) ?_
  intro W base args ds gs before hval0 hW hcnd _
  have hval : ∀ (j : Nat) t v, Try.f4.params[j]? = some t → args[j]? = some v → Value.okWide Try.prog W .any base t v := hval0
  have hW' := hW
  obtain ⟨p, q, hA0, hV, rfl, hfz, hnd⟩ := hW
  have hA : DataW.TrodAll enc Try.prog W 0 (fun _ => true) true Try.f4.params.toList args.toList ds p := hA0
  rw [Try.params4] at hA hval
  obtain ⟨v0, vs0, d0, ds0, p0, q0, hargs, rfl, rfl, h0, r0⟩ := trodAll_cons hA
  obtain ⟨rfl, rfl, rfl⟩ := trodAll_nil r0
  obtain rfl : args = #[v0] := by cases args; simp_all
  obtain ⟨rfl, rfl⟩ := trodVars_none hV
  have k0 := h0
  have lt0 := trod_lt_of h0
  obtain ⟨a0, cap0, l0, b0, rfl, c0⟩ := open_nums (hval 0 41 v0 rfl rfl) h0
  clear hA0 hval0
  refine (NumMany_walk a0 cap0 l0 b0 W c0).mono fun e W' ⟨he, bel⟩ => ?_
  subst he
  exact ⟨_, rfl, _, _, _, [], _, [], hW', trodAll_mk1 (shut_bool (by kernel_rfl) _), (trodAll_cons_mk (Below.trod laidOut (by kernel_rfl) (of_decide_eq_true (by kernel_rfl)) k0 bel lt0) trodAll_mk0), rfl, bel.frame _, fun h => by cases h⟩

theorem NumMany_closed : joinedFacts Try.prog 4 Try.f4 Rows.numManySpec Rows.numManyRow = true := by
  simp only [joinedFacts, Bool.and_eq_true]
  repeat' apply And.intro
  all_goals first
    | (with_reducible exact head_enter)
    | (rw [head_make]; kernel_rfl)
    | (rw [head_lift]; kernel_rfl)
    | kernel_rfl

theorem NumMany_holds : Rows.NumManySaid :=
  OpenClaim.holds_of_wide 4 Try.f4 rfl rfl rfl rfl rfl rfl rfl ⟨rfl, rfl, rfl, rfl, rfl⟩ rfl rfl rfl rfl rfl (by kernel_rfl) Try.func4 NumMany_closed
    (of_decide_eq_true (by kernel_rfl)) (by unfold Func.isWrapper; rw [if_neg (of_decide_eq_false (by kernel_rfl))]; exact ⟨rfl, rfl⟩)
    (fun os started H enc _ => NumMany_lifted os started H enc)
end Go.Proofs.Ytdffblfofdniaaa
