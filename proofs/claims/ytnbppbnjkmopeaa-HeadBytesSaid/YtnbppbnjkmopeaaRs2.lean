/- tallystickref01.Sum: the words 16 to 63 of a block. No condition. tallystickref01.Sum: the rounds of a block. No condition. -/
import Derived.Test.YtnbppbnjkmopeaaRs1
import Derived.Deep.QuietTactic
import Derived.BigQuiet
import Derived.Test.YtnbppbnjkmopeaaReg
import Derived.StillTailTactics
namespace Go.Proofs.Ytnbppbnjkmopeaa
open Go.RowKit

def wjs (M : List Nat) (k : Nat) : List Nat := (List.range k).map (wj M)
theorem wjs_succ (M : List Nat) (k : Nat) : wjs M (k + 1) = wjs M k ++ [wj M k] := by simp [wjs, List.range_succ]
theorem wjs_len (M : List Nat) (k : Nat) : (wjs M k).length = k := by simp [wjs]
theorem wjs_get (M : List Nat) (k j : Nat) (h : j < k) : (wjs M k).getD j 0 = wj M j := by simp [wjs, h]
theorem wjs_16 {M : List Nat} (hM : M.length = 16) : wjs M 16 = M := by
  apply List.ext_getElem?
  intro j
  by_cases hj : j < 16
  · have := wj_low hM hj
    simp [wjs, hj]
    rw [this, List.getD_eq_getElem?_getD, List.getElem?_eq_getElem (by omega)]; rfl
  · rw [List.getElem?_eq_none (by rw [wjs_len]; omega), List.getElem?_eq_none (by omega)]

theorem turn_q (x : Nat) (r : Int) (hx : x < 4294967296) (h0 : 0 ≤ r) (h1 : r ≤ 32) (w : World) :
    Calls Try.prog 114 #[.int .u32 x, .int .i64 r] w fun e w' => e = .returned (.int .u32 (ror x r.toNat)) ∧ w' = w := by
  obtain ⟨n, rfl⟩ := Int.eq_ofNat_of_zero_le h0
  exact (turn_any x n hx (by omega) w).mono fun _ _ h => ⟨h.1, h.2.symm⟩
theorem low_q (x : Nat) (r : Int) (hx : x < 4294967296) (h0 : 0 ≤ r) (h1 : r ≤ 32) (w : World) :
    Calls Try.prog 115 #[.int .u32 x, .int .i64 r] w fun e w' => e = .returned (.int .u32 ((x : Int) / 2 ^ r.toNat)) ∧ w' = w := by
  obtain ⟨n, rfl⟩ := Int.eq_ofNat_of_zero_le h0
  refine (low_any x n hx (by omega) w).mono fun _ _ h => ⟨?_, h.2.symm⟩
  rw [h.1, Int.natCast_ediv, Int.natCast_pow]; rfl

set_option maxRecDepth 1000000 in
set_option maxHeartbeats 4000000 in
theorem loop48 (A : Array Value) (M : List Nat) (hM : M.length = 16) (hb : ∀ x ∈ M, x < 4294967296) (base : Nat) (v : Value) (w : World) (hbase : base ≤ w.heap.size) (hs : A.size = 306) (h9 : A[9]? = some v) (h13 : A[13]? = some (.int .i64 16)) (hO : OwnsU w base v M)
    (Q : Exit → Act → World → Prop)
    (hQ : ∀ A' w' v, Keeps A A' → A'[9]? = some v → OwnsU w' base v (wjs M 64) → Below base w w' → Q (.exit 10) ⟨A', []⟩ w') : Code.wp Try.prog (Code.loop (rsBody 5)) Q ⟨A, []⟩ w := by
  obtain ⟨f, rfl⟩ := lit306 A hs
  have e9 : f 9 = v := by simpa using h9
  have e13 : f 13 = .int .i64 16 := by simpa using h13
  clear h9 h13 hs
  have HQ := Lib.hid hQ
  have HL := Lib.hid (wj_lt hb)
  have HH := Lib.hid (@wj_high M)
  clear hQ hb
  conv => arg 2; arg 1; whnf
  rw [e9, e13]
  rw [← wjs_16 hM] at hO
  have HO0 := Lib.hid hO
  clear e9 e13 hM hO
  go_loopg [9, 13] 48 (fun g sv ix wr => ∃ k : Nat, g = 64 - k ∧ 16 ≤ k ∧ k ≤ 64 ∧ ix = .int .i64 k ∧ OwnsU wr base sv (wjs M k) ∧ Below base w wr)
  case atStart => exact ⟨16, rfl, by omega, by omega, rfl, HO0.out, Below.refl _ _⟩
  case round =>
    clear HO0
    obtain ⟨k, hg, hk0, hk, rfl, hO, B⟩ := hrel
    have HG := Lib.hid hg; have HB := Lib.hid B
    clear hg B
    obtain ⟨g, cap, rfl, hgb, hgs, hcell⟩ := hO.at (wjs_len M k) (by omega)
    have HO := Lib.hid hO
    clear hO
    by_cases hlt : k < 64
    · obtain ⟨k15, h15⟩ : ∃ k15, k15 = k - 15 := ⟨_, rfl⟩
      obtain ⟨k2, h2⟩ : ∃ k2, k2 = k - 2 := ⟨_, rfl⟩
      obtain ⟨k16, h16⟩ : ∃ k16, k16 = k - 16 := ⟨_, rfl⟩
      obtain ⟨k7, h7⟩ : ∃ k7, k7 = k - 7 := ⟨_, rfl⟩
      have c15 := hcell k15 (by omega); have c2 := hcell k2 (by omega); have c16 := hcell k16 (by omega); have c7 := hcell k7 (by omega)
      rw [wjs_get _ _ _ (by omega)] at c15 c2 c16 c7
      have HE := Lib.hid (HH.out k hk0 hlt)
      rw [← h15, ← h2, ← h16, ← h7] at HE
      have e15 : (k : Int) - 15 = (k15 : Int) := by omega
      have e2 : (k : Int) - 2 = (k2 : Int) := by omega
      have e16 : (k : Int) - 16 = (k16 : Int) := by omega
      have e7 : (k : Int) - 7 = (k7 : Int) := by omega
      have l15 : k15 < k := by omega
      have l2 : k2 < k := by omega
      have l16 : k16 < k := by omega
      have l7 : k7 < k := by omega
      have b15 := HL.out k15; have b2 := HL.out k2; have b16 := HL.out k16; have b7 := HL.out k7
      have s0 := sg0_bits b15
      have s1 := sg1_bits b2
      clear hcell h15 h2 h16 h7
      go_wp2_with fail
      go_quiet ((first | (go_at_call 114; exact Calls.quiet_of_same (turn_q _ _ (by first | exact b15 | exact b2) (by omega) (by omega) _)) | (go_at_call 115; exact Calls.quiet_of_same (low_q _ _ (by first | exact b15 | exact b2) (by omega) (by omega) _))))
      go_wp2_with fail
      refine wp_abs (fun W => OwnsU W base (.slice (some ⟨g, 0, none⟩) k cap) (wjs M k) ∧ Below base w W) ⟨HO.out.keep (below_drewN (Below.refl _ _) _), below_drewN HB.out _⟩ ?_
      clear c15 c2 c16 c7 HO HB hgs
      rintro W1 ⟨hO, hB⟩
      have HO := Lib.hid hO; have HB := Lib.hid hB
      have hcell := hO.cellAt (wjs_len M k)
      have c2 := hcell k2 (by omega); have c16 := hcell k16 (by omega); have c7 := hcell k7 (by omega)
      rw [wjs_get _ _ _ (by omega)] at c2 c16 c7
      clear hcell hO hB
      go_quiet ((first | (go_at_call 114; exact Calls.quiet_of_same (turn_q _ _ (by first | exact b2) (by omega) (by omega) _)) | (go_at_call 115; exact Calls.quiet_of_same (low_q _ _ (by first | exact b2) (by omega) (by omega) _))))
      go_wp2_with fail
      refine wp_abs (fun W => OwnsU W base (.slice (some ⟨g, 0, none⟩) k cap) (wjs M k) ∧ Below base w W) ⟨HO.out.keep (below_drewN (Below.refl _ _) _), below_drewN HB.out _⟩ ?_
      clear c2 c16 c7 HO HB
      rintro W2 ⟨hO, hB⟩
      have HO := Lib.hid hO; have HB := Lib.hid hB
      have hcell := hO.cellAt (wjs_len M k)
      have c2 := hcell k2 (by omega); have c16 := hcell k16 (by omega); have c7 := hcell k7 (by omega)
      rw [wjs_get _ _ _ (by omega)] at c2 c16 c7
      clear hcell hO hB
      clear s0 s1 b15 b2 c2
      have hgs := block_lt_of_cell c16
      have C16 := Lib.hid fun w' (hB : Below W2.heap.size W2 w') => (hB.cell (p := ⟨g, k16, none⟩) hgs).trans c16
      have C7 := Lib.hid fun w' (hB : Below W2.heap.size W2 w') => (hB.cell (p := ⟨g, k7, none⟩) hgs).trans c7
      have L15 := HL.out k15; have L2 := HL.out k2
      have S0 := sg0_lt L15; have S1 := sg1_lt L2
      clear c16 c7 hgs L15 L2
      generalize wj M k16 = x16 at *
      generalize wj M k7 = x7 at *
      generalize sg0 (wj M k15) = s0 at *
      generalize sg1 (wj M k2) = s1 at *
      obtain ⟨y1, h1⟩ : ∃ y1, y1 = add32 x16 s0 := ⟨_, rfl⟩
      obtain ⟨y2, h2⟩ : ∃ y2, y2 = add32 y1 x7 := ⟨_, rfl⟩
      obtain ⟨y3, h3⟩ : ∃ y3, y3 = add32 y2 s1 := ⟨_, rfl⟩
      have E1 : ((x16 : Int) + (s0 : Int)) % 4294967296 = (y1 : Int) := by rw [h1]; unfold add32; omega
      have E2 : ((y1 : Int) + (x7 : Int)) % 4294967296 = (y2 : Int) := by rw [h2]; unfold add32; omega
      have E3 : ((y2 : Int) + (s1 : Int)) % 4294967296 = (y3 : Int) := by rw [h3]; unfold add32; omega
      have Y1 : y1 < 4294967296 := by rw [h1]; exact add32_lt _ _
      have Y2 : y2 < 4294967296 := by rw [h2]; exact add32_lt _ _
      have Y3 : y3 < 4294967296 := by rw [h3]; exact add32_lt _ _
      rw [← h1, ← h2, ← h3] at HE
      have HW := Lib.hid (wjs_succ M k)
      rw [HE.out] at HW
      have HWL := Lib.hid (wjs_len M k)
      clear h1 h2 h3 HE
      refine wp_region_tail 17 [Is (.slice (some ⟨g, 0, none⟩) k cap), Is (.slice (some ⟨g, 0, none⟩) k cap), Is (.int .i64 k), Is (.int .i64 k16), Is (.pointer (some ⟨g, k16, none⟩)), Is (.int .u32 x16), Is (.int .u32 s0), Is (.int .u32 y1), Is (.slice (some ⟨g, 0, none⟩) k cap), Is (.int .i64 k), Is (.int .i64 k7), Is (.pointer (some ⟨g, k7, none⟩)), Is (.int .u32 x7), Is (.int .u32 y2), Is (.int .u32 s1), Is (.int .u32 y3), RowOf #[.int .u32 y3] 22 1 1] [[], [], [], [(2, some 133)], [(1, some 132), (3, some 134)], [(4, some 135)], [], [(5, some 136), (6, some 137)], [], [], [(9, some 140)], [(8, some 139), (10, some 141)], [(11, some 142)], [(7, some 138), (12, some 143)], [], [(13, some 144), (14, some 145)], [(15, some 146)], [(0, some 131), (16, some 147)], [(17, some 148)]] [(0, some 131), (1, some 132), (2, some 133), (3, some 134), (4, some 135), (5, some 136), (6, some 137), (7, some 138), (8, some 139), (9, some 140), (10, some 141), (11, some 142), (12, some 143), (13, some 144), (14, some 145), (15, some 146), (16, some 147)] [0, 0, 0, 4, 14, 30, 0, 126, 0, 0, 512, 1792, 3840, 8190, 0, 32766, 65534, 131071, 262143]
        (by kernel_rfl) (by kernel_rfl) (by kernel_rfl) (by kernel_rfl) (by kernel_rfl) ⟨Is.kept _, Is.kept _, Is.kept _, Is.kept _, Is.kept _, Is.kept _, Is.kept _, Is.kept _, Is.kept _, Is.kept _, Is.kept _, Is.kept _, Is.kept _, Is.kept _, Is.kept _, Is.kept _, RowOf.kept _ _ _ _, trivial⟩ ⟨?_, ?_, ?_, ?_, ?_, ?_, ?_, ?_, ?_, ?_, ?_, ?_, ?_, ?_, ?_, ?_, ?_, trivial⟩ ?_
      · as_aux_lemma =>
        refine fun w' hB => ?_
        show wpList _ _ _ _ _ _
        go_wp2_with fail
        exact ⟨.slice (some ⟨g, 0, none⟩) k cap, by first | rfl | (go_simp; done), rfl, Below.refl _ _⟩
      · as_aux_lemma =>
        refine fun w' hB => ?_
        show wpList _ _ _ _ _ _
        go_wp2_with fail
        exact ⟨.slice (some ⟨g, 0, none⟩) k cap, by first | rfl | (go_simp; done), rfl, Below.refl _ _⟩
      · as_aux_lemma =>
        refine fun w' hB => ?_
        show wpList _ _ _ _ _ _
        go_wp2_with fail
        exact ⟨.int .i64 k, by first | rfl | (go_simp; done), rfl, Below.refl _ _⟩
      · as_aux_lemma =>
        refine fun w' hB v2 h2 => ?_
        obtain rfl := h2
        show wpList _ _ _ _ _ _
        go_wp2_with fail
        exact ⟨.int .i64 k16, by first | rfl | (go_simp; done), rfl, Below.refl _ _⟩
      · as_aux_lemma =>
        refine fun w' hB v1 h1 v3 h3 => ?_
        obtain rfl := h1
        obtain rfl := h3
        show wpList _ _ _ _ _ _
        go_wp2_with fail
        exact ⟨.pointer (some ⟨g, k16, none⟩), by first | rfl | (go_simp; done), rfl, Below.refl _ _⟩
      · as_aux_lemma =>
        refine fun w' hB v4 h4 => ?_
        obtain rfl := h4
        show wpList _ _ _ _ _ _
        have c := C16.out w' hB
        go_wp2_with fail
        exact ⟨.int .u32 x16, rfl, rfl, Below.refl _ _⟩
      · as_aux_lemma =>
        refine fun w' hB => ?_
        show wpList _ _ _ _ _ _
        go_wp2_with fail
        exact ⟨.int .u32 s0, by first | rfl | (go_simp; done), rfl, Below.refl _ _⟩
      · as_aux_lemma =>
        refine fun w' hB v5 h5 v6 h6 => ?_
        obtain rfl := h5
        obtain rfl := h6
        show wpList _ _ _ _ _ _
        go_wp2_with fail
        exact ⟨.int .u32 y1, by first | rfl | (go_simp; done), rfl, Below.refl _ _⟩
      · as_aux_lemma =>
        refine fun w' hB => ?_
        show wpList _ _ _ _ _ _
        go_wp2_with fail
        exact ⟨.slice (some ⟨g, 0, none⟩) k cap, by first | rfl | (go_simp; done), rfl, Below.refl _ _⟩
      · as_aux_lemma =>
        refine fun w' hB => ?_
        show wpList _ _ _ _ _ _
        go_wp2_with fail
        exact ⟨.int .i64 k, by first | rfl | (go_simp; done), rfl, Below.refl _ _⟩
      · as_aux_lemma =>
        refine fun w' hB v9 h9 => ?_
        obtain rfl := h9
        show wpList _ _ _ _ _ _
        go_wp2_with fail
        exact ⟨.int .i64 k7, by first | rfl | (go_simp; done), rfl, Below.refl _ _⟩
      · as_aux_lemma =>
        refine fun w' hB v8 h8 v10 h10 => ?_
        obtain rfl := h8
        obtain rfl := h10
        show wpList _ _ _ _ _ _
        go_wp2_with fail
        exact ⟨.pointer (some ⟨g, k7, none⟩), by first | rfl | (go_simp; done), rfl, Below.refl _ _⟩
      · as_aux_lemma =>
        refine fun w' hB v11 h11 => ?_
        obtain rfl := h11
        show wpList _ _ _ _ _ _
        have c := C7.out w' hB
        go_wp2_with fail
        exact ⟨.int .u32 x7, rfl, rfl, Below.refl _ _⟩
      · as_aux_lemma =>
        refine fun w' hB v7 h7 v12 h12 => ?_
        obtain rfl := h7
        obtain rfl := h12
        show wpList _ _ _ _ _ _
        go_wp2_with fail
        exact ⟨.int .u32 y2, by first | rfl | (go_simp; done), rfl, Below.refl _ _⟩
      · as_aux_lemma =>
        refine fun w' hB => ?_
        show wpList _ _ _ _ _ _
        go_wp2_with fail
        exact ⟨.int .u32 s1, by first | rfl | (go_simp; done), rfl, Below.refl _ _⟩
      · as_aux_lemma =>
        refine fun w' hB v13 h13 v14 h14 => ?_
        obtain rfl := h13
        obtain rfl := h14
        show wpList _ _ _ _ _ _
        go_wp2_with fail
        exact ⟨.int .u32 y3, by first | rfl | (go_simp; done), rfl, Below.refl _ _⟩
      · as_aux_lemma =>
        refine fun w' hB v15 h15 => ?_
        obtain rfl := h15
        show wpList _ _ _ _ _ _
        go_wp2_with fail
        exact ⟨_, rfl, ⟨_, rfl, heap_new _ _⟩, below_alloc (Below.refl _ _) _⟩
      · refine fun w' hB v0 h0 v1 h1 v2 h2 v3 h3 v4 h4 v5 h5 v6 h6 v7 h7 v8 h8 v9 h9 v10 h10 v11 h11 v12 h12 v13 h13 v14 h14 v15 h15 v16 h16 => ?_
        obtain rfl := h0
        obtain ⟨g16, rfl, hg16⟩ := h16
        simp only [onP, List.drop_succ_cons, List.drop_zero]
        go_simp
        clear h1 h2 h3 h4 h5 h6 h7 h8 h9 h10 h11 h12 h13 h14 h15
        go_wp2_with (at_builtin; refine wpList_append_u32 rfl (.tmp 131) (.tmp 147) rfl base _ (wjs M k) rfl (HO.out.keep hB) [y3] g16 1 rfl (fun j hj => by obtain rfl : j = 0 := (by simpa using hj); rw [cell_of_row _ _ _ _ _ _ hg16]; rfl) (by have := HWL.out; simp; omega) (by have := HB.out.size; have := hB.size; omega) (fun v' w5 hown' hbel => ?_))
        go_roundg (64 - (k + 1))
        case measure => have := HG.out; omega
        case rel => exact ⟨k + 1, rfl, by omega, by omega, by go_num, by rw [HW.out]; exact hown', hbel _ _ (Nat.le_refl _) (HB.out.trans (hB.mono (Nat.le_trans hbase HB.out.size)))⟩
    · obtain rfl : k = 64 := by omega
      go_wp2_with fail
      exact HQ.out _ _ _ ⟨rfl, rfl, rfl, rfl, rfl, rfl⟩ rfl HO.out HB.out
end Go.Proofs.Ytnbppbnjkmopeaa
namespace Go.Proofs.Ytnbppbnjkmopeaa
open Go.RowKit

/-- a slice of numbers of 32 bits reads as these -/
def U32At (w : World) (v : Value) (h : List Nat) : Prop := ∃ g cap, v = .slice (some ⟨g, 0, none⟩) h.length cap ∧ ∀ j, j < h.length → w.cell? ⟨g, j, none⟩ = some (.int .u32 (h.getD j 0 : Nat))
theorem U32At.keep {w w' : World} {v : Value} {h : List Nat} (k : U32At w v h) (hb : Below w.heap.size w w') : U32At w' v h := by
  obtain ⟨g, c, rfl, hc⟩ := k
  exact ⟨g, c, rfl, fun j hj => (hb.cell (p := ⟨g, j, none⟩) (block_lt_of_cell (hc j hj))).trans (hc j hj)⟩
theorem U32At.row {w : World} {g c : Nat} {h : List Nat} {t : TypeId} {fr : Nat × Nat} (hg : w.heap[g]? = some (.cells (us h).toArray t fr)) : U32At w (.slice (some ⟨g, 0, none⟩) h.length c) h :=
  ⟨g, c, rfl, fun j hj => by rw [cell_of_row _ _ _ _ _ _ hg, List.getElem?_toArray, us_get h j hj]⟩
theorem OwnsU.u32At {w : World} {base : Nat} {v : Value} {q : List Nat} (h : OwnsU w base v q) (h0 : 0 < q.length) : U32At w v q := by
  obtain ⟨g, cap, rfl, -, -, hc⟩ := h.at rfl h0
  exact ⟨g, cap, rfl, hc⟩
theorem U32At.eight {w : World} {g cap a b c d e f h i : Nat} (k : w.cell? ⟨g, 0, none⟩ = some (.int .u32 (a : Int)) ∧ w.cell? ⟨g, 1, none⟩ = some (.int .u32 (b : Int)) ∧ w.cell? ⟨g, 2, none⟩ = some (.int .u32 (c : Int)) ∧ w.cell? ⟨g, 3, none⟩ = some (.int .u32 (d : Int)) ∧
    w.cell? ⟨g, 4, none⟩ = some (.int .u32 (e : Int)) ∧ w.cell? ⟨g, 5, none⟩ = some (.int .u32 (f : Int)) ∧ w.cell? ⟨g, 6, none⟩ = some (.int .u32 (h : Int)) ∧ w.cell? ⟨g, 7, none⟩ = some (.int .u32 (i : Int))) : U32At w (.slice (some ⟨g, 0, none⟩) 8 cap) [a, b, c, d, e, f, h, i] :=
  ⟨g, cap, rfl, fun j hj => by
    obtain ⟨c0, c1, c2, c3, c4, c5, c6, c7⟩ := k
    simp only [List.length_cons, List.length_nil] at hj
    have : j = 0 ∨ j = 1 ∨ j = 2 ∨ j = 3 ∨ j = 4 ∨ j = 5 ∨ j = 6 ∨ j = 7 := by omega
    rcases this with rfl | rfl | rfl | rfl | rfl | rfl | rfl | rfl
    · exact c0
    · exact c1
    · exact c2
    · exact c3
    · exact c4
    · exact c5
    · exact c6
    · exact c7⟩
/-- the values of a round, one by one -/
theorem round_parts {k w a b c d e f g h : Nat} :
    rnd1 k w [a, b, c, d, e, f, g, h] = [add32 (rt k w e f g h) (add32 (bs0 a) (maj a b c)), a, b, c, add32 d (rt k w e f g h), e, f, g] := by
  have ha : ∀ t b m : Nat, add32 (add32 t b) m = add32 t (add32 b m) := fun t b m => by unfold add32; omega
  show [add32 (add32 (rt k w e f g h) (bs0 a)) (maj a b c), _, _, _, _, _, _, _] = _
  rw [ha]

set_option maxRecDepth 1000000 in
set_option maxHeartbeats 8000000 in
theorem loop64 (A : Array Value) (M h : List Nat) (hM : ∀ x ∈ M, x < 4294967296) (hh : H8 h) (vk vw vv : Value) (w : World) (hs : A.size = 306) (h3 : A[3]? = some vk) (h9 : A[9]? = some vw) (h16 : A[16]? = some vv) (h17 : A[17]? = some (.int .i64 0))
    (hk : U32At w vk ks) (hw : U32At w vw (wjs M 64)) (hv : U32At w vv h)
    (Q : Exit → Act → World → Prop)
    (hQ : ∀ A' w' v, Keeps A A' → A'[16]? = some v → U32At w' v (rds (wj M) h 64) → (∃ g, v = .slice (some ⟨g, 0, none⟩) 8 8 ∧ w.heap.size ≤ g) → Below w.heap.size w w' → Q (.exit 12) ⟨A', []⟩ w') : Code.wp Try.prog (Code.loop (rsBody 6)) Q ⟨A, []⟩ w := by
  obtain ⟨f, rfl⟩ := lit306 A hs
  have e3 : f 3 = vk := by simpa using h3
  have e9 : f 9 = vw := by simpa using h9
  have e16 : f 16 = vv := by simpa using h16
  have e17 : f 17 = .int .i64 0 := by simpa using h17
  clear h3 h9 h16 h17 hs
  have HQ := Lib.hid hQ
  have HL := Lib.hid (wj_lt hM)
  have HR := Lib.hid fun k => H8.rds (wj M) hh k
  obtain ⟨gks, ck, rfl, hkc⟩ := hk
  obtain ⟨gw, cw, rfl, hwc⟩ := hw
  rw [wjs_len] at hwc e9
  have HKC : Hid (∀ w' j, Below w.heap.size w w' → j < 64 → w'.cell? ⟨gks, j, none⟩ = some (.int .u32 (ks.getD j 0 : Nat))) := Lib.hid fun w' j hb hj => (hb.cell (p := ⟨gks, j, none⟩) (block_lt_of_cell (hkc j hj))).trans (hkc j hj)
  have HWC : Hid (∀ w' j, Below w.heap.size w w' → j < 64 → w'.cell? ⟨gw, j, none⟩ = some (.int .u32 (wj M j : Nat))) := Lib.hid fun w' j hb hj => by
    have := hwc j hj
    rw [wjs_get _ _ _ hj] at this
    exact (hb.cell (p := ⟨gw, j, none⟩) (block_lt_of_cell this)).trans this
  have HV := Lib.hid hv
  have E3 := Lib.hid e3
  clear hQ hM hkc hwc hv hh
  conv => arg 2; arg 1; whnf
  rw [e3, e9, e16, e17]
  rw [show ks.length = 64 from rfl]
  clear e3 e9 e16 e17
  go_loopg [16, 17] 64 (fun g sv ix wr => ∃ k : Nat, g = 64 - k ∧ k ≤ 64 ∧ ix = .int .i64 k ∧ U32At wr sv (rds (wj M) h k) ∧ Below w.heap.size w wr ∧ (0 < k → ∃ g, sv = .slice (some ⟨g, 0, none⟩) 8 8 ∧ w.heap.size ≤ g))
  case atStart => exact ⟨0, rfl, by omega, rfl, HV.out, Below.refl _ _, fun h => by omega⟩
  case round =>
    clear HV
    obtain ⟨k, hg, hk, rfl, hv, B, hnew⟩ := hrel
    have HG := Lib.hid hg; have HB := Lib.hid B
    have HNEW := Lib.hid hnew
    clear hnew
    obtain ⟨va, vb, vc, vd, ve, vf, vg, vh, hv8, l0, l1, l2, l3, l4, l5, l6, l7⟩ := (HR.out k).eight
    have HV8 := Lib.hid hv8
    rw [hv8] at hv
    obtain ⟨gv, cv, rfl, hvc⟩ := hv
    rw [show [va, vb, vc, vd, ve, vf, vg, vh].length = 8 from rfl] at HNEW
    have c0 : wr.cell? ⟨gv, 0, none⟩ = some (.int .u32 va) := hvc 0 (by simp)
    have c1 : wr.cell? ⟨gv, 1, none⟩ = some (.int .u32 vb) := hvc 1 (by simp)
    have c2 : wr.cell? ⟨gv, 2, none⟩ = some (.int .u32 vc) := hvc 2 (by simp)
    have c3 : wr.cell? ⟨gv, 3, none⟩ = some (.int .u32 vd) := hvc 3 (by simp)
    have c4 : wr.cell? ⟨gv, 4, none⟩ = some (.int .u32 ve) := hvc 4 (by simp)
    have c5 : wr.cell? ⟨gv, 5, none⟩ = some (.int .u32 vf) := hvc 5 (by simp)
    have c6 : wr.cell? ⟨gv, 6, none⟩ = some (.int .u32 vg) := hvc 6 (by simp)
    have c7 : wr.cell? ⟨gv, 7, none⟩ = some (.int .u32 vh) := hvc 7 (by simp)
    rw [show [va, vb, vc, vd, ve, vf, vg, vh].length = 8 from rfl]
    clear hg B hv8 hvc
    by_cases hlt : k < 64
    · have HC := Lib.hid ((⟨c0, c1, c2, c3, c4, c5, c6, c7⟩ : _ ∧ _ ∧ _ ∧ _ ∧ _ ∧ _ ∧ _ ∧ _))
      have s1 := bs1_bits l4
      go_wp2_with fail
      go_quiet ((go_at_call 114; exact Calls.quiet_of_same (turn_q _ _ (by exact l4) (by omega) (by omega) _)))
      clear s1
      go_wp2_with fail
      -- t1
      obtain ⟨t1, ht1⟩ : ∃ t1, t1 = rt (ks.getD k 0) (wj M k) ve vf vg vh := ⟨_, rfl⟩
      have T1L : Hid (t1 < 4294967296) := Lib.hid (by rw [ht1]; exact add32_lt _ _)
      have T1 := Lib.hid ht1
      clear ht1
      refine wp_abs (fun W => Below w.heap.size w W ∧ (W.cell? ⟨gv, 0, none⟩ = some (.int .u32 va) ∧ W.cell? ⟨gv, 1, none⟩ = some (.int .u32 vb) ∧ W.cell? ⟨gv, 2, none⟩ = some (.int .u32 vc) ∧ W.cell? ⟨gv, 3, none⟩ = some (.int .u32 vd) ∧ W.cell? ⟨gv, 4, none⟩ = some (.int .u32 ve) ∧ W.cell? ⟨gv, 5, none⟩ = some (.int .u32 vf) ∧ W.cell? ⟨gv, 6, none⟩ = some (.int .u32 vg) ∧ W.cell? ⟨gv, 7, none⟩ = some (.int .u32 vh))) ⟨below_drewN HB.out _, by simpa using HC.out⟩ ?_
      clear HB HC c0 c1 c2 c3 c4 c5 c6 c7
      rintro W1 ⟨hB, hC⟩
      have HB := Lib.hid hB; have HC := Lib.hid hC
      obtain ⟨c0, c1, c2, c3, c4, c5, c6, c7⟩ := hC
      clear hB
      have kk := HKC.out W1 k HB.out hlt
      have ww := HWC.out W1 k HB.out hlt
      have ch := chs_bits l4 l5 l6
      obtain ⟨y0, hy0⟩ : ∃ y0, y0 = bs1 ve := ⟨_, rfl⟩
      obtain ⟨y1, hy1⟩ : ∃ y1, y1 = chs ve vf vg := ⟨_, rfl⟩
      have hs1 : ((vh : Int) + (bs1 ve : Nat)) % 4294967296 = ((add32 vh (bs1 ve) : Nat) : Int) := by unfold add32; omega
      obtain ⟨z1, hz1⟩ : ∃ z1, z1 = add32 vh (bs1 ve) := ⟨_, rfl⟩
      obtain ⟨z2, hz2⟩ : ∃ z2, z2 = add32 z1 y1 := ⟨_, rfl⟩
      obtain ⟨kz, hkz⟩ : ∃ kz, kz = ks.getD k 0 := ⟨_, rfl⟩
      obtain ⟨z3, hz3⟩ : ∃ z3, z3 = add32 z2 kz := ⟨_, rfl⟩
      have Z1 : ((vh : Int) + (y0 : Int)) % 4294967296 = (z1 : Int) := by rw [hz1, hy0]; unfold add32; omega
      have Z2 : ((z1 : Int) + (y1 : Int)) % 4294967296 = (z2 : Int) := by rw [hz2]; unfold add32; omega
      have Z3 : ((z2 : Int) + (kz : Int)) % 4294967296 = (z3 : Int) := by rw [hz3]; unfold add32; omega
      have Z4 : ((z3 : Int) + (wj M k : Nat)) % 4294967296 = (t1 : Int) := by rw [T1.out, hz3, hz2, hz1, hy1, hkz]; unfold rt add32; omega
      rw [← hy0]
      rw [← hy1] at ch
      rw [← hkz] at kk
      clear hs1 hz1 hz2 hz3 hy0 hy1 hkz
      go_quiet (fail)
      rw [Z4]
      go_wp2_with fail
      clear kk ww ch Z1 Z2 Z3 Z4
      refine wp_abs (fun W => Below w.heap.size w W ∧ (W.cell? ⟨gv, 0, none⟩ = some (.int .u32 va) ∧ W.cell? ⟨gv, 1, none⟩ = some (.int .u32 vb) ∧ W.cell? ⟨gv, 2, none⟩ = some (.int .u32 vc) ∧ W.cell? ⟨gv, 3, none⟩ = some (.int .u32 vd) ∧ W.cell? ⟨gv, 4, none⟩ = some (.int .u32 ve) ∧ W.cell? ⟨gv, 5, none⟩ = some (.int .u32 vf) ∧ W.cell? ⟨gv, 6, none⟩ = some (.int .u32 vg) ∧ W.cell? ⟨gv, 7, none⟩ = some (.int .u32 vh))) ⟨below_drewN HB.out _, by simpa using HC.out⟩ ?_
      clear HB HC c0 c1 c2 c3 c4 c5 c6 c7
      rintro W2 ⟨hB, hC⟩
      have HB := Lib.hid hB; have HC := Lib.hid hC
      obtain ⟨c0, c1, c2, c3, c4, c5, c6, c7⟩ := hC
      clear hB
      have s0 := bs0_bits l0
      go_quiet ((go_at_call 114; exact Calls.quiet_of_same (turn_q _ _ (by exact l0) (by omega) (by omega) _)))
      go_wp2_with fail
      clear s0
      refine wp_abs (fun W => Below w.heap.size w W ∧ (W.cell? ⟨gv, 0, none⟩ = some (.int .u32 va) ∧ W.cell? ⟨gv, 1, none⟩ = some (.int .u32 vb) ∧ W.cell? ⟨gv, 2, none⟩ = some (.int .u32 vc) ∧ W.cell? ⟨gv, 3, none⟩ = some (.int .u32 vd) ∧ W.cell? ⟨gv, 4, none⟩ = some (.int .u32 ve) ∧ W.cell? ⟨gv, 5, none⟩ = some (.int .u32 vf) ∧ W.cell? ⟨gv, 6, none⟩ = some (.int .u32 vg) ∧ W.cell? ⟨gv, 7, none⟩ = some (.int .u32 vh))) ⟨below_drewN HB.out _, by simpa using HC.out⟩ ?_
      clear HB HC c0 c1 c2 c3 c4 c5 c6 c7
      rintro W3 ⟨hB, hC⟩
      have HB := Lib.hid hB; have HC := Lib.hid hC
      obtain ⟨c0, c1, c2, c3, c4, c5, c6, c7⟩ := hC
      clear hB
      have mj := maj_bits l0 l1 l2
      have B0 := bs0_lt l0
      obtain ⟨b0, hb0⟩ : ∃ b0, b0 = bs0 va := ⟨_, rfl⟩
      obtain ⟨m0, hm0⟩ : ∃ m0, m0 = maj va vb vc := ⟨_, rfl⟩
      have HSTEP : Hid (rds (wj M) h (k + 1) = [add32 t1 (add32 b0 m0), va, vb, vc, add32 vd t1, ve, vf, vg]) := Lib.hid (by
        rw [rds, HV8.out, round_parts, ← T1.out, hb0, hm0])
      obtain ⟨t2, ht2⟩ : ∃ t2, t2 = add32 b0 m0 := ⟨_, rfl⟩
      obtain ⟨n0, hn0⟩ : ∃ n0, n0 = add32 t1 t2 := ⟨_, rfl⟩
      obtain ⟨n4, hn4⟩ : ∃ n4, n4 = add32 vd t1 := ⟨_, rfl⟩
      have Y1 : ((b0 : Int) + (m0 : Int)) % 4294967296 = (t2 : Int) := by rw [ht2]; unfold add32; omega
      have Y2 : ((t1 : Int) + (t2 : Int)) % 4294967296 = (n0 : Int) := by rw [hn0]; unfold add32; omega
      have Y3 : ((vd : Int) + (t1 : Int)) % 4294967296 = (n4 : Int) := by rw [hn4]; unfold add32; omega
      have M0 : m0 < 4294967296 := by rw [hm0]; exact maj_lt l0 l1
      have T2 : t2 < 4294967296 := by rw [ht2]; exact add32_lt _ _
      have TL := T1L.out
      rw [← hb0]
      rw [← hm0] at mj
      rw [← hb0] at B0
      rw [← ht2, ← hn0, ← hn4] at HSTEP
      clear hb0 hm0 ht2 hn0 hn4
      go_quiet (fail)
      rw [Y1]
      go_wp2_with fail
      clear mj Y1 B0 M0
      refine wp_abs (fun W => Below w.heap.size w W ∧ (W.cell? ⟨gv, 0, none⟩ = some (.int .u32 va) ∧ W.cell? ⟨gv, 1, none⟩ = some (.int .u32 vb) ∧ W.cell? ⟨gv, 2, none⟩ = some (.int .u32 vc) ∧ W.cell? ⟨gv, 3, none⟩ = some (.int .u32 vd) ∧ W.cell? ⟨gv, 4, none⟩ = some (.int .u32 ve) ∧ W.cell? ⟨gv, 5, none⟩ = some (.int .u32 vf) ∧ W.cell? ⟨gv, 6, none⟩ = some (.int .u32 vg) ∧ W.cell? ⟨gv, 7, none⟩ = some (.int .u32 vh))) ⟨below_drewN HB.out _, by simpa using HC.out⟩ ?_
      clear HB HC c0 c1 c2 c3 c4 c5 c6 c7
      rintro W4 ⟨hB, hC⟩
      have HB := Lib.hid hB; have HC := Lib.hid hC
      obtain ⟨c0, c1, c2, c3, c4, c5, c6, c7⟩ := hC
      clear hB
      go_still_tail 26, (by kernel_rfl)
      try rw [Y2]
      try rw [Y3]
      go_wp2_with fail
      go_roundg (64 - (k + 1))
      case measure => have := HG.out; omega
      case rel => exact ⟨k + 1, rfl, by omega, by go_num, by rw [HSTEP.out]; exact U32At.row (h := [n0, va, vb, vc, n4, ve, vf, vg]) (t := 22) (fr := (0, 0)) (heap_new W4 (.cells (us [n0, va, vb, vc, n4, ve, vf, vg]).toArray 22 (0, 0))), by repeat' (first | (with_reducible exact HB.out) | (with_reducible refine below_alloc ?_ _) | (refine below_alloc (Below.drew ?_) _) | (refine Below.drew ?_)), fun _ => ⟨_, rfl, HB.out.size⟩⟩
    · obtain rfl : k = 64 := by omega
      have e3 := E3.out
      rw [show ks.length = 64 from rfl] at e3
      go_wp2_with fail
      exact HQ.out _ _ _ ⟨rfl, rfl, rfl, (congrArg some e3).symm, rfl, rfl⟩ rfl (by rw [HV8.out]; exact U32At.eight ⟨c0, c1, c2, c3, c4, c5, c6, c7⟩) (HNEW.out (by omega)) HB.out
end Go.Proofs.Ytnbppbnjkmopeaa
