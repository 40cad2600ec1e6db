/- tallystickref01.Sum: the words 16 to 63 of a block. No condition. -/
import Derived.Test.YtfopockjakeplaaRsB
import Derived.Deep.QuietTactic
import Derived.BigQuiet
import Derived.Test.YtfopockjakeplaaRegTail
namespace Go.Proofs.Ytfopockjakeplaa
open Go.RowKit

def wjs (M : List Nat) (k : Nat) : List Nat := (List.range k).map (wj M)
theorem wjs_succ (M : List Nat) (k : Nat) : wjs M (k + 1) = wjs M k ++ [wj M k] := by simp [wjs, List.range_succ]
theorem wjs_len (M : List Nat) (k : Nat) : (wjs M k).length = k := by simp [wjs]
theorem wjs_get (M : List Nat) (k j : Nat) (h : j < k) : (wjs M k).getD j 0 = wj M j := by simp [wjs, h]
theorem wjs_16 {M : List Nat} (hM : M.length = 16) : wjs M 16 = M := by
  apply List.ext_getElem?
  intro j
  by_cases hj : j < 16
  · have := wj_low hM hj
    simp [wjs, hj]
    rw [this, List.getD_eq_getElem?_getD, List.getElem?_eq_getElem (by omega)]; rfl
  · rw [List.getElem?_eq_none (by rw [wjs_len]; omega), List.getElem?_eq_none (by omega)]

theorem turn_q (x : Nat) (r : Int) (hx : x < 4294967296) (h0 : 0 ≤ r) (h1 : r ≤ 32) (w : World) :
    Calls Try.prog 31 #[.int .u32 x, .int .i64 r] w fun e w' => e = .returned (.int .u32 (ror x r.toNat)) ∧ w' = w := by
  obtain ⟨n, rfl⟩ := Int.eq_ofNat_of_zero_le h0
  exact (turn_any x n hx (by omega) w).mono fun _ _ h => ⟨h.1, h.2.symm⟩
theorem low_q (x : Nat) (r : Int) (hx : x < 4294967296) (h0 : 0 ≤ r) (h1 : r ≤ 32) (w : World) :
    Calls Try.prog 32 #[.int .u32 x, .int .i64 r] w fun e w' => e = .returned (.int .u32 ((x : Int) / 2 ^ r.toNat)) ∧ w' = w := by
  obtain ⟨n, rfl⟩ := Int.eq_ofNat_of_zero_le h0
  refine (low_any x n hx (by omega) w).mono fun _ _ h => ⟨?_, h.2.symm⟩
  rw [h.1, Int.natCast_ediv, Int.natCast_pow]; rfl

set_option maxRecDepth 1000000 in
set_option maxHeartbeats 4000000 in
theorem loop48 (A : Array Value) (M : List Nat) (hM : M.length = 16) (hb : ∀ x ∈ M, x < 4294967296) (base : Nat) (v : Value) (w : World) (hbase : base ≤ w.heap.size) (hs : A.size = 306) (h9 : A[9]? = some v) (h13 : A[13]? = some (.int .i64 16)) (hO : OwnsU w base v M)
    (Q : Exit → Act → World → Prop)
    (hQ : ∀ A' w' v, Keeps A A' → A'[9]? = some v → OwnsU w' base v (wjs M 64) → Below base w w' → Q (.exit 10) ⟨A', []⟩ w') : Code.wp Try.prog (Code.loop (rsBody 5)) Q ⟨A, []⟩ w := by
  obtain ⟨f, rfl⟩ := lit306 A hs
  have e9 : f 9 = v := by simpa using h9
  have e13 : f 13 = .int .i64 16 := by simpa using h13
  clear h9 h13 hs
  have HQ := Lib.hid hQ
  have HL := Lib.hid (wj_lt hb)
  have HH := Lib.hid (@wj_high M)
  clear hQ hb
  conv => arg 2; arg 1; whnf
  rw [e9, e13]
  rw [← wjs_16 hM] at hO
  have HO0 := Lib.hid hO
  clear e9 e13 hM hO
  go_loopg [9, 13] 48 (fun g sv ix wr => ∃ k : Nat, g = 64 - k ∧ 16 ≤ k ∧ k ≤ 64 ∧ ix = .int .i64 k ∧ OwnsU wr base sv (wjs M k) ∧ Below base w wr)
  case atStart => exact ⟨16, rfl, by omega, by omega, rfl, HO0.out, Below.refl _ _⟩
  case round =>
    clear HO0
    obtain ⟨k, hg, hk0, hk, rfl, hO, B⟩ := hrel
    have HG := Lib.hid hg; have HB := Lib.hid B
    clear hg B
    obtain ⟨g, cap, rfl, hgb, hgs, hcell⟩ := hO.at (wjs_len M k) (by omega)
    have HO := Lib.hid hO
    clear hO
    by_cases hlt : k < 64
    · obtain ⟨k15, h15⟩ : ∃ k15, k15 = k - 15 := ⟨_, rfl⟩
      obtain ⟨k2, h2⟩ : ∃ k2, k2 = k - 2 := ⟨_, rfl⟩
      obtain ⟨k16, h16⟩ : ∃ k16, k16 = k - 16 := ⟨_, rfl⟩
      obtain ⟨k7, h7⟩ : ∃ k7, k7 = k - 7 := ⟨_, rfl⟩
      have c15 := hcell k15 (by omega); have c2 := hcell k2 (by omega); have c16 := hcell k16 (by omega); have c7 := hcell k7 (by omega)
      rw [wjs_get _ _ _ (by omega)] at c15 c2 c16 c7
      have HE := Lib.hid (HH.out k hk0 hlt)
      rw [← h15, ← h2, ← h16, ← h7] at HE
      have e15 : (k : Int) - 15 = (k15 : Int) := by omega
      have e2 : (k : Int) - 2 = (k2 : Int) := by omega
      have e16 : (k : Int) - 16 = (k16 : Int) := by omega
      have e7 : (k : Int) - 7 = (k7 : Int) := by omega
      have l15 : k15 < k := by omega
      have l2 : k2 < k := by omega
      have l16 : k16 < k := by omega
      have l7 : k7 < k := by omega
      have b15 := HL.out k15; have b2 := HL.out k2; have b16 := HL.out k16; have b7 := HL.out k7
      have s0 := sg0_bits b15
      have s1 := sg1_bits b2
      clear hcell h15 h2 h16 h7
      go_wp2_with fail
      go_quiet ((first | (go_at_call 31; exact Calls.quiet_of_same (turn_q _ _ (by first | exact b15 | exact b2) (by omega) (by omega) _)) | (go_at_call 32; exact Calls.quiet_of_same (low_q _ _ (by first | exact b15 | exact b2) (by omega) (by omega) _))))
      go_wp2_with fail
      refine wp_abs (fun W => OwnsU W base (.slice (some ⟨g, 0, none⟩) k cap) (wjs M k) ∧ Below base w W) ⟨HO.out.keep (below_drewN (Below.refl _ _) _), below_drewN HB.out _⟩ ?_
      clear c15 c2 c16 c7 HO HB hgs
      rintro W1 ⟨hO, hB⟩
      have HO := Lib.hid hO; have HB := Lib.hid hB
      have hcell := hO.cellAt (wjs_len M k)
      have c2 := hcell k2 (by omega); have c16 := hcell k16 (by omega); have c7 := hcell k7 (by omega)
      rw [wjs_get _ _ _ (by omega)] at c2 c16 c7
      clear hcell hO hB
      go_quiet ((first | (go_at_call 31; exact Calls.quiet_of_same (turn_q _ _ (by first | exact b2) (by omega) (by omega) _)) | (go_at_call 32; exact Calls.quiet_of_same (low_q _ _ (by first | exact b2) (by omega) (by omega) _))))
      go_wp2_with fail
      refine wp_abs (fun W => OwnsU W base (.slice (some ⟨g, 0, none⟩) k cap) (wjs M k) ∧ Below base w W) ⟨HO.out.keep (below_drewN (Below.refl _ _) _), below_drewN HB.out _⟩ ?_
      clear c2 c16 c7 HO HB
      rintro W2 ⟨hO, hB⟩
      have HO := Lib.hid hO; have HB := Lib.hid hB
      have hcell := hO.cellAt (wjs_len M k)
      have c2 := hcell k2 (by omega); have c16 := hcell k16 (by omega); have c7 := hcell k7 (by omega)
      rw [wjs_get _ _ _ (by omega)] at c2 c16 c7
      clear hcell hO hB
      clear s0 s1 b15 b2 c2
      have hgs := block_lt_of_cell c16
      have C16 := Lib.hid fun w' (hB : Below W2.heap.size W2 w') => (hB.cell (p := ⟨g, k16, none⟩) hgs).trans c16
      have C7 := Lib.hid fun w' (hB : Below W2.heap.size W2 w') => (hB.cell (p := ⟨g, k7, none⟩) hgs).trans c7
      have L15 := HL.out k15; have L2 := HL.out k2
      have S0 := sg0_lt L15; have S1 := sg1_lt L2
      clear c16 c7 hgs L15 L2
      generalize wj M k16 = x16 at *
      generalize wj M k7 = x7 at *
      generalize sg0 (wj M k15) = s0 at *
      generalize sg1 (wj M k2) = s1 at *
      obtain ⟨y1, h1⟩ : ∃ y1, y1 = add32 x16 s0 := ⟨_, rfl⟩
      obtain ⟨y2, h2⟩ : ∃ y2, y2 = add32 y1 x7 := ⟨_, rfl⟩
      obtain ⟨y3, h3⟩ : ∃ y3, y3 = add32 y2 s1 := ⟨_, rfl⟩
      have E1 : ((x16 : Int) + (s0 : Int)) % 4294967296 = (y1 : Int) := by rw [h1]; unfold add32; omega
      have E2 : ((y1 : Int) + (x7 : Int)) % 4294967296 = (y2 : Int) := by rw [h2]; unfold add32; omega
      have E3 : ((y2 : Int) + (s1 : Int)) % 4294967296 = (y3 : Int) := by rw [h3]; unfold add32; omega
      have Y1 : y1 < 4294967296 := by rw [h1]; exact add32_lt _ _
      have Y2 : y2 < 4294967296 := by rw [h2]; exact add32_lt _ _
      have Y3 : y3 < 4294967296 := by rw [h3]; exact add32_lt _ _
      rw [← h1, ← h2, ← h3] at HE
      have HW := Lib.hid (wjs_succ M k)
      rw [HE.out] at HW
      have HWL := Lib.hid (wjs_len M k)
      clear h1 h2 h3 HE
      refine wp_region_tail 17 [Is (.slice (some ⟨g, 0, none⟩) k cap), Is (.slice (some ⟨g, 0, none⟩) k cap), Is (.int .i64 k), Is (.int .i64 k16), Is (.pointer (some ⟨g, k16, none⟩)), Is (.int .u32 x16), Is (.int .u32 s0), Is (.int .u32 y1), Is (.slice (some ⟨g, 0, none⟩) k cap), Is (.int .i64 k), Is (.int .i64 k7), Is (.pointer (some ⟨g, k7, none⟩)), Is (.int .u32 x7), Is (.int .u32 y2), Is (.int .u32 s1), Is (.int .u32 y3), RowOf #[.int .u32 y3] 34 1 1] [[], [], [], [(2, some 133)], [(1, some 132), (3, some 134)], [(4, some 135)], [], [(5, some 136), (6, some 137)], [], [], [(9, some 140)], [(8, some 139), (10, some 141)], [(11, some 142)], [(7, some 138), (12, some 143)], [], [(13, some 144), (14, some 145)], [(15, some 146)], [(0, some 131), (16, some 147)], [(17, some 148)]] [(0, some 131), (1, some 132), (2, some 133), (3, some 134), (4, some 135), (5, some 136), (6, some 137), (7, some 138), (8, some 139), (9, some 140), (10, some 141), (11, some 142), (12, some 143), (13, some 144), (14, some 145), (15, some 146), (16, some 147)] [0, 0, 0, 4, 14, 30, 0, 126, 0, 0, 512, 1792, 3840, 8190, 0, 32766, 65534, 131071, 262143]
        (by kernel_rfl) (by kernel_rfl) (by kernel_rfl) (by kernel_rfl) (by kernel_rfl) ⟨Is.kept _, Is.kept _, Is.kept _, Is.kept _, Is.kept _, Is.kept _, Is.kept _, Is.kept _, Is.kept _, Is.kept _, Is.kept _, Is.kept _, Is.kept _, Is.kept _, Is.kept _, Is.kept _, RowOf.kept _ _ _ _, trivial⟩ ⟨?_, ?_, ?_, ?_, ?_, ?_, ?_, ?_, ?_, ?_, ?_, ?_, ?_, ?_, ?_, ?_, ?_, trivial⟩ ?_
      · as_aux_lemma =>
        refine fun w' hB => ?_
        show wpList _ _ _ _ _ _
        go_wp2_with fail
        exact ⟨.slice (some ⟨g, 0, none⟩) k cap, rfl, rfl, Below.refl _ _⟩
      · as_aux_lemma =>
        refine fun w' hB => ?_
        show wpList _ _ _ _ _ _
        go_wp2_with fail
        exact ⟨.slice (some ⟨g, 0, none⟩) k cap, rfl, rfl, Below.refl _ _⟩
      · as_aux_lemma =>
        refine fun w' hB => ?_
        show wpList _ _ _ _ _ _
        go_wp2_with fail
        exact ⟨.int .i64 k, rfl, rfl, Below.refl _ _⟩
      · as_aux_lemma =>
        refine fun w' hB v2 h2 => ?_
        obtain rfl := h2
        show wpList _ _ _ _ _ _
        go_wp2_with fail
        exact ⟨.int .i64 k16, rfl, rfl, Below.refl _ _⟩
      · as_aux_lemma =>
        refine fun w' hB v1 h1 v3 h3 => ?_
        obtain rfl := h1
        obtain rfl := h3
        show wpList _ _ _ _ _ _
        go_wp2_with fail
        exact ⟨.pointer (some ⟨g, k16, none⟩), rfl, rfl, Below.refl _ _⟩
      · as_aux_lemma =>
        refine fun w' hB v4 h4 => ?_
        obtain rfl := h4
        show wpList _ _ _ _ _ _
        have c := C16.out w' hB
        go_wp2_with fail
        exact ⟨.int .u32 x16, rfl, rfl, Below.refl _ _⟩
      · as_aux_lemma =>
        refine fun w' hB => ?_
        show wpList _ _ _ _ _ _
        go_wp2_with fail
        exact ⟨.int .u32 s0, rfl, rfl, Below.refl _ _⟩
      · as_aux_lemma =>
        refine fun w' hB v5 h5 v6 h6 => ?_
        obtain rfl := h5
        obtain rfl := h6
        show wpList _ _ _ _ _ _
        go_wp2_with fail
        exact ⟨.int .u32 y1, rfl, rfl, Below.refl _ _⟩
      · as_aux_lemma =>
        refine fun w' hB => ?_
        show wpList _ _ _ _ _ _
        go_wp2_with fail
        exact ⟨.slice (some ⟨g, 0, none⟩) k cap, rfl, rfl, Below.refl _ _⟩
      · as_aux_lemma =>
        refine fun w' hB => ?_
        show wpList _ _ _ _ _ _
        go_wp2_with fail
        exact ⟨.int .i64 k, rfl, rfl, Below.refl _ _⟩
      · as_aux_lemma =>
        refine fun w' hB v9 h9 => ?_
        obtain rfl := h9
        show wpList _ _ _ _ _ _
        go_wp2_with fail
        exact ⟨.int .i64 k7, rfl, rfl, Below.refl _ _⟩
      · as_aux_lemma =>
        refine fun w' hB v8 h8 v10 h10 => ?_
        obtain rfl := h8
        obtain rfl := h10
        show wpList _ _ _ _ _ _
        go_wp2_with fail
        exact ⟨.pointer (some ⟨g, k7, none⟩), rfl, rfl, Below.refl _ _⟩
      · as_aux_lemma =>
        refine fun w' hB v11 h11 => ?_
        obtain rfl := h11
        show wpList _ _ _ _ _ _
        have c := C7.out w' hB
        go_wp2_with fail
        exact ⟨.int .u32 x7, rfl, rfl, Below.refl _ _⟩
      · as_aux_lemma =>
        refine fun w' hB v7 h7 v12 h12 => ?_
        obtain rfl := h7
        obtain rfl := h12
        show wpList _ _ _ _ _ _
        go_wp2_with fail
        exact ⟨.int .u32 y2, rfl, rfl, Below.refl _ _⟩
      · as_aux_lemma =>
        refine fun w' hB => ?_
        show wpList _ _ _ _ _ _
        go_wp2_with fail
        exact ⟨.int .u32 s1, rfl, rfl, Below.refl _ _⟩
      · as_aux_lemma =>
        refine fun w' hB v13 h13 v14 h14 => ?_
        obtain rfl := h13
        obtain rfl := h14
        show wpList _ _ _ _ _ _
        go_wp2_with fail
        exact ⟨.int .u32 y3, rfl, rfl, Below.refl _ _⟩
      · as_aux_lemma =>
        refine fun w' hB v15 h15 => ?_
        obtain rfl := h15
        show wpList _ _ _ _ _ _
        go_wp2_with fail
        exact ⟨_, rfl, ⟨_, rfl, heap_new _ _⟩, below_alloc (Below.refl _ _) _⟩
      · refine fun w' hB v0 h0 v1 h1 v2 h2 v3 h3 v4 h4 v5 h5 v6 h6 v7 h7 v8 h8 v9 h9 v10 h10 v11 h11 v12 h12 v13 h13 v14 h14 v15 h15 v16 h16 => ?_
        obtain rfl := h0
        obtain ⟨g16, rfl, hg16⟩ := h16
        simp only [onP, List.drop_succ_cons, List.drop_zero]
        go_simp
        clear h1 h2 h3 h4 h5 h6 h7 h8 h9 h10 h11 h12 h13 h14 h15
        go_wp2_with (at_builtin; refine wpList_append_u32 rfl (.tmp 131) (.tmp 147) rfl base _ (wjs M k) rfl (HO.out.keep hB) [y3] g16 1 rfl (fun j hj => by obtain rfl : j = 0 := (by simpa using hj); rw [cell_of_row _ _ _ _ _ _ hg16]; rfl) (by have := HWL.out; simp; omega) (by have := HB.out.size; have := hB.size; omega) (fun v' w5 hown' hbel => ?_))
        go_roundg (64 - (k + 1))
        case measure => have := HG.out; omega
        case rel => exact ⟨k + 1, rfl, by omega, by omega, by go_num, by rw [HW.out]; exact hown', hbel _ _ (Nat.le_refl _) (HB.out.trans (hB.mono (Nat.le_trans hbase HB.out.size)))⟩
    · obtain rfl : k = 64 := by omega
      go_wp2_with fail
      exact HQ.out _ _ _ ⟨rfl, rfl, rfl, rfl, rfl, rfl⟩ rfl HO.out HB.out
end Go.Proofs.Ytfopockjakeplaa
