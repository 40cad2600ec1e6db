/- merkle.Way. No condition. -/
import Derived.Test.YtfopockjakeplaaWyPlain
import Derived.Test.YtfopockjakeplaaWyMem
namespace Go.Proofs.Ytfopockjakeplaa
open Go.RowKit

theorem bits_xor_i64_nat (a b : Nat) (ha : a < 9223372036854775808) (hb : b < 9223372036854775808) : bits .xor .i64 (a : Int) (b : Int) = ((a ^^^ b : Nat) : Int) := by
  have hx : a ^^^ b < 2 ^ 63 := Nat.xor_lt_two_pow (by omega) (by omega)
  have h1 : (BitVec.ofInt 64 (a : Int)).toNat = a := by
    rw [BitVec.ofInt_natCast, BitVec.toNat_ofNat]; exact Nat.mod_eq_of_lt (by omega)
  have h2 : (BitVec.ofInt 64 (b : Int)).toNat = b := by
    rw [BitVec.ofInt_natCast, BitVec.toNat_ofNat]; exact Nat.mod_eq_of_lt (by omega)
  show IntKind.i64.wrap ((BitVec.ofInt 64 (a : Int) ^^^ BitVec.ofInt 64 (b : Int)).toNat : Int) = _
  rw [BitVec.toNat_xor, h1, h2]
  simp [IntKind.wrap, IntKind.bits, IntKind.signed]
  omega

/-- what Way answers -/
def WayIs (w : World) (L : List Nat) (e : Ending) (w' : World) : Prop := ∃ v, e = .returned (.tuple #[v, .int .i64 0]) ∧ OwnsI w' w.heap.size v L ∧ Below w.heap.size w w'

set_option maxRecDepth 100000 in
set_option maxHeartbeats 4000000 in
theorem way_none (i : Int) (hlo : -9223372036854775808 ≤ i) (hhi : i < 9223372036854775808) (x : Option Addr) (cap n : Nat) (h : i < 0 ∨ (n : Int) ≤ i) (w : World) :
    Calls Try.prog 29 #[.int .i64 i, .slice x n cap] w fun e w' => e = .returned (.tuple #[.slice none 0 0, .int .i64 1]) ∧ Below w.heap.size w w' := by
  by_cases h0 : i < 0
  · clear h
    go_enter Try.func29, Try.ntmps29
    go_wp2_with fail
    go_ret2
    exact ⟨rfl, Below.refl _ _⟩
  · have h1 : (n : Int) ≤ i := by omega
    clear h
    go_enter Try.func29, Try.ntmps29
    go_wp2_with fail
    go_ret2
    exact ⟨rfl, Below.refl _ _⟩

set_option maxRecDepth 100000 in
set_option maxHeartbeats 8000000 in
theorem way_any (i0 : Nat) (x : Option Addr) (cap : Nat) (l : List Nat) (hn : l.length ≤ 1000) (hi : i0 < l.length) (w : World) (hx : l ≠ [] → ∃ b o, x = some ⟨b, o, none⟩ ∧ IdsAt w b o l) :
    Calls Try.prog 29 #[.int .i64 i0, .slice x l.length cap] w (WayIs w (wayL l.length l i0)) := by
  obtain ⟨L, hL⟩ : ∃ L, L = wayL l.length l i0 := ⟨_, rfl⟩
  rw [← hL]
  have HL := Lib.hid hL
  obtain ⟨N, hN⟩ : ∃ N, N = l.length := ⟨_, rfl⟩
  rw [← hN] at hn hi
  rw [← hN]
  obtain ⟨b, o, rfl, hI⟩ := hx (by intro e; rw [e] at hN; simp at hN; omega)
  have HN := Lib.hid hN
  have HI := Lib.hid (hI.keep (below_alloc (Below.refl _ _) (.cells #[] 25 (0, 0))))
  have HLE : Hid (([] : List Nat).length + l.length ≤ 1000000) := Lib.hid (by rw [← HN.out]; simp; omega)
  have HSL : Hid (Value.slice (some ⟨b, o, none⟩) N cap = .slice (some ⟨b, o, none⟩) l.length cap) := Lib.hid (by rw [HN.out])
  have HOW : Hid (OwnsI (w.alloc (.cells #[] 25 (0, 0))) w.heap.size (.slice (some ⟨w.heap.size, 0, none⟩) 0 0) []) := Lib.hid (OwnsI.new w _ (Nat.le_refl _))
  have hi1 : ¬ (i0 : Int) < 0 := by omega
  have hi2 : (i0 : Int) < (N : Int) := by omega
  clear hL hN hI hx
  go_enter Try.func29, Try.ntmps29
  go_wp2_with (at_builtin; refine wpList_append_ids rfl (.tmp 17) (.tmp 18) rfl w.heap.size _ [] rfl HOW.out l (some ⟨b, o, none⟩) cap HSL.out (fun e => by cases e) (fun _ => ⟨b, o, rfl, HI.out⟩) HLE.out (by simp) (fun v' w2 hown' hbel => ?_); (rw [List.nil_append] at hown'); have HO := Lib.hid hown'; have B2 := Lib.hid (hbel w.heap.size w (Nat.le_refl _) (below_alloc (Below.refl _ _) _)); obtain ⟨x2, c2, rfl⟩ := hown'.shape; clear hown' hbel)
  clear HI HLE HSL HOW
  go_loopg [0, 6, 7] N (fun g av ov sv wr => ∃ (f : Nat) (m : List Nat) (i : Nat) (A : List Nat), g = m.length ∧ m.length ≤ f + 1 ∧ i < m.length ∧ m.length ≤ 1000 ∧ A ++ wayL f m i = L ∧ A.length + m.length ≤ 1000 ∧ av = .int .i64 i ∧ OwnsI wr w.heap.size ov A ∧ OwnsI wr w.heap.size sv m ∧ Apart ov sv ∧ Below w.heap.size w wr)
  case atStart => exact ⟨l.length, l, i0, [], HN.out, by omega, by rw [← HN.out]; exact hi, by rw [← HN.out]; exact hn, HL.out.symm, by rw [← HN.out]; simpa using hn, rfl, OwnsI.nil _ _, HO.out, Apart.nil _, B2.out⟩
  case round =>
    clear HO B2 HN HL hn hi hi1 hi2
    obtain ⟨f, m, i, A, hg, hf, him, hm1, hA, hAl, rfl, hO, hS, hAp, hB⟩ := hrel
    have HG := Lib.hid hg; have HF := Lib.hid hf; have HA := Lib.hid hA; have HAL := Lib.hid hAl
    obtain ⟨n, hn⟩ : ∃ n, n = m.length := ⟨_, rfl⟩
    rw [← hn] at him hm1
    obtain ⟨gr, cr, rfl, hgr, hgs, hI⟩ := hS.at hn.symm (by omega)
    have HNM := Lib.hid hn; have HI := Lib.hid hI; have HO := Lib.hid hO; have HS := Lib.hid hS; have HB := Lib.hid hB; have HAP := Lib.hid hAp
    clear hg hf hA hAl hO hS hAp hB hI hn
    by_cases h1 : 1 < n
    · obtain ⟨wo, rfl⟩ : ∃ wo : World, wo = wr := ⟨_, rfl⟩
      have h1' : (1 : Int) < (n : Int) := by omega
      obtain ⟨f, rfl⟩ : ∃ f', f = f' + 1 := ⟨f - 1, by have := HF.out; have := HNM.out; omega⟩
      have HW : Hid (A ++ [sib m i] ++ wayL f (upl m) (i / 2) = L) := Lib.hid (by rw [← HA.out, wayL, if_neg (by rw [← HNM.out]; omega), List.append_assoc]; rfl)
      go_upto_if 26 with fail
      go_cut [7] (fun s7 wc => OwnsI wc w.heap.size s7 (pad m) ∧ OwnsI wc w.heap.size u6 A ∧ Apart u6 s7 ∧ Below w.heap.size w wc)
      case first =>
        by_cases ho : n % 2 = 1
        · have ho' : (n : Int) % 2 = 1 := by omega
          obtain ⟨y, hy⟩ : ∃ y, y = m.getD (n - 1) 0 := ⟨_, rfl⟩
          have HRG : Hid (wo.rangeAt gr ((n - 1) * 32) (ids y)) := Lib.hid (by have := HI.out.range (i := n - 1) (by rw [← HNM.out]; omega); rwa [Nat.zero_add, ← hy] at this)
          have HPD : Hid (pad m = m ++ [y]) := Lib.hid (by unfold pad; rw [← HNM.out, if_pos ho, hy])
          have hL1 : Hid (m.length + 1 ≤ 1000000) := Lib.hid (by rw [← HNM.out]; omega)
          have hbs : w.heap.size ≤ wo.heap.size := HB.out.size
          clear hy
          go_wp2_with (first | refine wpList_load_at rfl (.tmp 32) rfl gr ((n - 1) * 32) y rfl HRG.out ?_ | refine wpList_build_1 rfl (.tmp 33) y rfl rfl ?_ | (at_builtin; refine wpList_append_id_at rfl (.tmp 27) (.tmp 34) rfl w.heap.size (.slice (some ⟨gr, 0, none⟩) n cr) m rfl (HS.out.keep (below_alloc (Below.refl _ _) _)) y wo.heap.size rfl (heap_new _ _) hL1.out (by simp; omega) (fun v' w5 hown' hgrow hat => ?_)))
          have HOa := Lib.hid (HO.out.keep (below_alloc (Below.refl wo.heap.size wo) (.cells (idsL [y]).toArray 25 (0, 0))))
          have HO2 := Lib.hid (HOa.out.keptA hgrow HAP.out.symm)
          have HAP2 := Lib.hid (Apart.symm (HAP.out.symm.app HOa.out hat))
          have HB2 := Lib.hid (HS.out.keep (below_alloc (Below.refl wo.heap.size wo) (.cells (idsL [y]).toArray 25 (0, 0))) |>.below (below_alloc HB.out (.cells (idsL [y]).toArray 25 (0, 0))) hgrow (Nat.le_refl _) (by simp; omega))
          rw [← HPD.out] at hown'
          have HW5 := Lib.hid hown'
          clear hown' hgrow hat
          go_wp2_with fail
          go_meet
          case rel => exact ⟨HW5.out, HO2.out, HAP2.out, HB2.out⟩
        · have ho' : ¬ (n : Int) % 2 = 1 := by omega
          have HPD : Hid (pad m = m) := Lib.hid (by unfold pad; rw [← HNM.out, if_neg ho])
          go_wp2_with fail
          go_meet
          case rel => exact ⟨by rw [HPD.out]; exact HS.out, HO.out, HAP.out, HB.out⟩
      case rest =>
        obtain ⟨hS, hO, hAp, hB⟩ := hcut
        obtain ⟨W, rfl⟩ : ∃ W : World, W = wc := ⟨_, rfl⟩
        clear HS HO HAP HB HI
        have hpl := pad_len m
        obtain ⟨h2, hh2⟩ : ∃ h, h = (n + 1) / 2 := ⟨_, rfl⟩
        rw [← HNM.out, ← hh2] at hpl
        obtain ⟨N2, hN2⟩ : ∃ k, k = h2 * 2 := ⟨_, rfl⟩
        rw [← hN2] at hpl
        obtain ⟨g7, c7, rfl, hg7, hg7s, hI⟩ := hS.at hpl (by omega)
        obtain ⟨j, hj⟩ : ∃ j, j = i ^^^ 1 := ⟨_, rfl⟩
        have hjN : j < N2 := by
          have := xor1 i
          rw [← hj] at this
          split at this <;> omega
        have hq : (N2 : Int) / 2 = (h2 : Int) := by omega
        have hb2 : N2 ≤ 2000 := by omega
        have hx : bits .xor .i64 (i : Int) 1 = (j : Int) := by rw [hj]; exact bits_xor_i64_nat i 1 (by omega) (by omega)
        obtain ⟨y, hy⟩ : ∃ y, y = (pad m).getD j 0 := ⟨_, rfl⟩
        have hsb : sib m i = y := by rw [hy, hj]; rfl
        rw [hsb] at HW
        have HRG : Hid (W.rangeAt g7 (j * 32) (ids y)) := Lib.hid (by have := hI.range (i := j) (by rw [hpl]; exact hjN); rwa [Nat.zero_add, ← hy] at this)
        have HPL := Lib.hid hpl
        have HH2 := Lib.hid hh2; have HN2 := Lib.hid hN2
        have HS := Lib.hid hS; have HO := Lib.hid hO; have HAP := Lib.hid hAp; have HB := Lib.hid hB
        have HL1 : Hid (A.length + 1 ≤ 1000000) := Lib.hid (by have := HAL.out; omega)
        have hbs : w.heap.size ≤ W.heap.size := hB.size
        clear hS hO hAp hB hI hpl hj hh2 hN2 hsb hy
        go_wp2_with (first | refine wpList_load_at rfl (.tmp 40) rfl g7 (j * 32) y rfl HRG.out ?_ | refine wpList_build_1 rfl (.tmp 41) y rfl rfl ?_ | (at_builtin; refine wpList_append_id_at rfl (.tmp 36) (.tmp 42) rfl w.heap.size u6 A rfl (HO.out.keep (below_alloc (Below.refl _ _) _)) y W.heap.size rfl (heap_new _ _) HL1.out (by simp; omega) (fun v' w5 hown' hgrow hat => ?_)))
        have HOa := Lib.hid (HO.out.keep (below_alloc (Below.refl W.heap.size W) (.cells (idsL [y]).toArray 25 (0, 0))))
        have HSa := Lib.hid (HS.out.keep (below_alloc (Below.refl W.heap.size W) (.cells (idsL [y]).toArray 25 (0, 0))))
        have HS2 := Lib.hid (HSa.out.keptA hgrow HAP.out)
        have HAP2 := Lib.hid (HAP.out.app HSa.out hat)
        have HB2 := Lib.hid (HOa.out.below (below_alloc HB.out (.cells (idsL [y]).toArray 25 (0, 0))) hgrow (Nat.le_refl _) (by simp; omega))
        have HO2 := Lib.hid hown'
        have hbs2 : w.heap.size ≤ w5.heap.size := HB2.out.size
        clear hown' hgrow hat HOa HSa HS HO HAP HB HRG HL1 hx hjN
        have HMZ := Lib.hid (mix_zero (pad m))
        have HUP := Lib.hid (upl_len (pad m))
        go_loopg [8] h2 (fun g kv wr => ∃ k : Nat, g = h2 - k ∧ k ≤ h2 ∧ kv = .int .i64 k ∧ OwnsI wr w.heap.size (.slice (some ⟨g7, 0, none⟩) N2 c7) (mix (pad m) k) ∧ OwnsI wr w.heap.size v' (A ++ [y]) ∧ Below w.heap.size w wr)
        case atStart => exact ⟨0, rfl, by omega, rfl, by rw [HMZ.out]; exact HS2.out, HO2.out, HB2.out⟩
        case round =>
          clear HS2 HO2 HB2 HMZ
          obtain ⟨k, hg, hk, rfl, hS, hO, hB⟩ := hrel
          have HG2 := Lib.hid hg; have HS := Lib.hid hS; have HO := Lib.hid hO; have HB := Lib.hid hB
          clear hg hS hO hB
          have hU : (upl (pad m)).length = h2 := by have := HUP.out; have := HPL.out; have := HN2.out; omega
          have HML : Hid ((mix (pad m) k).length = N2) := Lib.hid (by rw [mix_len _ _ (by omega)]; exact HPL.out)
          by_cases hlt : k < h2
          · obtain ⟨k2, hk2⟩ : ∃ k2, k2 = 2 * k := ⟨_, rfl⟩
            obtain ⟨k3, hk3⟩ : ∃ k3, k3 = k2 + 1 := ⟨_, rfl⟩
            have hk3N : k3 < N2 := by have := HN2.out; omega
            have hk2N : k2 < N2 := by omega
            have hkN : k < N2 := by omega
            have e2 : 2 * (k : Int) = (k2 : Int) := by omega
            have e3 : (k2 : Int) + 1 = (k3 : Int) := by omega
            have hlt' : (k : Int) < (h2 : Int) := by omega
            have hup := pad_up m k (by have := HPL.out; have := HN2.out; omega)
            rw [← hk2, ← hk3] at hup
            have hms := mix_set (pad m) k (by rw [hU]; exact hlt)
            have m2 := mix_get (pad m) k k2 (by omega) (by omega)
            have m3 := mix_get (pad m) k k3 (by omega) (by omega)
            obtain ⟨a, ha⟩ : ∃ a, a = (pad m).getD k2 0 := ⟨_, rfl⟩
            obtain ⟨c, hc⟩ : ∃ c, c = (pad m).getD k3 0 := ⟨_, rfl⟩
            rw [← ha, ← hc] at hup
            rw [← hup] at hms
            rw [← ha] at m2
            rw [← hc] at m3
            obtain ⟨X, hX⟩ : ∃ X, X = prs a c := ⟨_, rfl⟩
            have HPA := Lib.hid fun W => pair_any a c W
            rw [← hX] at HPA hms
            have HMS := Lib.hid hms
            obtain ⟨g8, c8, e8, hg8, hg8s, hI⟩ := HS.out.at HML.out (by omega)
            simp only [Value.slice.injEq, Option.some.injEq, Addr.mk.injEq, and_true, true_and] at e8
            obtain ⟨rfl, rfl⟩ := e8
            have RA : Hid (∀ V, Below wr.heap.size wr V → V.rangeAt g7 (k2 * 32) (ids a)) := Lib.hid fun V hb => by
              have := (hI.keep hb).range (i := k2) (by rw [HML.out]; exact hk2N)
              rwa [Nat.zero_add, m2] at this
            have RC : Hid (∀ V, Below wr.heap.size wr V → V.rangeAt g7 (k3 * 32) (ids c)) := Lib.hid fun V hb => by
              have := (hI.keep hb).range (i := k3) (by rw [HML.out]; exact hk3N)
              rwa [Nat.zero_add, m3] at this
            have hbs3 : w.heap.size ≤ wr.heap.size := HB.out.size
            clear hup hms m2 m3 ha hc hX hI hk2 hk3 hU hg8 hg8s
            go_wp2_with fail
            refine wp_region_tail 15 [Is (.slice (some ⟨g7, 0, none⟩) N2 c7), Is (.int .i64 k), Is (.slice (some ⟨g7, 0, none⟩) N2 c7), Is (.int .i64 k), Is (.int .i64 k2), Is (.pointer (some ⟨g7, k2 * 32, none⟩)), Is (iv a), Is (.slice (some ⟨g7, 0, none⟩) N2 c7), Is (.int .i64 k), Is (.int .i64 k2), Is (.int .i64 k3), Is (.pointer (some ⟨g7, k3 * 32, none⟩)), Is (iv c), Is (iv X), Is (.pointer (some ⟨g7, k * 32, none⟩))] [[], [], [], [], [(3, some 54)], [(2, some 53), (4, some 55)], [(5, some 56)], [], [], [(8, some 59)], [(9, some 60)], [(7, some 58), (10, some 61)], [(11, some 62)], [(6, some 57), (12, some 63)], [(0, some 51), (1, some 52)], [(13, some 64), (14, some 65)]] [(0, some 51), (1, some 52), (2, some 53), (3, some 54), (4, some 55), (5, some 56), (6, some 57), (7, some 58), (8, some 59), (9, some 60), (10, some 61), (11, some 62), (12, some 63), (13, some 64), (14, some 65)] [0, 0, 0, 0, 8, 28, 60, 0, 0, 256, 768, 1920, 3968, 8188, 16383, 32767]
              (by kernel_rfl) (by kernel_rfl) (by kernel_rfl) (by kernel_rfl) (by kernel_rfl) ⟨Is.kept _, Is.kept _, Is.kept _, Is.kept _, Is.kept _, Is.kept _, Is.kept _, Is.kept _, Is.kept _, Is.kept _, Is.kept _, Is.kept _, Is.kept _, Is.kept _, Is.kept _, trivial⟩ ⟨?_, ?_, ?_, ?_, ?_, ?_, ?_, ?_, ?_, ?_, ?_, ?_, ?_, ?_, ?_, trivial⟩ ?_
            · as_aux_lemma =>
              refine fun w' hB => ?_
              show wpList _ _ _ _ _ _
              go_wp2_with fail
              exact ⟨.slice (some ⟨g7, 0, none⟩) N2 c7, by first | rfl | (go_simp; done), rfl, Below.refl _ _⟩
            · as_aux_lemma =>
              refine fun w' hB => ?_
              show wpList _ _ _ _ _ _
              go_wp2_with fail
              exact ⟨.int .i64 k, by first | rfl | (go_simp; done), rfl, Below.refl _ _⟩
            · as_aux_lemma =>
              refine fun w' hB => ?_
              show wpList _ _ _ _ _ _
              go_wp2_with fail
              exact ⟨.slice (some ⟨g7, 0, none⟩) N2 c7, by first | rfl | (go_simp; done), rfl, Below.refl _ _⟩
            · as_aux_lemma =>
              refine fun w' hB => ?_
              show wpList _ _ _ _ _ _
              go_wp2_with fail
              exact ⟨.int .i64 k, by first | rfl | (go_simp; done), rfl, Below.refl _ _⟩
            · as_aux_lemma =>
              refine fun w' hB v3 h3 => ?_
              obtain rfl := h3
              show wpList _ _ _ _ _ _
              go_wp2_with fail
              exact ⟨.int .i64 k2, by first | rfl | (go_simp; done), rfl, Below.refl _ _⟩
            · as_aux_lemma =>
              refine fun w' hB v2 h2 v4 h4 => ?_
              obtain rfl := h2
              obtain rfl := h4
              show wpList _ _ _ _ _ _
              go_wp2_with fail
              exact ⟨.pointer (some ⟨g7, k2 * 32, none⟩), by first | rfl | (go_simp; done), rfl, Below.refl _ _⟩
            · as_aux_lemma =>
              refine fun w' hB v5 h5 => ?_
              obtain rfl := h5
              show wpList _ _ _ _ _ _
              go_wp2_with (first | refine wpList_load_at rfl (.tmp 56) rfl g7 (k2 * 32) a rfl (RA.out w' hB) ?_)
              exact ⟨iv a, rfl, rfl, Below.refl _ _⟩
            · as_aux_lemma =>
              refine fun w' hB => ?_
              show wpList _ _ _ _ _ _
              go_wp2_with fail
              exact ⟨.slice (some ⟨g7, 0, none⟩) N2 c7, by first | rfl | (go_simp; done), rfl, Below.refl _ _⟩
            · as_aux_lemma =>
              refine fun w' hB => ?_
              show wpList _ _ _ _ _ _
              go_wp2_with fail
              exact ⟨.int .i64 k, by first | rfl | (go_simp; done), rfl, Below.refl _ _⟩
            · as_aux_lemma =>
              refine fun w' hB v8 h8 => ?_
              obtain rfl := h8
              show wpList _ _ _ _ _ _
              go_wp2_with fail
              exact ⟨.int .i64 k2, by first | rfl | (go_simp; done), rfl, Below.refl _ _⟩
            · as_aux_lemma =>
              refine fun w' hB v9 h9 => ?_
              obtain rfl := h9
              show wpList _ _ _ _ _ _
              go_wp2_with fail
              exact ⟨.int .i64 k3, by first | rfl | (go_simp; done), rfl, Below.refl _ _⟩
            · as_aux_lemma =>
              refine fun w' hB v7 h7 v10 h10 => ?_
              obtain rfl := h7
              obtain rfl := h10
              show wpList _ _ _ _ _ _
              go_wp2_with fail
              exact ⟨.pointer (some ⟨g7, k3 * 32, none⟩), by first | rfl | (go_simp; done), rfl, Below.refl _ _⟩
            · as_aux_lemma =>
              refine fun w' hB v11 h11 => ?_
              obtain rfl := h11
              show wpList _ _ _ _ _ _
              go_wp2_with (first | refine wpList_load_at rfl (.tmp 62) rfl g7 (k3 * 32) c rfl (RC.out w' hB) ?_)
              exact ⟨iv c, rfl, rfl, Below.refl _ _⟩
            · as_aux_lemma =>
              refine fun w' hB v6 h6 v12 h12 => ?_
              obtain rfl := h6
              obtain rfl := h12
              show wpList _ _ _ _ _ _
              go_wp2_with fail
              refine (HPA.out w').mono ?_
              rintro e w2 ⟨rfl, hb2⟩
              go_wp2_with fail
              exact ⟨iv X, by first | rfl | (go_simp; done), rfl, hb2⟩
            · as_aux_lemma =>
              refine fun w' hB v0 h0 v1 h1 => ?_
              obtain rfl := h0
              obtain rfl := h1
              show wpList _ _ _ _ _ _
              go_wp2_with fail
              exact ⟨.pointer (some ⟨g7, k * 32, none⟩), by first | rfl | (go_simp; done), rfl, Below.refl _ _⟩
            · refine fun w' hB v0 h0 v1 h1 v2 h2 v3 h3 v4 h4 v5 h5 v6 h6 v7 h7 v8 h8 v9 h9 v10 h10 v11 h11 v12 h12 v13 h13 v14 h14 => ?_
              obtain rfl := h13
              obtain rfl := h14
              simp only [onP, List.drop_succ_cons, List.drop_zero]
              go_simp
              clear h0 h1 h2 h3 h4 h5 h6 h7 h8 h9 h10 h11 h12
              have HO3 := Lib.hid (HO.out.keep hB)
              have HS3 := Lib.hid (HS.out.keep hB)
              have HB3 := Lib.hid (below_next HB.out hB)
              have hbs4 : w.heap.size ≤ w'.heap.size := HB3.out.size
              clear hB
              go_wp2_with (first | (refine wpList_store_row rfl (.tmp 65) (.tmp 64) rfl w.heap.size g7 c7 N2 k X (mix (pad m) k) rfl rfl HML.out hkN HS3.out (fun w9 hown hgr => ?_)))
              rw [HMS.out] at hown
              have HS9 := Lib.hid hown
              have HO9 := Lib.hid (HO3.out.keptA hgr HAP2.out.symm)
              have HB9 := Lib.hid (HS3.out.below HB3.out hgr (Nat.le_refl _) hbs4)
              clear hown hgr
              go_wp2_with fail
              go_roundg (h2 - (k + 1))
              case measure => have := HG2.out; omega
              case rel => exact ⟨k + 1, rfl, by omega, by go_num, HS9.out, HO9.out, HB9.out⟩
          · obtain rfl : k = h2 := by omega
            have HME : Hid ((mix (pad m) k).take k = upl m) := Lib.hid (by have := mix_end m; rwa [HPL.out, show N2 / 2 = k by omega] at this)
            have HC := Lib.hid (HS.out.cut HML.out (k := k) (by omega))
            rw [HME.out] at HC
            have HULM := Lib.hid (upl_len m)
            have HAPC := Lib.hid (Apart.cutR (n' := k) HAP2.out)
            have hkN : k ≤ N2 := by omega
            have hNc : N2 ≤ c7 := by
              rcases HS.out.2 with ⟨e, _⟩ | ⟨g', cap', cur, e, _, _, hnc, _⟩
              · cases e
              · simp only [Value.slice.injEq, Option.some.injEq, Addr.mk.injEq, and_true] at e
                have := HML.out
                omega
            clear hlt
            go_wp2_with fail
            go_roundg ((upl m).length)
            case measure => have := HG.out; have := HULM.out; have := HNM.out; omega
            case rel => exact ⟨f, upl m, i / 2, A ++ [y], rfl, by have := HF.out; have := HULM.out; have := HNM.out; omega, by have := HULM.out; have := HNM.out; omega, by have := HULM.out; have := HNM.out; omega, HW.out, by have := HULM.out; have := HNM.out; have := HAL.out; rw [List.length_append, List.length_singleton]; omega, by go_num, HO.out, HC.out, HAPC.out, HB.out⟩
    · obtain rfl : n = 1 := by omega
      have HE : Hid (A = L) := Lib.hid (by rw [← HA.out]; cases f <;> simp [wayL, ← HNM.out])
      have h1' : ¬ (1 : Int) < ((1 : Nat) : Int) := by omega
      go_wp2_with fail
      go_ret2
      exact ⟨u6, rfl, by rw [← HE.out]; exact HO.out, HB.out⟩
end Go.Proofs.Ytfopockjakeplaa
