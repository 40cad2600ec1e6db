/- law04.clash. No condition. -/
import Derived.Test.YtfopockjakeplaaMkJ
import Derived.Test.YtfopockjakeplaaOnePlain
import Derived.Test.YtfopockjakeplaaOwnTwo
import Derived.Test.YtfopockjakeplaaRegOnce
namespace Go.Proofs.Ytfopockjakeplaa
open Go.RowKit

theorem idb_in {w : World} {g o n : Nat} (h : w.rangeAt g o (ids n)) (c : Nat) : BytesAt w (.slice (some ⟨g, o, none⟩) 32 c) (idb n) :=
  .inr ⟨⟨g, o, none⟩, c, by rw [idb_len], fun j hj => by
    rw [idb_len] at hj
    rw [Addr.add_lit, h j _ (ids_get n j hj), idb_get n j hj]⟩

theorem getD_lt {l : List Nat} (h : ∀ y ∈ l, y < 2 ^ 256) (i : Nat) : l.getD i 0 < 2 ^ 256 := by
  rw [List.getD_eq_getElem?_getD]
  rcases e : l[i]? with _ | y
  · simp
  · exact h y (List.mem_of_getElem? e)
set_option maxRecDepth 100000 in
set_option maxHeartbeats 4000000 in
theorem clash_any (a0 b0 : List Nat) (hl : a0.length = b0.length) (ha : ∀ y ∈ a0, y < 2 ^ 256) (hb : ∀ y ∈ b0, y < 2 ^ 256) (hn : a0.length ≤ 1000) (x0 y0 : Option Addr) (c0 d0 : Nat) (w : World)
    (hx : a0 ≠ [] → ∃ b o, x0 = some ⟨b, o, none⟩ ∧ IdsAt w b o a0) (hy : b0 ≠ [] → ∃ b o, y0 = some ⟨b, o, none⟩ ∧ IdsAt w b o b0) :
    Calls Try.prog 27 #[.slice x0 a0.length c0, .slice y0 a0.length d0] w fun e w' => e = .returned (.bool (clash a0.length a0 b0)) ∧ Below w.heap.size w w' := by
  obtain ⟨R, hR⟩ : ∃ R, R = clash a0.length a0 b0 := ⟨_, rfl⟩
  rw [← hR]
  have HR := Lib.hid hR.symm; have HX := Lib.hid hx; have HY := Lib.hid hy; have HA := Lib.hid ha; have HB0 := Lib.hid hb; have HL := Lib.hid hl; have HN := Lib.hid hn
  clear hR hx hy ha hb hl hn
  obtain ⟨n0, hn0⟩ : ∃ n, n = a0.length := ⟨_, rfl⟩
  rw [← hn0]
  have HN0 := Lib.hid hn0
  clear hn0
  go_enter Try.func27, Try.ntmps27
  go_wp2_with fail
  go_loopg [0, 1] n0 (fun g av bv wr => ∃ (f : Nat) (a b : List Nat) (x y : Option Addr) (c d : Nat), g = a.length ∧ a.length = b.length ∧ a.length ≤ f + 1 ∧ a.length ≤ 1000 ∧ (∀ y ∈ a, y < 2 ^ 256) ∧ (∀ y ∈ b, y < 2 ^ 256) ∧ clash f a b = R ∧ av = .slice x a.length c ∧ bv = .slice y a.length d ∧
    (a ≠ [] → ∃ g o, x = some ⟨g, o, none⟩ ∧ IdsAt wr g o a) ∧ (b ≠ [] → ∃ g o, y = some ⟨g, o, none⟩ ∧ IdsAt wr g o b) ∧ Below w.heap.size w wr)
  case atStart => exact ⟨a0.length, a0, b0, x0, y0, c0, d0, HN0.out, HL.out, by omega, HN.out, HA.out, HB0.out, HR.out, by rw [HN0.out], by rw [HN0.out], HX.out, HY.out, Below.refl _ _⟩
  case round =>
    clear HR HX HY HA HB0 HL HN HN0
    obtain ⟨f, a, b, x, y, c, d, hg, hl, hf, hm, hab, hbb, hR, rfl, rfl, hX, hY, hB⟩ := hrel
    have HG := Lib.hid hg; have HL := Lib.hid hl; have HF := Lib.hid hf; have HA := Lib.hid hab; have HBL := Lib.hid hbb; have HR := Lib.hid hR; have HX := Lib.hid hX; have HY := Lib.hid hY; have HB := Lib.hid hB
    obtain ⟨n, hn⟩ : ∃ n, n = a.length := ⟨_, rfl⟩
    rw [← hn] at hm
    rw [← hn]
    have HN := Lib.hid hn
    clear hg hl hf hab hbb hR hX hY hB hn
    by_cases h1 : 1 < n
    · obtain ⟨ga, oa, rfl, hIa⟩ := HX.out (by intro e; have := HN.out; rw [e] at this; simp at this; omega)
      obtain ⟨gb, ob, rfl, hIb⟩ := HY.out (by intro e; have := HN.out; rw [HL.out, e] at this; simp at this; omega)
      have HIA := Lib.hid hIa; have HIB := Lib.hid hIb
      clear hIa hIb HX HY
      obtain ⟨wo, rfl⟩ : ∃ wo : World, wo = wr := ⟨_, rfl⟩
      go_wp2_with fail
      rw [show decide ((1 : Int) < (n : Int)) = true from decide_eq_true (by omega)]
      go_loopg [5, 6, 7] (n + 2) (fun g u v ix wr2 => ∃ i : Nat, g = n + 2 - i ∧ i % 2 = 0 ∧ i ≤ n + 1 ∧ ix = .int .i64 i ∧ cl1 (a.take i) (b.take i) = false ∧ OwnsI wr2 wo.heap.size u (upl (a.take i)) ∧ OwnsI wr2 wo.heap.size v (upl (b.take i)) ∧ (u.ownBlock = none ∨ v.ownBlock = none ∨ u.ownBlock ≠ v.ownBlock) ∧ Below wo.heap.size wo wr2)
      case atStart => exact ⟨0, rfl, rfl, by omega, rfl, by simp [cl1], OwnsI.nil _ _, OwnsI.nil _ _, .inl rfl, Below.refl _ _⟩
      case round =>
        obtain ⟨i, hgi, hie, hin, rfl, hcl, hU, hV, hap, hB2⟩ := hrel
        have HGI := Lib.hid hgi; have HU := Lib.hid hU; have HV := Lib.hid hV; have HAP := Lib.hid hap; have HBB := Lib.hid hB2; have HIE := Lib.hid hie; have HCL := Lib.hid hcl
        clear hgi hU hV hap hB2 hie hcl
        by_cases hlt : i < n
        · obtain ⟨j, hj⟩ : ∃ j, j = min (i + 1) (n - 1) := ⟨_, rfl⟩
          have HJ := Lib.hid hj
          have hjn : j < n := by omega
          have hj1 : min ((i : Int) + 1) ((n : Int) - 1) = (j : Int) := by omega
          clear hj
          go_wp2_with fail
          obtain ⟨p, hp⟩ : ∃ p, p = a.getD i 0 := ⟨_, rfl⟩
          obtain ⟨q, hq⟩ : ∃ q, q = a.getD j 0 := ⟨_, rfl⟩
          obtain ⟨r, hr⟩ : ∃ r, r = b.getD i 0 := ⟨_, rfl⟩
          obtain ⟨s, hs⟩ : ∃ s, s = b.getD j 0 := ⟨_, rfl⟩
          have hia : i < a.length := by rw [← HN.out]; exact hlt
          have hja : j < a.length := by rw [← HN.out]; exact hjn
          have hjj : j = min (i + 1) (a.length - 1) := by rw [← HN.out]; exact HJ.out
          have UA := Lib.hid (upl_j (j := j) hia HIE.out hjj)
          have UB := Lib.hid (upl_j (a := b) (j := j) (by rw [← HL.out]; exact hia) HIE.out (by rw [← HL.out]; exact hjj))
          have UC := cl1_j (j := j) HL.out hia HIE.out hjj
          rw [HCL.out, Bool.false_or] at UC
          rw [← hp, ← hq] at UA UC
          rw [← hr, ← hs] at UB UC
          have UCH := Lib.hid UC
          have RP := Lib.hid ((HIA.out.keep HBB.out).range hia)
          have RQ := Lib.hid ((HIA.out.keep HBB.out).range hja)
          have RR := Lib.hid ((HIB.out.keep HBB.out).range (i := i) (by rw [← HL.out]; exact hia))
          have RS := Lib.hid ((HIB.out.keep HBB.out).range (i := j) (by rw [← HL.out]; exact hja))
          rw [← hp] at RP
          rw [← hq] at RQ
          rw [← hr] at RR
          rw [← hs] at RS
          have RPF := Lib.hid fun V (hb : Below wr.heap.size wr V) => ((HIA.out.keep HBB.out).keep hb).range hia
          have RQF := Lib.hid fun V (hb : Below wr.heap.size wr V) => ((HIA.out.keep HBB.out).keep hb).range hja
          have RRF := Lib.hid fun V (hb : Below wr.heap.size wr V) => ((HIB.out.keep HBB.out).keep hb).range (i := i) (by rw [← HL.out]; exact hia)
          have RSF := Lib.hid fun V (hb : Below wr.heap.size wr V) => ((HIB.out.keep HBB.out).keep hb).range (i := j) (by rw [← HL.out]; exact hja)
          rw [← hp] at RPF
          rw [← hq] at RQF
          rw [← hr] at RRF
          rw [← hs] at RSF
          have hpl : p < 2 ^ 256 ∧ q < 2 ^ 256 ∧ r < 2 ^ 256 ∧ s < 2 ^ 256 := ⟨by rw [hp]; exact getD_lt HA.out i, by rw [hq]; exact getD_lt HA.out j, by rw [hr]; exact getD_lt HBL.out i, by rw [hs]; exact getD_lt HBL.out j⟩
          have HPL := Lib.hid hpl
          obtain ⟨X, hX⟩ : ∃ X, X = prs p q := ⟨_, rfl⟩
          obtain ⟨Y, hY⟩ : ∃ Y, Y = prs r s := ⟨_, rfl⟩
          have HXX := Lib.hid hX; have HYY := Lib.hid hY
          have c1 := Lib.hid fun (V : World) g2 (hg : V.heap[g2]? = some (.cells #[.slice (some ⟨ga, oa + i * 32, none⟩) 32 32, .slice (some ⟨ga, oa + j * 32, none⟩) 32 32] 22 (0, 0))) (hb : Below wr.heap.size wr V) =>
            twice_two _ _ (idb p) (idb q) g2 22 2 V hg ((idb_in RP.out 32).keep hb) ((idb_in RQ.out 32).keep hb) (idb_byte p) (idb_byte q) (by rw [idb_len, idb_len]; omega)
          have c2 := Lib.hid fun (V : World) g2 (hg : V.heap[g2]? = some (.cells #[.slice (some ⟨gb, ob + i * 32, none⟩) 32 32, .slice (some ⟨gb, ob + j * 32, none⟩) 32 32] 22 (0, 0))) (hb : Below wr.heap.size wr V) =>
            twice_two _ _ (idb r) (idb s) g2 22 2 V hg ((idb_in RR.out 32).keep hb) ((idb_in RS.out 32).keep hb) (idb_byte r) (idb_byte s) (by rw [idb_len, idb_len]; omega)
          rw [show tw (idb p ++ idb q) = X from hX.symm] at c1
          rw [show tw (idb r ++ idb s) = Y from hY.symm] at c2
          have ez := iblk_lit
          clear hp hq hr hs hia hja hjj UC hpl hX hY
          refine wp_region_new 22 (fun j => decide (j = 20) || decide (j = 21)) [Is (.slice (some ⟨ga, oa, none⟩) n c), Is (.int .i64 i), Is (.pointer (some ⟨ga, oa + i * 32, none⟩)), Is (.slice (some ⟨ga, oa + i * 32, none⟩) 32 32), Is (.slice (some ⟨ga, oa, none⟩) n c), Is (.int .i64 j), Is (.pointer (some ⟨ga, oa + j * 32, none⟩)), Is (.slice (some ⟨ga, oa + j * 32, none⟩) 32 32), RowOf #[.slice (some ⟨ga, oa + i * 32, none⟩) 32 32, .slice (some ⟨ga, oa + j * 32, none⟩) 32 32] 22 2 2, Is (iv X), Is (.slice (some ⟨gb, ob, none⟩) n d), Is (.int .i64 i), Is (.pointer (some ⟨gb, ob + i * 32, none⟩)), Is (.slice (some ⟨gb, ob + i * 32, none⟩) 32 32), Is (.slice (some ⟨gb, ob, none⟩) n d), Is (.int .i64 j), Is (.pointer (some ⟨gb, ob + j * 32, none⟩)), Is (.slice (some ⟨gb, ob + j * 32, none⟩) 32 32), RowOf #[.slice (some ⟨gb, ob + i * 32, none⟩) 32 32, .slice (some ⟨gb, ob + j * 32, none⟩) 32 32] 22 2 2, Is (iv Y), BoxOf (iblk 0), BoxOf (iblk 0)] [[], [], [(0, some 26), (1, some 27)], [(2, some 28)], [], [], [(4, some 30), (5, some 31)], [(6, some 32)], [(3, some 29), (7, some 33)], [(8, some 34)], [], [], [(10, some 36), (11, some 37)], [(12, some 38)], [], [], [(14, some 40), (15, some 41)], [(16, some 42)], [(13, some 39), (17, some 43)], [(18, some 44)], [], [], [(9, some 35), (20, some 9)], [(19, some 45), (21, some 10)]] [(0, some 26), (1, some 27), (2, some 28), (3, some 29), (4, some 30), (5, some 31), (6, some 32), (7, some 33), (8, some 34), (9, some 35), (10, some 36), (11, some 37), (12, some 38), (13, some 39), (14, some 40), (15, some 41), (16, some 42), (17, some 43), (18, some 44), (19, some 45), (20, some 9), (21, some 10)] [0, 0, 3, 7, 0, 0, 48, 112, 255, 511, 0, 0, 3072, 7168, 0, 0, 49152, 114688, 261120, 524287, 0, 0, 4194303, 8388607]
            (by kernel_rfl) (by kernel_rfl) (by kernel_rfl) (by kernel_rfl) (by kernel_rfl) ⟨Is.kept _, Is.kept _, Is.kept _, Is.kept _, Is.kept _, Is.kept _, Is.kept _, Is.kept _, RowOf.kept _ _ _ _, Is.kept _, Is.kept _, Is.kept _, Is.kept _, Is.kept _, Is.kept _, Is.kept _, Is.kept _, Is.kept _, RowOf.kept _ _ _ _, Is.kept _, BoxOf.kept _, BoxOf.kept _, trivial⟩ ⟨?_, ?_, ?_, ?_, ?_, ?_, ?_, ?_, ?_, ?_, ?_, ?_, ?_, ?_, ?_, ?_, ?_, ?_, ?_, ?_, ?_, ?_, trivial⟩ ?_
          · as_aux_lemma =>
            refine fun w' hB => ?_
            show wpList _ _ _ _ _ _
            go_wp2_with fail
            exact ⟨.slice (some ⟨ga, oa, none⟩) n c, by first | rfl | (go_simp; done), rfl, Below.refl _ _, fun h => absurd h (by decide)⟩
          · as_aux_lemma =>
            refine fun w' hB => ?_
            show wpList _ _ _ _ _ _
            go_wp2_with fail
            exact ⟨.int .i64 i, by first | rfl | (go_simp; done), rfl, Below.refl _ _, fun h => absurd h (by decide)⟩
          · as_aux_lemma =>
            refine fun w' hB v0 h0 v1 h1 => ?_
            obtain rfl := h0
            obtain rfl := h1
            show wpList _ _ _ _ _ _
            go_wp2_with fail
            exact ⟨.pointer (some ⟨ga, oa + i * 32, none⟩), by first | rfl | (go_simp; done), rfl, Below.refl _ _, fun h => absurd h (by decide)⟩
          · as_aux_lemma =>
            refine fun w' hB v2 h2 => ?_
            obtain rfl := h2
            show wpList _ _ _ _ _ _
            go_wp2_with fail
            exact ⟨.slice (some ⟨ga, oa + i * 32, none⟩) 32 32, by first | rfl | (go_simp; done), rfl, Below.refl _ _, fun h => absurd h (by decide)⟩
          · as_aux_lemma =>
            refine fun w' hB => ?_
            show wpList _ _ _ _ _ _
            go_wp2_with fail
            exact ⟨.slice (some ⟨ga, oa, none⟩) n c, by first | rfl | (go_simp; done), rfl, Below.refl _ _, fun h => absurd h (by decide)⟩
          · as_aux_lemma =>
            refine fun w' hB => ?_
            show wpList _ _ _ _ _ _
            go_wp2_with fail
            exact ⟨.int .i64 j, by first | rfl | (go_simp; done), rfl, Below.refl _ _, fun h => absurd h (by decide)⟩
          · as_aux_lemma =>
            refine fun w' hB v4 h4 v5 h5 => ?_
            obtain rfl := h4
            obtain rfl := h5
            show wpList _ _ _ _ _ _
            go_wp2_with fail
            exact ⟨.pointer (some ⟨ga, oa + j * 32, none⟩), by first | rfl | (go_simp; done), rfl, Below.refl _ _, fun h => absurd h (by decide)⟩
          · as_aux_lemma =>
            refine fun w' hB v6 h6 => ?_
            obtain rfl := h6
            show wpList _ _ _ _ _ _
            go_wp2_with fail
            exact ⟨.slice (some ⟨ga, oa + j * 32, none⟩) 32 32, by first | rfl | (go_simp; done), rfl, Below.refl _ _, fun h => absurd h (by decide)⟩
          · as_aux_lemma =>
            refine fun w' hB v3 h3 v7 h7 => ?_
            obtain rfl := h3
            obtain rfl := h7
            show wpList _ _ _ _ _ _
            go_wp2_with fail
            exact ⟨_, rfl, ⟨_, rfl, heap_new _ _⟩, below_alloc (Below.refl _ _) _, fun h => absurd h (by decide)⟩
          · as_aux_lemma =>
            refine fun w' hB v8 h8 => ?_
            obtain ⟨g8, rfl, hg8⟩ := h8
            show wpList _ _ _ _ _ _
            go_wp2_with fail
            refine (c1.out _ _ hg8 hB).mono ?_
            rintro e w2 ⟨rfl, hb2⟩
            go_wp2_with fail
            exact ⟨iv X, by first | rfl | (go_simp; done), rfl, hb2, fun h => absurd h (by decide)⟩
          · as_aux_lemma =>
            refine fun w' hB => ?_
            show wpList _ _ _ _ _ _
            go_wp2_with fail
            exact ⟨.slice (some ⟨gb, ob, none⟩) n d, by first | rfl | (go_simp; done), rfl, Below.refl _ _, fun h => absurd h (by decide)⟩
          · as_aux_lemma =>
            refine fun w' hB => ?_
            show wpList _ _ _ _ _ _
            go_wp2_with fail
            exact ⟨.int .i64 i, by first | rfl | (go_simp; done), rfl, Below.refl _ _, fun h => absurd h (by decide)⟩
          · as_aux_lemma =>
            refine fun w' hB v10 h10 v11 h11 => ?_
            obtain rfl := h10
            obtain rfl := h11
            show wpList _ _ _ _ _ _
            go_wp2_with fail
            exact ⟨.pointer (some ⟨gb, ob + i * 32, none⟩), by first | rfl | (go_simp; done), rfl, Below.refl _ _, fun h => absurd h (by decide)⟩
          · as_aux_lemma =>
            refine fun w' hB v12 h12 => ?_
            obtain rfl := h12
            show wpList _ _ _ _ _ _
            go_wp2_with fail
            exact ⟨.slice (some ⟨gb, ob + i * 32, none⟩) 32 32, by first | rfl | (go_simp; done), rfl, Below.refl _ _, fun h => absurd h (by decide)⟩
          · as_aux_lemma =>
            refine fun w' hB => ?_
            show wpList _ _ _ _ _ _
            go_wp2_with fail
            exact ⟨.slice (some ⟨gb, ob, none⟩) n d, by first | rfl | (go_simp; done), rfl, Below.refl _ _, fun h => absurd h (by decide)⟩
          · as_aux_lemma =>
            refine fun w' hB => ?_
            show wpList _ _ _ _ _ _
            go_wp2_with fail
            exact ⟨.int .i64 j, by first | rfl | (go_simp; done), rfl, Below.refl _ _, fun h => absurd h (by decide)⟩
          · as_aux_lemma =>
            refine fun w' hB v14 h14 v15 h15 => ?_
            obtain rfl := h14
            obtain rfl := h15
            show wpList _ _ _ _ _ _
            go_wp2_with fail
            exact ⟨.pointer (some ⟨gb, ob + j * 32, none⟩), by first | rfl | (go_simp; done), rfl, Below.refl _ _, fun h => absurd h (by decide)⟩
          · as_aux_lemma =>
            refine fun w' hB v16 h16 => ?_
            obtain rfl := h16
            show wpList _ _ _ _ _ _
            go_wp2_with fail
            exact ⟨.slice (some ⟨gb, ob + j * 32, none⟩) 32 32, by first | rfl | (go_simp; done), rfl, Below.refl _ _, fun h => absurd h (by decide)⟩
          · as_aux_lemma =>
            refine fun w' hB v13 h13 v17 h17 => ?_
            obtain rfl := h13
            obtain rfl := h17
            show wpList _ _ _ _ _ _
            go_wp2_with fail
            exact ⟨_, rfl, ⟨_, rfl, heap_new _ _⟩, below_alloc (Below.refl _ _) _, fun h => absurd h (by decide)⟩
          · as_aux_lemma =>
            refine fun w' hB v18 h18 => ?_
            obtain ⟨g18, rfl, hg18⟩ := h18
            show wpList _ _ _ _ _ _
            go_wp2_with fail
            refine (c2.out _ _ hg18 hB).mono ?_
            rintro e w2 ⟨rfl, hb2⟩
            go_wp2_with fail
            exact ⟨iv Y, by first | rfl | (go_simp; done), rfl, hb2, fun h => absurd h (by decide)⟩
          · as_aux_lemma =>
            refine fun w' hB => ?_
            show wpList _ _ _ _ _ _
            go_wp2_with fail
            exact ⟨_, rfl, ⟨_, rfl, heap_new _ _⟩, below_alloc (Below.refl _ _) _, fun _ => ⟨_, rfl, Nat.le_refl _, by simp⟩⟩
          · as_aux_lemma =>
            refine fun w' hB => ?_
            show wpList _ _ _ _ _ _
            go_wp2_with fail
            exact ⟨_, rfl, ⟨_, rfl, heap_new _ _⟩, below_alloc (Below.refl _ _) _, fun _ => ⟨_, rfl, Nat.le_refl _, by simp⟩⟩
          · refine fun w' G hB hN1 hN2 v0 h0 v1 h1 v2 h2 v3 h3 v4 h4 v5 h5 v6 h6 v7 h7 v8 h8 v9 h9 v10 h10 v11 h11 v12 h12 v13 h13 v14 h14 v15 h15 v16 h16 v17 h17 v18 h18 v19 h19 v20 h20 v21 h21 => ?_
            replace h0 := h0.1
            replace h1 := h1.1
            replace h2 := h2.1
            replace h3 := h3.1
            replace h4 := h4.1
            replace h5 := h5.1
            replace h6 := h6.1
            replace h7 := h7.1
            replace h8 := h8.1
            replace h9 := h9.1
            replace h10 := h10.1
            replace h11 := h11.1
            replace h12 := h12.1
            replace h13 := h13.1
            replace h14 := h14.1
            replace h15 := h15.1
            replace h16 := h16.1
            replace h17 := h17.1
            replace h18 := h18.1
            replace h19 := h19.1
            obtain ⟨h20, hG20⟩ := h20; replace hG20 := hG20 (by decide)
            obtain ⟨h21, hG21⟩ := h21; replace hG21 := hG21 (by decide)
            have hW20 := hN1 20 (by decide) (by decide)
            have hW21 := hN1 21 (by decide) (by decide)
            have hD20_21 := hN2 20 21 (by decide) (by decide) (by decide) (by decide) (by decide)
            clear hN1 hN2
            obtain rfl := h9
            obtain rfl := h19
            obtain ⟨g20, rfl, hg20⟩ := h20
            obtain ⟨g21, rfl, hg21⟩ := h21
            obtain ⟨gn20, en20, hge20, hlt20⟩ := hW20
            obtain rfl := Option.some.inj (hG20.trans en20)
            obtain ⟨gn21, en21, hge21, hlt21⟩ := hW21
            obtain rfl := Option.some.inj (hG21.trans en21)
            have hne20_21 := fun e => hD20_21 (en20.trans ((congrArg some e).trans en21.symm))
            dsimp only at hge20 hlt20 hge21 hlt21 hne20_21
            clear en20 en21
            simp only [onP, List.drop_succ_cons, List.drop_zero]
            go_simp
            clear h0 h1 h2 h3 h4 h5 h6 h7 h8 h10 h11 h12 h13 h14 h15 h16 h17 h18
            have HB7 := Lib.hid hB
            clear hB
            have hgg : g21 ≠ g20 := fun e => hne20_21 e.symm
            go_wp2_with (first | (refine wpList_store_id rfl (.tmp 9) (.tmp 35) rfl g20 0 X rfl rfl hg20 (fun w3 h1 h2 h3 h4 => ?_); have K9 := Lib.hid h1; have K10 := Lib.hid ((h2 g21 hgg).trans hg21); have B3 := Lib.hid (h4 wr.heap.size wr hge20 HB7.out); clear h1 h2 h3 h4) | (refine wpList_store_id rfl (.tmp 10) (.tmp 45) rfl g21 0 Y rfl rfl K10.out (fun w4 h1 h2 h3 h4 => ?_); have KY := Lib.hid h1; have KX := Lib.hid ((h2 g20 hne20_21).trans K9.out); have B4 := Lib.hid (h4 wr.heap.size wr hge21 B3.out); clear h1 h2 h3 h4))
            clear K9 K10 B3 HB7 hg20 hg21 c1 c2 RP RQ RR RS
            have q1 := eq_id X Y (by rw [HXX.out]; exact prs_lt _ _) (by rw [HYY.out]; exact prs_lt _ _)
            have q2 := eq_id p r HPL.out.1 HPL.out.2.2.1
            have q3 := eq_id q s HPL.out.2.1 HPL.out.2.2.2
            obtain ⟨d1, hd1⟩ : ∃ d, d = decide (X = Y) := ⟨_, rfl⟩
            obtain ⟨d2, hd2⟩ : ∃ d, d = decide (p = r) := ⟨_, rfl⟩
            obtain ⟨d3, hd3⟩ : ∃ d, d = decide (q = s) := ⟨_, rfl⟩
            have HT : Hid ((d1 && (!d2 || !d3)) = tst p q r s) := Lib.hid (by unfold tst; rw [← HXX.out, ← HYY.out, hd1, hd2, hd3]; simp)
            rw [← hd1] at q1
            rw [← hd2] at q2
            rw [← hd3] at q3
            clear hd1 hd2 hd3
            cases d1
            · skip
              refine wp_region_by [Is (iv X), Is (iv Y), Is (.bool false), Is (.bool false), Is (undef), Is (undef), Is (undef), Is (undef), Is (undef), Is (undef), Is (undef), Is (undef), Is (undef), Is (undef), Is (undef), Is (undef), Is (undef), Is (undef), Is (undef), Is (undef), Is (undef), Is (undef), Is (undef), Is (undef), Is (.bool false)] [[], [], [(0, some 46), (1, some 47)], [(2, some 48)], [(3, some 49)], [(3, some 49)], [(3, some 49), (4, some 50), (5, some 51)], [(3, some 49), (6, some 52)], [(3, some 49)], [(3, some 49)], [(3, some 49), (8, some 54), (9, some 55)], [(3, some 49), (10, some 56)], [(3, some 49), (7, some 53), (11, some 57)], [(3, some 49), (12, some 58)], [(13, some 59)], [(13, some 59)], [(13, some 59), (14, some 60), (15, some 61)], [(13, some 59), (16, some 62)], [(13, some 59)], [(13, some 59)], [(13, some 59), (18, some 64), (19, some 65)], [(13, some 59), (20, some 66)], [(13, some 59), (17, some 63), (21, some 67)], [(3, some 49), (13, some 59), (22, some 68)], [(3, some 49), (23, some 69)]] [(0, some 46), (1, some 47), (2, some 48), (3, some 49), (4, some 50), (5, some 51), (6, some 52), (7, some 53), (8, some 54), (9, some 55), (10, some 56), (11, some 57), (12, some 58), (13, some 59), (14, some 60), (15, some 61), (16, some 62), (17, some 63), (18, some 64), (19, some 65), (20, some 66), (21, some 67), (22, some 68), (23, some 69), (24, some 70)] [0, 0, 3, 7, 15, 15, 63, 127, 15, 15, 783, 1807, 4095, 8191, 16383, 16383, 65535, 131071, 16383, 16383, 802815, 1851391, 4194303, 8388607, 16777215]
                (by kernel_rfl) (by kernel_rfl) (by kernel_rfl) (by kernel_rfl) ⟨Is.kept _, Is.kept _, Is.kept _, Is.kept _, Is.kept _, Is.kept _, Is.kept _, Is.kept _, Is.kept _, Is.kept _, Is.kept _, Is.kept _, Is.kept _, Is.kept _, Is.kept _, Is.kept _, Is.kept _, Is.kept _, Is.kept _, Is.kept _, Is.kept _, Is.kept _, Is.kept _, Is.kept _, Is.kept _, trivial⟩ ⟨?_, ?_, ?_, ?_, ?_, ?_, ?_, ?_, ?_, ?_, ?_, ?_, ?_, ?_, ?_, ?_, ?_, ?_, ?_, ?_, ?_, ?_, ?_, ?_, ?_, trivial⟩ ?_
              · as_aux_lemma =>
                refine fun w' hB => ?_
                show wpList _ _ _ _ _ _
                go_wp2_with (first | refine wpList_load_id rfl (.tmp 9) rfl g20 X rfl (block_keep hB KX.out) ?_)
                exact ⟨iv X, rfl, rfl, Below.refl _ _⟩
              · as_aux_lemma =>
                refine fun w' hB => ?_
                show wpList _ _ _ _ _ _
                go_wp2_with (first | refine wpList_load_id rfl (.tmp 10) rfl g21 Y rfl (block_keep hB KY.out) ?_)
                exact ⟨iv Y, rfl, rfl, Below.refl _ _⟩
              · as_aux_lemma =>
                refine fun w' hB v0 h0 v1 h1 => ?_
                obtain rfl := h0
                obtain rfl := h1
                show wpList _ _ _ _ _ _
                go_wp2_with fail
                exact ⟨.bool false, by first | rfl | (go_simp; done), rfl, Below.refl _ _⟩
              · as_aux_lemma =>
                refine fun w' hB v2 h2 => ?_
                obtain rfl := h2
                show wpList _ _ _ _ _ _
                go_wp2_with fail
                exact ⟨.bool false, by first | rfl | (go_simp; done), rfl, Below.refl _ _⟩
              · as_aux_lemma =>
                refine fun w' hB v3 h3 => ?_
                obtain rfl := h3
                show wpList _ _ _ _ _ _
                refine wpList_skip (by rfl) ?_
                go_wp2_with fail
                exact ⟨undef, by first | rfl | (go_simp; done), rfl, Below.refl _ _⟩
              · as_aux_lemma =>
                refine fun w' hB v3 h3 => ?_
                obtain rfl := h3
                show wpList _ _ _ _ _ _
                refine wpList_skip (by rfl) ?_
                go_wp2_with fail
                exact ⟨undef, by first | rfl | (go_simp; done), rfl, Below.refl _ _⟩
              · as_aux_lemma =>
                refine fun w' hB v3 h3 v4 h4 v5 h5 => ?_
                obtain rfl := h3
                obtain rfl := h4
                obtain rfl := h5
                show wpList _ _ _ _ _ _
                refine wpList_skip (by rfl) ?_
                go_wp2_with fail
                exact ⟨undef, by first | rfl | (go_simp; done), rfl, Below.refl _ _⟩
              · as_aux_lemma =>
                refine fun w' hB v3 h3 v6 h6 => ?_
                obtain rfl := h3
                obtain rfl := h6
                show wpList _ _ _ _ _ _
                refine wpList_skip (by rfl) ?_
                go_wp2_with fail
                exact ⟨undef, by first | rfl | (go_simp; done), rfl, Below.refl _ _⟩
              · as_aux_lemma =>
                refine fun w' hB v3 h3 => ?_
                obtain rfl := h3
                show wpList _ _ _ _ _ _
                refine wpList_skip (by rfl) ?_
                go_wp2_with fail
                exact ⟨undef, by first | rfl | (go_simp; done), rfl, Below.refl _ _⟩
              · as_aux_lemma =>
                refine fun w' hB v3 h3 => ?_
                obtain rfl := h3
                show wpList _ _ _ _ _ _
                refine wpList_skip (by rfl) ?_
                go_wp2_with fail
                exact ⟨undef, by first | rfl | (go_simp; done), rfl, Below.refl _ _⟩
              · as_aux_lemma =>
                refine fun w' hB v3 h3 v8 h8 v9 h9 => ?_
                obtain rfl := h3
                obtain rfl := h8
                obtain rfl := h9
                show wpList _ _ _ _ _ _
                refine wpList_skip (by rfl) ?_
                go_wp2_with fail
                exact ⟨undef, by first | rfl | (go_simp; done), rfl, Below.refl _ _⟩
              · as_aux_lemma =>
                refine fun w' hB v3 h3 v10 h10 => ?_
                obtain rfl := h3
                obtain rfl := h10
                show wpList _ _ _ _ _ _
                refine wpList_skip (by rfl) ?_
                go_wp2_with fail
                exact ⟨undef, by first | rfl | (go_simp; done), rfl, Below.refl _ _⟩
              · as_aux_lemma =>
                refine fun w' hB v3 h3 v7 h7 v11 h11 => ?_
                obtain rfl := h3
                obtain rfl := h7
                obtain rfl := h11
                show wpList _ _ _ _ _ _
                refine wpList_skip (by rfl) ?_
                go_wp2_with fail
                exact ⟨undef, by first | rfl | (go_simp; done), rfl, Below.refl _ _⟩
              · as_aux_lemma =>
                refine fun w' hB v3 h3 v12 h12 => ?_
                obtain rfl := h3
                obtain rfl := h12
                show wpList _ _ _ _ _ _
                refine wpList_skip (by rfl) ?_
                go_wp2_with fail
                exact ⟨undef, by first | rfl | (go_simp; done), rfl, Below.refl _ _⟩
              · as_aux_lemma =>
                refine fun w' hB v13 h13 => ?_
                obtain rfl := h13
                show wpList _ _ _ _ _ _
                refine wpList_skip (by rfl) ?_
                go_wp2_with fail
                exact ⟨undef, by first | rfl | (go_simp; done), rfl, Below.refl _ _⟩
              · as_aux_lemma =>
                refine fun w' hB v13 h13 => ?_
                obtain rfl := h13
                show wpList _ _ _ _ _ _
                refine wpList_skip (by rfl) ?_
                go_wp2_with fail
                exact ⟨undef, by first | rfl | (go_simp; done), rfl, Below.refl _ _⟩
              · as_aux_lemma =>
                refine fun w' hB v13 h13 v14 h14 v15 h15 => ?_
                obtain rfl := h13
                obtain rfl := h14
                obtain rfl := h15
                show wpList _ _ _ _ _ _
                refine wpList_skip (by rfl) ?_
                go_wp2_with fail
                exact ⟨undef, by first | rfl | (go_simp; done), rfl, Below.refl _ _⟩
              · as_aux_lemma =>
                refine fun w' hB v13 h13 v16 h16 => ?_
                obtain rfl := h13
                obtain rfl := h16
                show wpList _ _ _ _ _ _
                refine wpList_skip (by rfl) ?_
                go_wp2_with fail
                exact ⟨undef, by first | rfl | (go_simp; done), rfl, Below.refl _ _⟩
              · as_aux_lemma =>
                refine fun w' hB v13 h13 => ?_
                obtain rfl := h13
                show wpList _ _ _ _ _ _
                refine wpList_skip (by rfl) ?_
                go_wp2_with fail
                exact ⟨undef, by first | rfl | (go_simp; done), rfl, Below.refl _ _⟩
              · as_aux_lemma =>
                refine fun w' hB v13 h13 => ?_
                obtain rfl := h13
                show wpList _ _ _ _ _ _
                refine wpList_skip (by rfl) ?_
                go_wp2_with fail
                exact ⟨undef, by first | rfl | (go_simp; done), rfl, Below.refl _ _⟩
              · as_aux_lemma =>
                refine fun w' hB v13 h13 v18 h18 v19 h19 => ?_
                obtain rfl := h13
                obtain rfl := h18
                obtain rfl := h19
                show wpList _ _ _ _ _ _
                refine wpList_skip (by rfl) ?_
                go_wp2_with fail
                exact ⟨undef, by first | rfl | (go_simp; done), rfl, Below.refl _ _⟩
              · as_aux_lemma =>
                refine fun w' hB v13 h13 v20 h20 => ?_
                obtain rfl := h13
                obtain rfl := h20
                show wpList _ _ _ _ _ _
                refine wpList_skip (by rfl) ?_
                go_wp2_with fail
                exact ⟨undef, by first | rfl | (go_simp; done), rfl, Below.refl _ _⟩
              · as_aux_lemma =>
                refine fun w' hB v13 h13 v17 h17 v21 h21 => ?_
                obtain rfl := h13
                obtain rfl := h17
                obtain rfl := h21
                show wpList _ _ _ _ _ _
                refine wpList_skip (by rfl) ?_
                go_wp2_with fail
                exact ⟨undef, by first | rfl | (go_simp; done), rfl, Below.refl _ _⟩
              · as_aux_lemma =>
                refine fun w' hB v3 h3 v13 h13 v22 h22 => ?_
                obtain rfl := h3
                obtain rfl := h13
                obtain rfl := h22
                show wpList _ _ _ _ _ _
                refine wpList_skip (by rfl) ?_
                go_wp2_with fail
                exact ⟨undef, by first | rfl | (go_simp; done), rfl, Below.refl _ _⟩
              · as_aux_lemma =>
                refine fun w' hB v3 h3 v23 h23 => ?_
                obtain rfl := h3
                obtain rfl := h23
                show wpList _ _ _ _ _ _
                go_wp2_with fail
                exact ⟨.bool false, by first | rfl | (go_simp; done), rfl, Below.refl _ _⟩
              · refine fun w' hB v0 h0 v1 h1 v2 h2 v3 h3 v4 h4 v5 h5 v6 h6 v7 h7 v8 h8 v9 h9 v10 h10 v11 h11 v12 h12 v13 h13 v14 h14 v15 h15 v16 h16 v17 h17 v18 h18 v19 h19 v20 h20 v21 h21 v22 h22 v23 h23 v24 h24 => ?_
                obtain rfl := h24
                simp only [onP]
                go_simp
                clear h0 h1 h2 h3 h4 h5 h6 h7 h8 h9 h10 h11 h12 h13 h14 h15 h16 h17 h18 h19 h20 h21 h22 h23
                have hcf : cl1 (a.take (i + 2)) (b.take (i + 2)) = false := by rw [UCH.out, ← HT.out]; rfl
                have HCF := Lib.hid hcf
                have HWS : wr.heap.size ≤ w'.heap.size := Nat.le_trans B4.out.size hB.size
                have K20 := Lib.hid (block_keep hB KX.out); have K21 := Lib.hid (block_keep hB KY.out)
                have BE := Lib.hid (HBB.out.trans ((below_next B4.out hB).mono HBB.out.size))
                have UE := Lib.hid (HU.out.keep (below_next B4.out hB)); have VE := Lib.hid (HV.out.keep (below_next B4.out hB))
                have HLT := Lib.hid fun k (hk : u5.ownBlock = some k) => (World.ownsRow.lt HU.out k hk).2
                have HUL := Lib.hid (show (upl (a.take i)).length ≤ 1000 by rw [upl_len, List.length_take]; omega)
                have HVL := Lib.hid (show (upl (b.take i)).length ≤ 1000 by rw [upl_len, List.length_take]; omega)
                obtain ⟨wE, hwE⟩ : ∃ wE, wE = w' := ⟨_, rfl⟩
                rw [← hwE] at HWS K20 K21 BE UE VE
                rw [← hwE]
                clear hcf hB KX KY B4 HU HV hwE HBB
                go_wp2_with fail
                refine wp_region_once 7 3 (fun j => false) (fun W => W.heap[g20]? = some (iblk X) ∧ W.heap[g21]? = some (iblk Y) ∧ Below wo.heap.size wo W) (fun W => OwnsI W wo.heap.size u5 (upl (a.take i)) ∧ OwnsI W wo.heap.size u6 (upl (b.take i))) [Is (u5), Is (iv X), (fun v W => ∃ g, v = .slice (some ⟨g, 0, none⟩) 1 1 ∧ wE.heap.size ≤ g ∧ W.heap[g]? = some (.cells (idsL [X]).toArray 25 (0, 0))), (fun v W => OwnsI W wo.heap.size v (upl (a.take i) ++ [X]) ∧ OwnsI W wo.heap.size u6 (upl (b.take i)) ∧ (v.ownBlock = none ∨ u6.ownBlock = none ∨ v.ownBlock ≠ u6.ownBlock)), Is (u6), Is (iv Y), (fun v W => ∃ g, v = .slice (some ⟨g, 0, none⟩) 1 1 ∧ wE.heap.size ≤ g ∧ W.heap[g]? = some (.cells (idsL [Y]).toArray 25 (0, 0)))] [[], [], [(1, some 72)], [(0, some 71), (2, some 73)], [], [], [(5, some 76)], [(4, some 75), (6, some 77)], [(3, some 74)], [(7, some 78)]] [(0, some 71), (1, some 72), (2, some 73), (3, some 74), (4, some 75), (5, some 76), (6, some 77)] [0, 0, 2, 7, 0, 0, 32, 127, 255, 511]
                  (by kernel_rfl) (by kernel_rfl) (by kernel_rfl) (by kernel_rfl) (by kernel_rfl) ⟨Is.kept _, Is.kept _, (fun _ _ _ hb ⟨g, e, h1, h2⟩ => ⟨g, e, h1, block_keep hb h2⟩), (fun _ _ _ hb h => ⟨OwnsI.keep h.1 hb, OwnsI.keep h.2.1 hb, h.2.2⟩), Is.kept _, Is.kept _, (fun _ _ _ hb ⟨g, e, h1, h2⟩ => ⟨g, e, h1, block_keep hb h2⟩), trivial⟩ (fun _ _ hb h => ⟨block_keep hb h.1, block_keep hb h.2.1, h.2.2.trans (hb.mono h.2.2.size)⟩) (fun _ _ hb h => ⟨OwnsI.keep h.1 hb, OwnsI.keep h.2 hb⟩) (by decide) (fun _ _ hb => ⟨block_keep hb K20.out, block_keep hb K21.out, BE.out.trans (hb.mono BE.out.size)⟩) (fun _ hb => ⟨UE.out.keep hb, VE.out.keep hb⟩) ⟨?_, ?_, ?_, ?_, ?_, ?_, ?_, trivial⟩ ?_
                · as_aux_lemma =>
                  refine fun w' hS hB hP => ?_
                  show wpList _ _ _ _ _ _
                  go_wp2_with fail
                  exact StepO.of_ne (by decide) ⟨u5, by first | rfl | (go_simp; done), rfl, Below.refl _ _, fun h => absurd h (by decide)⟩
                · as_aux_lemma =>
                  refine fun w' hS hB hP => ?_
                  show wpList _ _ _ _ _ _
                  go_wp2_with (first | refine wpList_load_id rfl (.tmp 9) rfl g20 X rfl hB.1 ?_)
                  exact StepO.of_ne (by decide) ⟨iv X, rfl, rfl, Below.refl _ _, fun h => absurd h (by decide)⟩
                · as_aux_lemma =>
                  refine fun w' hS hB hP v1 h1 => ?_
                  obtain rfl := h1
                  show wpList _ _ _ _ _ _
                  go_wp2_with (first | refine wpList_build_1 rfl (.tmp 72) X rfl rfl ?_)
                  exact StepO.of_ne (by decide) ⟨_, rfl, ⟨_, rfl, hS, heap_new _ _⟩, below_alloc (Below.refl _ _) _, fun h => absurd h (by decide)⟩
                · as_aux_lemma =>
                  refine fun w' hS hB hP v0 h0 v2 h2 => ?_
                  obtain rfl := h0
                  show wpList _ _ _ _ _ _
                  obtain ⟨g2, rfl, hge2, hg2⟩ := h2
                  have hp := hP rfl
                  have HP1 := Lib.hid hp.1
                  have HP2 := Lib.hid hp.2
                  clear hp hP
                  go_wp2_with (at_builtin; refine wpList_append_two rfl (.tmp 71) (.tmp 73) rfl wo.heap.size _ (upl (a.take i)) rfl HP1.out X g2 1 rfl (IdsAt.row hg2) (by have := HUL.out; omega) (by have := hB.2.2.size; omega) u6 (upl (b.take i)) HP2.out HAP.out (fun v' w5 ho hu hne hbel hfar hsz => ?_))
                  exact StepO.of_eq rfl ⟨v', rfl, ⟨ho, hu, hne⟩, hsz, ⟨hfar g20 _ hB.1 (fun e2 => absurd (HLT.out g20 e2) (by omega)), hfar g21 _ hB.2.1 (fun e2 => absurd (HLT.out g21 e2) (by omega)), hbel _ _ (Nat.le_refl _) hB.2.2⟩, keepL_at _ _ ⟨fun _ => fun u h => h, fun _ => fun u h => h, fun _ => (fun u hu => by obtain ⟨g, e, h1, h2⟩ := hu; exact ⟨g, e, h1, hfar g _ h2 (fun e2 => absurd (HLT.out g e2) (by omega))⟩), fun h => absurd rfl h, fun _ => fun u h => h, fun _ => fun u h => h, fun _ => (fun u hu => by obtain ⟨g, e, h1, h2⟩ := hu; exact ⟨g, e, h1, hfar g _ h2 (fun e2 => absurd (HLT.out g e2) (by omega))⟩), trivial⟩⟩
                · as_aux_lemma =>
                  refine fun w' hS hB hP => ?_
                  show wpList _ _ _ _ _ _
                  go_wp2_with fail
                  exact StepO.of_ne (by decide) ⟨u6, by first | rfl | (go_simp; done), rfl, Below.refl _ _, fun h => absurd h (by decide)⟩
                · as_aux_lemma =>
                  refine fun w' hS hB hP => ?_
                  show wpList _ _ _ _ _ _
                  go_wp2_with (first | refine wpList_load_id rfl (.tmp 10) rfl g21 Y rfl hB.2.1 ?_)
                  exact StepO.of_ne (by decide) ⟨iv Y, rfl, rfl, Below.refl _ _, fun h => absurd h (by decide)⟩
                · as_aux_lemma =>
                  refine fun w' hS hB hP v5 h5 => ?_
                  obtain rfl := h5
                  show wpList _ _ _ _ _ _
                  go_wp2_with (first | refine wpList_build_1 rfl (.tmp 76) Y rfl rfl ?_)
                  exact StepO.of_ne (by decide) ⟨_, rfl, ⟨_, rfl, hS, heap_new _ _⟩, below_alloc (Below.refl _ _) _, fun h => absurd h (by decide)⟩
                · refine fun w' G hS hB hN1 hN2 v0 h0 v1 h1 v2 h2 v3 h3 v4 h4 v5 h5 v6 h6 => ?_
                  replace h0 := h0.1
                  replace h1 := h1.1
                  replace h2 := h2.1
                  replace h3 := h3.1
                  replace h4 := h4.1
                  replace h5 := h5.1
                  replace h6 := h6.1
                  clear hN1 hN2
                  obtain rfl := h4
                  simp only [onP, List.drop_succ_cons, List.drop_zero]
                  go_simp
                  clear h0 h1 h2 h5
                  obtain ⟨g6, rfl, hge6, hg6⟩ := h6
                  have H3 := Lib.hid h3
                  clear h3
                  have BB := Lib.hid hB.2.2
                  clear hB
                  go_wp2_with (at_builtin; refine wpList_append_two rfl (.tmp 75) (.tmp 77) rfl wo.heap.size _ (upl (b.take i)) rfl H3.out.2.1 Y g6 1 rfl (IdsAt.row hg6) (by have := HVL.out; omega) (by have := BB.out.size; omega) v3 _ H3.out.1 (H3.out.2.2.elim (fun h => .inr (.inl h)) fun h => h.elim .inl fun h => .inr (.inr (Ne.symm h))) (fun v' w6 ho hu hne hbel hfar hsz => ?_))
                  have HO := Lib.hid ho; have HUU := Lib.hid hu; have HNE := Lib.hid hne; have HBE := Lib.hid (hbel _ _ (Nat.le_refl _) BB.out)
                  clear ho hu hne hbel hfar hsz H3
                  go_wp2_with fail
                  go_roundg (n + 2 - (i + 2))
                  case measure => have := HGI.out; omega
                  case rel => exact ⟨i + 2, rfl, by have := HIE.out; omega, by omega, by go_num, HCF.out, by rw [UA.out, ← HXX.out]; exact HUU.out, by rw [UB.out, ← HYY.out]; exact HO.out, HNE.out.elim (fun h => .inr (.inl h)) fun h => h.elim .inl fun h => .inr (.inr (Ne.symm h)), HBE.out⟩
            · cases d2
              · skip
                refine wp_region_by [Is (iv X), Is (iv Y), Is (.bool true), Is (.bool true), Is (.slice (some ⟨ga, oa, none⟩) n c), Is (.int .i64 i), Is (.pointer (some ⟨ga, oa + i * 32, none⟩)), Is (iv p), Is (.slice (some ⟨gb, ob, none⟩) n d), Is (.int .i64 i), Is (.pointer (some ⟨gb, ob + i * 32, none⟩)), Is (iv r), Is (.bool true), Is (.bool true), Is (undef), Is (undef), Is (undef), Is (undef), Is (undef), Is (undef), Is (undef), Is (undef), Is (undef), Is (.bool true), Is (.bool true)] [[], [], [(0, some 46), (1, some 47)], [(2, some 48)], [(3, some 49)], [(3, some 49)], [(3, some 49), (4, some 50), (5, some 51)], [(3, some 49), (6, some 52)], [(3, some 49)], [(3, some 49)], [(3, some 49), (8, some 54), (9, some 55)], [(3, some 49), (10, some 56)], [(3, some 49), (7, some 53), (11, some 57)], [(3, some 49), (12, some 58)], [(13, some 59)], [(13, some 59)], [(13, some 59), (14, some 60), (15, some 61)], [(13, some 59), (16, some 62)], [(13, some 59)], [(13, some 59)], [(13, some 59), (18, some 64), (19, some 65)], [(13, some 59), (20, some 66)], [(13, some 59), (17, some 63), (21, some 67)], [(3, some 49), (13, some 59), (22, some 68)], [(3, some 49), (23, some 69)]] [(0, some 46), (1, some 47), (2, some 48), (3, some 49), (4, some 50), (5, some 51), (6, some 52), (7, some 53), (8, some 54), (9, some 55), (10, some 56), (11, some 57), (12, some 58), (13, some 59), (14, some 60), (15, some 61), (16, some 62), (17, some 63), (18, some 64), (19, some 65), (20, some 66), (21, some 67), (22, some 68), (23, some 69), (24, some 70)] [0, 0, 3, 7, 15, 15, 63, 127, 15, 15, 783, 1807, 4095, 8191, 16383, 16383, 65535, 131071, 16383, 16383, 802815, 1851391, 4194303, 8388607, 16777215]
                  (by kernel_rfl) (by kernel_rfl) (by kernel_rfl) (by kernel_rfl) ⟨Is.kept _, Is.kept _, Is.kept _, Is.kept _, Is.kept _, Is.kept _, Is.kept _, Is.kept _, Is.kept _, Is.kept _, Is.kept _, Is.kept _, Is.kept _, Is.kept _, Is.kept _, Is.kept _, Is.kept _, Is.kept _, Is.kept _, Is.kept _, Is.kept _, Is.kept _, Is.kept _, Is.kept _, Is.kept _, trivial⟩ ⟨?_, ?_, ?_, ?_, ?_, ?_, ?_, ?_, ?_, ?_, ?_, ?_, ?_, ?_, ?_, ?_, ?_, ?_, ?_, ?_, ?_, ?_, ?_, ?_, ?_, trivial⟩ ?_
                · as_aux_lemma =>
                  refine fun w' hB => ?_
                  show wpList _ _ _ _ _ _
                  go_wp2_with (first | refine wpList_load_id rfl (.tmp 9) rfl g20 X rfl (block_keep hB KX.out) ?_)
                  exact ⟨iv X, rfl, rfl, Below.refl _ _⟩
                · as_aux_lemma =>
                  refine fun w' hB => ?_
                  show wpList _ _ _ _ _ _
                  go_wp2_with (first | refine wpList_load_id rfl (.tmp 10) rfl g21 Y rfl (block_keep hB KY.out) ?_)
                  exact ⟨iv Y, rfl, rfl, Below.refl _ _⟩
                · as_aux_lemma =>
                  refine fun w' hB v0 h0 v1 h1 => ?_
                  obtain rfl := h0
                  obtain rfl := h1
                  show wpList _ _ _ _ _ _
                  go_wp2_with fail
                  exact ⟨.bool true, by first | rfl | (go_simp; done), rfl, Below.refl _ _⟩
                · as_aux_lemma =>
                  refine fun w' hB v2 h2 => ?_
                  obtain rfl := h2
                  show wpList _ _ _ _ _ _
                  go_wp2_with fail
                  exact ⟨.bool true, by first | rfl | (go_simp; done), rfl, Below.refl _ _⟩
                · as_aux_lemma =>
                  refine fun w' hB v3 h3 => ?_
                  obtain rfl := h3
                  show wpList _ _ _ _ _ _
                  go_wp2_with fail
                  exact ⟨.slice (some ⟨ga, oa, none⟩) n c, by first | rfl | (go_simp; done), rfl, Below.refl _ _⟩
                · as_aux_lemma =>
                  refine fun w' hB v3 h3 => ?_
                  obtain rfl := h3
                  show wpList _ _ _ _ _ _
                  go_wp2_with fail
                  exact ⟨.int .i64 i, by first | rfl | (go_simp; done), rfl, Below.refl _ _⟩
                · as_aux_lemma =>
                  refine fun w' hB v3 h3 v4 h4 v5 h5 => ?_
                  obtain rfl := h3
                  obtain rfl := h4
                  obtain rfl := h5
                  show wpList _ _ _ _ _ _
                  go_wp2_with fail
                  exact ⟨.pointer (some ⟨ga, oa + i * 32, none⟩), by first | rfl | (go_simp; done), rfl, Below.refl _ _⟩
                · as_aux_lemma =>
                  refine fun w' hB v3 h3 v6 h6 => ?_
                  obtain rfl := h3
                  obtain rfl := h6
                  show wpList _ _ _ _ _ _
                  refine wpList_unguard rfl ?_
                  go_wp2_with (first | refine wpList_load_at rfl (.tmp 52) rfl ga (oa + i * 32) p rfl (RPF.out w' (below_next B4.out hB)) ?_)
                  exact ⟨iv p, rfl, rfl, Below.refl _ _⟩
                · as_aux_lemma =>
                  refine fun w' hB v3 h3 => ?_
                  obtain rfl := h3
                  show wpList _ _ _ _ _ _
                  go_wp2_with fail
                  exact ⟨.slice (some ⟨gb, ob, none⟩) n d, by first | rfl | (go_simp; done), rfl, Below.refl _ _⟩
                · as_aux_lemma =>
                  refine fun w' hB v3 h3 => ?_
                  obtain rfl := h3
                  show wpList _ _ _ _ _ _
                  go_wp2_with fail
                  exact ⟨.int .i64 i, by first | rfl | (go_simp; done), rfl, Below.refl _ _⟩
                · as_aux_lemma =>
                  refine fun w' hB v3 h3 v8 h8 v9 h9 => ?_
                  obtain rfl := h3
                  obtain rfl := h8
                  obtain rfl := h9
                  show wpList _ _ _ _ _ _
                  go_wp2_with fail
                  exact ⟨.pointer (some ⟨gb, ob + i * 32, none⟩), by first | rfl | (go_simp; done), rfl, Below.refl _ _⟩
                · as_aux_lemma =>
                  refine fun w' hB v3 h3 v10 h10 => ?_
                  obtain rfl := h3
                  obtain rfl := h10
                  show wpList _ _ _ _ _ _
                  refine wpList_unguard rfl ?_
                  go_wp2_with (first | refine wpList_load_at rfl (.tmp 56) rfl gb (ob + i * 32) r rfl (RRF.out w' (below_next B4.out hB)) ?_)
                  exact ⟨iv r, rfl, rfl, Below.refl _ _⟩
                · as_aux_lemma =>
                  refine fun w' hB v3 h3 v7 h7 v11 h11 => ?_
                  obtain rfl := h3
                  obtain rfl := h7
                  obtain rfl := h11
                  show wpList _ _ _ _ _ _
                  go_wp2_with fail
                  exact ⟨.bool true, by first | rfl | (go_simp; done), rfl, Below.refl _ _⟩
                · as_aux_lemma =>
                  refine fun w' hB v3 h3 v12 h12 => ?_
                  obtain rfl := h3
                  obtain rfl := h12
                  show wpList _ _ _ _ _ _
                  go_wp2_with fail
                  exact ⟨.bool true, by first | rfl | (go_simp; done), rfl, Below.refl _ _⟩
                · as_aux_lemma =>
                  refine fun w' hB v13 h13 => ?_
                  obtain rfl := h13
                  show wpList _ _ _ _ _ _
                  refine wpList_skip (by rfl) ?_
                  go_wp2_with fail
                  exact ⟨undef, by first | rfl | (go_simp; done), rfl, Below.refl _ _⟩
                · as_aux_lemma =>
                  refine fun w' hB v13 h13 => ?_
                  obtain rfl := h13
                  show wpList _ _ _ _ _ _
                  refine wpList_skip (by rfl) ?_
                  go_wp2_with fail
                  exact ⟨undef, by first | rfl | (go_simp; done), rfl, Below.refl _ _⟩
                · as_aux_lemma =>
                  refine fun w' hB v13 h13 v14 h14 v15 h15 => ?_
                  obtain rfl := h13
                  obtain rfl := h14
                  obtain rfl := h15
                  show wpList _ _ _ _ _ _
                  refine wpList_skip (by rfl) ?_
                  go_wp2_with fail
                  exact ⟨undef, by first | rfl | (go_simp; done), rfl, Below.refl _ _⟩
                · as_aux_lemma =>
                  refine fun w' hB v13 h13 v16 h16 => ?_
                  obtain rfl := h13
                  obtain rfl := h16
                  show wpList _ _ _ _ _ _
                  refine wpList_skip (by rfl) ?_
                  go_wp2_with fail
                  exact ⟨undef, by first | rfl | (go_simp; done), rfl, Below.refl _ _⟩
                · as_aux_lemma =>
                  refine fun w' hB v13 h13 => ?_
                  obtain rfl := h13
                  show wpList _ _ _ _ _ _
                  refine wpList_skip (by rfl) ?_
                  go_wp2_with fail
                  exact ⟨undef, by first | rfl | (go_simp; done), rfl, Below.refl _ _⟩
                · as_aux_lemma =>
                  refine fun w' hB v13 h13 => ?_
                  obtain rfl := h13
                  show wpList _ _ _ _ _ _
                  refine wpList_skip (by rfl) ?_
                  go_wp2_with fail
                  exact ⟨undef, by first | rfl | (go_simp; done), rfl, Below.refl _ _⟩
                · as_aux_lemma =>
                  refine fun w' hB v13 h13 v18 h18 v19 h19 => ?_
                  obtain rfl := h13
                  obtain rfl := h18
                  obtain rfl := h19
                  show wpList _ _ _ _ _ _
                  refine wpList_skip (by rfl) ?_
                  go_wp2_with fail
                  exact ⟨undef, by first | rfl | (go_simp; done), rfl, Below.refl _ _⟩
                · as_aux_lemma =>
                  refine fun w' hB v13 h13 v20 h20 => ?_
                  obtain rfl := h13
                  obtain rfl := h20
                  show wpList _ _ _ _ _ _
                  refine wpList_skip (by rfl) ?_
                  go_wp2_with fail
                  exact ⟨undef, by first | rfl | (go_simp; done), rfl, Below.refl _ _⟩
                · as_aux_lemma =>
                  refine fun w' hB v13 h13 v17 h17 v21 h21 => ?_
                  obtain rfl := h13
                  obtain rfl := h17
                  obtain rfl := h21
                  show wpList _ _ _ _ _ _
                  refine wpList_skip (by rfl) ?_
                  go_wp2_with fail
                  exact ⟨undef, by first | rfl | (go_simp; done), rfl, Below.refl _ _⟩
                · as_aux_lemma =>
                  refine fun w' hB v3 h3 v13 h13 v22 h22 => ?_
                  obtain rfl := h3
                  obtain rfl := h13
                  obtain rfl := h22
                  show wpList _ _ _ _ _ _
                  go_wp2_with fail
                  exact ⟨.bool true, by first | rfl | (go_simp; done), rfl, Below.refl _ _⟩
                · as_aux_lemma =>
                  refine fun w' hB v3 h3 v23 h23 => ?_
                  obtain rfl := h3
                  obtain rfl := h23
                  show wpList _ _ _ _ _ _
                  go_wp2_with fail
                  exact ⟨.bool true, by first | rfl | (go_simp; done), rfl, Below.refl _ _⟩
                · refine fun w' hB v0 h0 v1 h1 v2 h2 v3 h3 v4 h4 v5 h5 v6 h6 v7 h7 v8 h8 v9 h9 v10 h10 v11 h11 v12 h12 v13 h13 v14 h14 v15 h15 v16 h16 v17 h17 v18 h18 v19 h19 v20 h20 v21 h21 v22 h22 v23 h23 v24 h24 => ?_
                  obtain rfl := h24
                  simp only [onP]
                  go_simp
                  clear h0 h1 h2 h3 h4 h5 h6 h7 h8 h9 h10 h11 h12 h13 h14 h15 h16 h17 h18 h19 h20 h21 h22 h23
                  have hR : R = true := by
                    obtain ⟨f', hf1, hf2⟩ := clash_up (f := f) (a := a) (b := b) (by rw [← HN.out]; exact h1) HF.out
                    have hc : cl1 (a.take (i + 2)) (b.take (i + 2)) = true := by rw [UCH.out, ← HT.out]; rfl
                    rw [← HR.out, hf2, cl1_tk HL.out (by have := HIE.out; omega) hc, Bool.true_or]
                  have BZ : Below w.heap.size w w' := HB.out.trans ((HBB.out.trans ((below_next B4.out hB).mono HBB.out.size)).mono HB.out.size)
                  subst hR
                  go_wp2_with fail
                  exact bodyPost_ret (v := .bool true) (by simp [results, Try.results27, asAddr]) rfl ⟨rfl, BZ⟩
              · cases d3
                · skip
                  refine wp_region_by [Is (iv X), Is (iv Y), Is (.bool true), Is (.bool true), Is (.slice (some ⟨ga, oa, none⟩) n c), Is (.int .i64 i), Is (.pointer (some ⟨ga, oa + i * 32, none⟩)), Is (iv p), Is (.slice (some ⟨gb, ob, none⟩) n d), Is (.int .i64 i), Is (.pointer (some ⟨gb, ob + i * 32, none⟩)), Is (iv r), Is (.bool false), Is (.bool false), Is (.slice (some ⟨ga, oa, none⟩) n c), Is (.int .i64 j), Is (.pointer (some ⟨ga, oa + j * 32, none⟩)), Is (iv q), Is (.slice (some ⟨gb, ob, none⟩) n d), Is (.int .i64 j), Is (.pointer (some ⟨gb, ob + j * 32, none⟩)), Is (iv s), Is (.bool true), Is (.bool true), Is (.bool true)] [[], [], [(0, some 46), (1, some 47)], [(2, some 48)], [(3, some 49)], [(3, some 49)], [(3, some 49), (4, some 50), (5, some 51)], [(3, some 49), (6, some 52)], [(3, some 49)], [(3, some 49)], [(3, some 49), (8, some 54), (9, some 55)], [(3, some 49), (10, some 56)], [(3, some 49), (7, some 53), (11, some 57)], [(3, some 49), (12, some 58)], [(13, some 59)], [(13, some 59)], [(13, some 59), (14, some 60), (15, some 61)], [(13, some 59), (16, some 62)], [(13, some 59)], [(13, some 59)], [(13, some 59), (18, some 64), (19, some 65)], [(13, some 59), (20, some 66)], [(13, some 59), (17, some 63), (21, some 67)], [(3, some 49), (13, some 59), (22, some 68)], [(3, some 49), (23, some 69)]] [(0, some 46), (1, some 47), (2, some 48), (3, some 49), (4, some 50), (5, some 51), (6, some 52), (7, some 53), (8, some 54), (9, some 55), (10, some 56), (11, some 57), (12, some 58), (13, some 59), (14, some 60), (15, some 61), (16, some 62), (17, some 63), (18, some 64), (19, some 65), (20, some 66), (21, some 67), (22, some 68), (23, some 69), (24, some 70)] [0, 0, 3, 7, 15, 15, 63, 127, 15, 15, 783, 1807, 4095, 8191, 16383, 16383, 65535, 131071, 16383, 16383, 802815, 1851391, 4194303, 8388607, 16777215]
                    (by kernel_rfl) (by kernel_rfl) (by kernel_rfl) (by kernel_rfl) ⟨Is.kept _, Is.kept _, Is.kept _, Is.kept _, Is.kept _, Is.kept _, Is.kept _, Is.kept _, Is.kept _, Is.kept _, Is.kept _, Is.kept _, Is.kept _, Is.kept _, Is.kept _, Is.kept _, Is.kept _, Is.kept _, Is.kept _, Is.kept _, Is.kept _, Is.kept _, Is.kept _, Is.kept _, Is.kept _, trivial⟩ ⟨?_, ?_, ?_, ?_, ?_, ?_, ?_, ?_, ?_, ?_, ?_, ?_, ?_, ?_, ?_, ?_, ?_, ?_, ?_, ?_, ?_, ?_, ?_, ?_, ?_, trivial⟩ ?_
                  · as_aux_lemma =>
                    refine fun w' hB => ?_
                    show wpList _ _ _ _ _ _
                    go_wp2_with (first | refine wpList_load_id rfl (.tmp 9) rfl g20 X rfl (block_keep hB KX.out) ?_)
                    exact ⟨iv X, rfl, rfl, Below.refl _ _⟩
                  · as_aux_lemma =>
                    refine fun w' hB => ?_
                    show wpList _ _ _ _ _ _
                    go_wp2_with (first | refine wpList_load_id rfl (.tmp 10) rfl g21 Y rfl (block_keep hB KY.out) ?_)
                    exact ⟨iv Y, rfl, rfl, Below.refl _ _⟩
                  · as_aux_lemma =>
                    refine fun w' hB v0 h0 v1 h1 => ?_
                    obtain rfl := h0
                    obtain rfl := h1
                    show wpList _ _ _ _ _ _
                    go_wp2_with fail
                    exact ⟨.bool true, by first | rfl | (go_simp; done), rfl, Below.refl _ _⟩
                  · as_aux_lemma =>
                    refine fun w' hB v2 h2 => ?_
                    obtain rfl := h2
                    show wpList _ _ _ _ _ _
                    go_wp2_with fail
                    exact ⟨.bool true, by first | rfl | (go_simp; done), rfl, Below.refl _ _⟩
                  · as_aux_lemma =>
                    refine fun w' hB v3 h3 => ?_
                    obtain rfl := h3
                    show wpList _ _ _ _ _ _
                    go_wp2_with fail
                    exact ⟨.slice (some ⟨ga, oa, none⟩) n c, by first | rfl | (go_simp; done), rfl, Below.refl _ _⟩
                  · as_aux_lemma =>
                    refine fun w' hB v3 h3 => ?_
                    obtain rfl := h3
                    show wpList _ _ _ _ _ _
                    go_wp2_with fail
                    exact ⟨.int .i64 i, by first | rfl | (go_simp; done), rfl, Below.refl _ _⟩
                  · as_aux_lemma =>
                    refine fun w' hB v3 h3 v4 h4 v5 h5 => ?_
                    obtain rfl := h3
                    obtain rfl := h4
                    obtain rfl := h5
                    show wpList _ _ _ _ _ _
                    go_wp2_with fail
                    exact ⟨.pointer (some ⟨ga, oa + i * 32, none⟩), by first | rfl | (go_simp; done), rfl, Below.refl _ _⟩
                  · as_aux_lemma =>
                    refine fun w' hB v3 h3 v6 h6 => ?_
                    obtain rfl := h3
                    obtain rfl := h6
                    show wpList _ _ _ _ _ _
                    refine wpList_unguard rfl ?_
                    go_wp2_with (first | refine wpList_load_at rfl (.tmp 52) rfl ga (oa + i * 32) p rfl (RPF.out w' (below_next B4.out hB)) ?_)
                    exact ⟨iv p, rfl, rfl, Below.refl _ _⟩
                  · as_aux_lemma =>
                    refine fun w' hB v3 h3 => ?_
                    obtain rfl := h3
                    show wpList _ _ _ _ _ _
                    go_wp2_with fail
                    exact ⟨.slice (some ⟨gb, ob, none⟩) n d, by first | rfl | (go_simp; done), rfl, Below.refl _ _⟩
                  · as_aux_lemma =>
                    refine fun w' hB v3 h3 => ?_
                    obtain rfl := h3
                    show wpList _ _ _ _ _ _
                    go_wp2_with fail
                    exact ⟨.int .i64 i, by first | rfl | (go_simp; done), rfl, Below.refl _ _⟩
                  · as_aux_lemma =>
                    refine fun w' hB v3 h3 v8 h8 v9 h9 => ?_
                    obtain rfl := h3
                    obtain rfl := h8
                    obtain rfl := h9
                    show wpList _ _ _ _ _ _
                    go_wp2_with fail
                    exact ⟨.pointer (some ⟨gb, ob + i * 32, none⟩), by first | rfl | (go_simp; done), rfl, Below.refl _ _⟩
                  · as_aux_lemma =>
                    refine fun w' hB v3 h3 v10 h10 => ?_
                    obtain rfl := h3
                    obtain rfl := h10
                    show wpList _ _ _ _ _ _
                    refine wpList_unguard rfl ?_
                    go_wp2_with (first | refine wpList_load_at rfl (.tmp 56) rfl gb (ob + i * 32) r rfl (RRF.out w' (below_next B4.out hB)) ?_)
                    exact ⟨iv r, rfl, rfl, Below.refl _ _⟩
                  · as_aux_lemma =>
                    refine fun w' hB v3 h3 v7 h7 v11 h11 => ?_
                    obtain rfl := h3
                    obtain rfl := h7
                    obtain rfl := h11
                    show wpList _ _ _ _ _ _
                    go_wp2_with fail
                    exact ⟨.bool false, by first | rfl | (go_simp; done), rfl, Below.refl _ _⟩
                  · as_aux_lemma =>
                    refine fun w' hB v3 h3 v12 h12 => ?_
                    obtain rfl := h3
                    obtain rfl := h12
                    show wpList _ _ _ _ _ _
                    go_wp2_with fail
                    exact ⟨.bool false, by first | rfl | (go_simp; done), rfl, Below.refl _ _⟩
                  · as_aux_lemma =>
                    refine fun w' hB v13 h13 => ?_
                    obtain rfl := h13
                    show wpList _ _ _ _ _ _
                    go_wp2_with fail
                    exact ⟨.slice (some ⟨ga, oa, none⟩) n c, by first | rfl | (go_simp; done), rfl, Below.refl _ _⟩
                  · as_aux_lemma =>
                    refine fun w' hB v13 h13 => ?_
                    obtain rfl := h13
                    show wpList _ _ _ _ _ _
                    go_wp2_with fail
                    exact ⟨.int .i64 j, by first | rfl | (go_simp; done), rfl, Below.refl _ _⟩
                  · as_aux_lemma =>
                    refine fun w' hB v13 h13 v14 h14 v15 h15 => ?_
                    obtain rfl := h13
                    obtain rfl := h14
                    obtain rfl := h15
                    show wpList _ _ _ _ _ _
                    go_wp2_with fail
                    exact ⟨.pointer (some ⟨ga, oa + j * 32, none⟩), by first | rfl | (go_simp; done), rfl, Below.refl _ _⟩
                  · as_aux_lemma =>
                    refine fun w' hB v13 h13 v16 h16 => ?_
                    obtain rfl := h13
                    obtain rfl := h16
                    show wpList _ _ _ _ _ _
                    refine wpList_unguard rfl ?_
                    go_wp2_with (first | refine wpList_load_at rfl (.tmp 62) rfl ga (oa + j * 32) q rfl (RQF.out w' (below_next B4.out hB)) ?_)
                    exact ⟨iv q, rfl, rfl, Below.refl _ _⟩
                  · as_aux_lemma =>
                    refine fun w' hB v13 h13 => ?_
                    obtain rfl := h13
                    show wpList _ _ _ _ _ _
                    go_wp2_with fail
                    exact ⟨.slice (some ⟨gb, ob, none⟩) n d, by first | rfl | (go_simp; done), rfl, Below.refl _ _⟩
                  · as_aux_lemma =>
                    refine fun w' hB v13 h13 => ?_
                    obtain rfl := h13
                    show wpList _ _ _ _ _ _
                    go_wp2_with fail
                    exact ⟨.int .i64 j, by first | rfl | (go_simp; done), rfl, Below.refl _ _⟩
                  · as_aux_lemma =>
                    refine fun w' hB v13 h13 v18 h18 v19 h19 => ?_
                    obtain rfl := h13
                    obtain rfl := h18
                    obtain rfl := h19
                    show wpList _ _ _ _ _ _
                    go_wp2_with fail
                    exact ⟨.pointer (some ⟨gb, ob + j * 32, none⟩), by first | rfl | (go_simp; done), rfl, Below.refl _ _⟩
                  · as_aux_lemma =>
                    refine fun w' hB v13 h13 v20 h20 => ?_
                    obtain rfl := h13
                    obtain rfl := h20
                    show wpList _ _ _ _ _ _
                    refine wpList_unguard rfl ?_
                    go_wp2_with (first | refine wpList_load_at rfl (.tmp 66) rfl gb (ob + j * 32) s rfl (RSF.out w' (below_next B4.out hB)) ?_)
                    exact ⟨iv s, rfl, rfl, Below.refl _ _⟩
                  · as_aux_lemma =>
                    refine fun w' hB v13 h13 v17 h17 v21 h21 => ?_
                    obtain rfl := h13
                    obtain rfl := h17
                    obtain rfl := h21
                    show wpList _ _ _ _ _ _
                    go_wp2_with fail
                    exact ⟨.bool true, by first | rfl | (go_simp; done), rfl, Below.refl _ _⟩
                  · as_aux_lemma =>
                    refine fun w' hB v3 h3 v13 h13 v22 h22 => ?_
                    obtain rfl := h3
                    obtain rfl := h13
                    obtain rfl := h22
                    show wpList _ _ _ _ _ _
                    go_wp2_with fail
                    exact ⟨.bool true, by first | rfl | (go_simp; done), rfl, Below.refl _ _⟩
                  · as_aux_lemma =>
                    refine fun w' hB v3 h3 v23 h23 => ?_
                    obtain rfl := h3
                    obtain rfl := h23
                    show wpList _ _ _ _ _ _
                    go_wp2_with fail
                    exact ⟨.bool true, by first | rfl | (go_simp; done), rfl, Below.refl _ _⟩
                  · refine fun w' hB v0 h0 v1 h1 v2 h2 v3 h3 v4 h4 v5 h5 v6 h6 v7 h7 v8 h8 v9 h9 v10 h10 v11 h11 v12 h12 v13 h13 v14 h14 v15 h15 v16 h16 v17 h17 v18 h18 v19 h19 v20 h20 v21 h21 v22 h22 v23 h23 v24 h24 => ?_
                    obtain rfl := h24
                    simp only [onP]
                    go_simp
                    clear h0 h1 h2 h3 h4 h5 h6 h7 h8 h9 h10 h11 h12 h13 h14 h15 h16 h17 h18 h19 h20 h21 h22 h23
                    have hR : R = true := by
                      obtain ⟨f', hf1, hf2⟩ := clash_up (f := f) (a := a) (b := b) (by rw [← HN.out]; exact h1) HF.out
                      have hc : cl1 (a.take (i + 2)) (b.take (i + 2)) = true := by rw [UCH.out, ← HT.out]; rfl
                      rw [← HR.out, hf2, cl1_tk HL.out (by have := HIE.out; omega) hc, Bool.true_or]
                    have BZ : Below w.heap.size w w' := HB.out.trans ((HBB.out.trans ((below_next B4.out hB).mono HBB.out.size)).mono HB.out.size)
                    subst hR
                    go_wp2_with fail
                    exact bodyPost_ret (v := .bool true) (by simp [results, Try.results27, asAddr]) rfl ⟨rfl, BZ⟩
                · skip
                  refine wp_region_by [Is (iv X), Is (iv Y), Is (.bool true), Is (.bool true), Is (.slice (some ⟨ga, oa, none⟩) n c), Is (.int .i64 i), Is (.pointer (some ⟨ga, oa + i * 32, none⟩)), Is (iv p), Is (.slice (some ⟨gb, ob, none⟩) n d), Is (.int .i64 i), Is (.pointer (some ⟨gb, ob + i * 32, none⟩)), Is (iv r), Is (.bool false), Is (.bool false), Is (.slice (some ⟨ga, oa, none⟩) n c), Is (.int .i64 j), Is (.pointer (some ⟨ga, oa + j * 32, none⟩)), Is (iv q), Is (.slice (some ⟨gb, ob, none⟩) n d), Is (.int .i64 j), Is (.pointer (some ⟨gb, ob + j * 32, none⟩)), Is (iv s), Is (.bool false), Is (.bool false), Is (.bool false)] [[], [], [(0, some 46), (1, some 47)], [(2, some 48)], [(3, some 49)], [(3, some 49)], [(3, some 49), (4, some 50), (5, some 51)], [(3, some 49), (6, some 52)], [(3, some 49)], [(3, some 49)], [(3, some 49), (8, some 54), (9, some 55)], [(3, some 49), (10, some 56)], [(3, some 49), (7, some 53), (11, some 57)], [(3, some 49), (12, some 58)], [(13, some 59)], [(13, some 59)], [(13, some 59), (14, some 60), (15, some 61)], [(13, some 59), (16, some 62)], [(13, some 59)], [(13, some 59)], [(13, some 59), (18, some 64), (19, some 65)], [(13, some 59), (20, some 66)], [(13, some 59), (17, some 63), (21, some 67)], [(3, some 49), (13, some 59), (22, some 68)], [(3, some 49), (23, some 69)]] [(0, some 46), (1, some 47), (2, some 48), (3, some 49), (4, some 50), (5, some 51), (6, some 52), (7, some 53), (8, some 54), (9, some 55), (10, some 56), (11, some 57), (12, some 58), (13, some 59), (14, some 60), (15, some 61), (16, some 62), (17, some 63), (18, some 64), (19, some 65), (20, some 66), (21, some 67), (22, some 68), (23, some 69), (24, some 70)] [0, 0, 3, 7, 15, 15, 63, 127, 15, 15, 783, 1807, 4095, 8191, 16383, 16383, 65535, 131071, 16383, 16383, 802815, 1851391, 4194303, 8388607, 16777215]
                    (by kernel_rfl) (by kernel_rfl) (by kernel_rfl) (by kernel_rfl) ⟨Is.kept _, Is.kept _, Is.kept _, Is.kept _, Is.kept _, Is.kept _, Is.kept _, Is.kept _, Is.kept _, Is.kept _, Is.kept _, Is.kept _, Is.kept _, Is.kept _, Is.kept _, Is.kept _, Is.kept _, Is.kept _, Is.kept _, Is.kept _, Is.kept _, Is.kept _, Is.kept _, Is.kept _, Is.kept _, trivial⟩ ⟨?_, ?_, ?_, ?_, ?_, ?_, ?_, ?_, ?_, ?_, ?_, ?_, ?_, ?_, ?_, ?_, ?_, ?_, ?_, ?_, ?_, ?_, ?_, ?_, ?_, trivial⟩ ?_
                  · as_aux_lemma =>
                    refine fun w' hB => ?_
                    show wpList _ _ _ _ _ _
                    go_wp2_with (first | refine wpList_load_id rfl (.tmp 9) rfl g20 X rfl (block_keep hB KX.out) ?_)
                    exact ⟨iv X, rfl, rfl, Below.refl _ _⟩
                  · as_aux_lemma =>
                    refine fun w' hB => ?_
                    show wpList _ _ _ _ _ _
                    go_wp2_with (first | refine wpList_load_id rfl (.tmp 10) rfl g21 Y rfl (block_keep hB KY.out) ?_)
                    exact ⟨iv Y, rfl, rfl, Below.refl _ _⟩
                  · as_aux_lemma =>
                    refine fun w' hB v0 h0 v1 h1 => ?_
                    obtain rfl := h0
                    obtain rfl := h1
                    show wpList _ _ _ _ _ _
                    go_wp2_with fail
                    exact ⟨.bool true, by first | rfl | (go_simp; done), rfl, Below.refl _ _⟩
                  · as_aux_lemma =>
                    refine fun w' hB v2 h2 => ?_
                    obtain rfl := h2
                    show wpList _ _ _ _ _ _
                    go_wp2_with fail
                    exact ⟨.bool true, by first | rfl | (go_simp; done), rfl, Below.refl _ _⟩
                  · as_aux_lemma =>
                    refine fun w' hB v3 h3 => ?_
                    obtain rfl := h3
                    show wpList _ _ _ _ _ _
                    go_wp2_with fail
                    exact ⟨.slice (some ⟨ga, oa, none⟩) n c, by first | rfl | (go_simp; done), rfl, Below.refl _ _⟩
                  · as_aux_lemma =>
                    refine fun w' hB v3 h3 => ?_
                    obtain rfl := h3
                    show wpList _ _ _ _ _ _
                    go_wp2_with fail
                    exact ⟨.int .i64 i, by first | rfl | (go_simp; done), rfl, Below.refl _ _⟩
                  · as_aux_lemma =>
                    refine fun w' hB v3 h3 v4 h4 v5 h5 => ?_
                    obtain rfl := h3
                    obtain rfl := h4
                    obtain rfl := h5
                    show wpList _ _ _ _ _ _
                    go_wp2_with fail
                    exact ⟨.pointer (some ⟨ga, oa + i * 32, none⟩), by first | rfl | (go_simp; done), rfl, Below.refl _ _⟩
                  · as_aux_lemma =>
                    refine fun w' hB v3 h3 v6 h6 => ?_
                    obtain rfl := h3
                    obtain rfl := h6
                    show wpList _ _ _ _ _ _
                    refine wpList_unguard rfl ?_
                    go_wp2_with (first | refine wpList_load_at rfl (.tmp 52) rfl ga (oa + i * 32) p rfl (RPF.out w' (below_next B4.out hB)) ?_)
                    exact ⟨iv p, rfl, rfl, Below.refl _ _⟩
                  · as_aux_lemma =>
                    refine fun w' hB v3 h3 => ?_
                    obtain rfl := h3
                    show wpList _ _ _ _ _ _
                    go_wp2_with fail
                    exact ⟨.slice (some ⟨gb, ob, none⟩) n d, by first | rfl | (go_simp; done), rfl, Below.refl _ _⟩
                  · as_aux_lemma =>
                    refine fun w' hB v3 h3 => ?_
                    obtain rfl := h3
                    show wpList _ _ _ _ _ _
                    go_wp2_with fail
                    exact ⟨.int .i64 i, by first | rfl | (go_simp; done), rfl, Below.refl _ _⟩
                  · as_aux_lemma =>
                    refine fun w' hB v3 h3 v8 h8 v9 h9 => ?_
                    obtain rfl := h3
                    obtain rfl := h8
                    obtain rfl := h9
                    show wpList _ _ _ _ _ _
                    go_wp2_with fail
                    exact ⟨.pointer (some ⟨gb, ob + i * 32, none⟩), by first | rfl | (go_simp; done), rfl, Below.refl _ _⟩
                  · as_aux_lemma =>
                    refine fun w' hB v3 h3 v10 h10 => ?_
                    obtain rfl := h3
                    obtain rfl := h10
                    show wpList _ _ _ _ _ _
                    refine wpList_unguard rfl ?_
                    go_wp2_with (first | refine wpList_load_at rfl (.tmp 56) rfl gb (ob + i * 32) r rfl (RRF.out w' (below_next B4.out hB)) ?_)
                    exact ⟨iv r, rfl, rfl, Below.refl _ _⟩
                  · as_aux_lemma =>
                    refine fun w' hB v3 h3 v7 h7 v11 h11 => ?_
                    obtain rfl := h3
                    obtain rfl := h7
                    obtain rfl := h11
                    show wpList _ _ _ _ _ _
                    go_wp2_with fail
                    exact ⟨.bool false, by first | rfl | (go_simp; done), rfl, Below.refl _ _⟩
                  · as_aux_lemma =>
                    refine fun w' hB v3 h3 v12 h12 => ?_
                    obtain rfl := h3
                    obtain rfl := h12
                    show wpList _ _ _ _ _ _
                    go_wp2_with fail
                    exact ⟨.bool false, by first | rfl | (go_simp; done), rfl, Below.refl _ _⟩
                  · as_aux_lemma =>
                    refine fun w' hB v13 h13 => ?_
                    obtain rfl := h13
                    show wpList _ _ _ _ _ _
                    go_wp2_with fail
                    exact ⟨.slice (some ⟨ga, oa, none⟩) n c, by first | rfl | (go_simp; done), rfl, Below.refl _ _⟩
                  · as_aux_lemma =>
                    refine fun w' hB v13 h13 => ?_
                    obtain rfl := h13
                    show wpList _ _ _ _ _ _
                    go_wp2_with fail
                    exact ⟨.int .i64 j, by first | rfl | (go_simp; done), rfl, Below.refl _ _⟩
                  · as_aux_lemma =>
                    refine fun w' hB v13 h13 v14 h14 v15 h15 => ?_
                    obtain rfl := h13
                    obtain rfl := h14
                    obtain rfl := h15
                    show wpList _ _ _ _ _ _
                    go_wp2_with fail
                    exact ⟨.pointer (some ⟨ga, oa + j * 32, none⟩), by first | rfl | (go_simp; done), rfl, Below.refl _ _⟩
                  · as_aux_lemma =>
                    refine fun w' hB v13 h13 v16 h16 => ?_
                    obtain rfl := h13
                    obtain rfl := h16
                    show wpList _ _ _ _ _ _
                    refine wpList_unguard rfl ?_
                    go_wp2_with (first | refine wpList_load_at rfl (.tmp 62) rfl ga (oa + j * 32) q rfl (RQF.out w' (below_next B4.out hB)) ?_)
                    exact ⟨iv q, rfl, rfl, Below.refl _ _⟩
                  · as_aux_lemma =>
                    refine fun w' hB v13 h13 => ?_
                    obtain rfl := h13
                    show wpList _ _ _ _ _ _
                    go_wp2_with fail
                    exact ⟨.slice (some ⟨gb, ob, none⟩) n d, by first | rfl | (go_simp; done), rfl, Below.refl _ _⟩
                  · as_aux_lemma =>
                    refine fun w' hB v13 h13 => ?_
                    obtain rfl := h13
                    show wpList _ _ _ _ _ _
                    go_wp2_with fail
                    exact ⟨.int .i64 j, by first | rfl | (go_simp; done), rfl, Below.refl _ _⟩
                  · as_aux_lemma =>
                    refine fun w' hB v13 h13 v18 h18 v19 h19 => ?_
                    obtain rfl := h13
                    obtain rfl := h18
                    obtain rfl := h19
                    show wpList _ _ _ _ _ _
                    go_wp2_with fail
                    exact ⟨.pointer (some ⟨gb, ob + j * 32, none⟩), by first | rfl | (go_simp; done), rfl, Below.refl _ _⟩
                  · as_aux_lemma =>
                    refine fun w' hB v13 h13 v20 h20 => ?_
                    obtain rfl := h13
                    obtain rfl := h20
                    show wpList _ _ _ _ _ _
                    refine wpList_unguard rfl ?_
                    go_wp2_with (first | refine wpList_load_at rfl (.tmp 66) rfl gb (ob + j * 32) s rfl (RSF.out w' (below_next B4.out hB)) ?_)
                    exact ⟨iv s, rfl, rfl, Below.refl _ _⟩
                  · as_aux_lemma =>
                    refine fun w' hB v13 h13 v17 h17 v21 h21 => ?_
                    obtain rfl := h13
                    obtain rfl := h17
                    obtain rfl := h21
                    show wpList _ _ _ _ _ _
                    go_wp2_with fail
                    exact ⟨.bool false, by first | rfl | (go_simp; done), rfl, Below.refl _ _⟩
                  · as_aux_lemma =>
                    refine fun w' hB v3 h3 v13 h13 v22 h22 => ?_
                    obtain rfl := h3
                    obtain rfl := h13
                    obtain rfl := h22
                    show wpList _ _ _ _ _ _
                    go_wp2_with fail
                    exact ⟨.bool false, by first | rfl | (go_simp; done), rfl, Below.refl _ _⟩
                  · as_aux_lemma =>
                    refine fun w' hB v3 h3 v23 h23 => ?_
                    obtain rfl := h3
                    obtain rfl := h23
                    show wpList _ _ _ _ _ _
                    go_wp2_with fail
                    exact ⟨.bool false, by first | rfl | (go_simp; done), rfl, Below.refl _ _⟩
                  · refine fun w' hB v0 h0 v1 h1 v2 h2 v3 h3 v4 h4 v5 h5 v6 h6 v7 h7 v8 h8 v9 h9 v10 h10 v11 h11 v12 h12 v13 h13 v14 h14 v15 h15 v16 h16 v17 h17 v18 h18 v19 h19 v20 h20 v21 h21 v22 h22 v23 h23 v24 h24 => ?_
                    obtain rfl := h24
                    simp only [onP]
                    go_simp
                    clear h0 h1 h2 h3 h4 h5 h6 h7 h8 h9 h10 h11 h12 h13 h14 h15 h16 h17 h18 h19 h20 h21 h22 h23
                    have hcf : cl1 (a.take (i + 2)) (b.take (i + 2)) = false := by rw [UCH.out, ← HT.out]; rfl
                    have HCF := Lib.hid hcf
                    have HWS : wr.heap.size ≤ w'.heap.size := Nat.le_trans B4.out.size hB.size
                    have K20 := Lib.hid (block_keep hB KX.out); have K21 := Lib.hid (block_keep hB KY.out)
                    have BE := Lib.hid (HBB.out.trans ((below_next B4.out hB).mono HBB.out.size))
                    have UE := Lib.hid (HU.out.keep (below_next B4.out hB)); have VE := Lib.hid (HV.out.keep (below_next B4.out hB))
                    have HLT := Lib.hid fun k (hk : u5.ownBlock = some k) => (World.ownsRow.lt HU.out k hk).2
                    have HUL := Lib.hid (show (upl (a.take i)).length ≤ 1000 by rw [upl_len, List.length_take]; omega)
                    have HVL := Lib.hid (show (upl (b.take i)).length ≤ 1000 by rw [upl_len, List.length_take]; omega)
                    obtain ⟨wE, hwE⟩ : ∃ wE, wE = w' := ⟨_, rfl⟩
                    rw [← hwE] at HWS K20 K21 BE UE VE
                    rw [← hwE]
                    clear hcf hB KX KY B4 HU HV hwE HBB
                    go_wp2_with fail
                    refine wp_region_once 7 3 (fun j => false) (fun W => W.heap[g20]? = some (iblk X) ∧ W.heap[g21]? = some (iblk Y) ∧ Below wo.heap.size wo W) (fun W => OwnsI W wo.heap.size u5 (upl (a.take i)) ∧ OwnsI W wo.heap.size u6 (upl (b.take i))) [Is (u5), Is (iv X), (fun v W => ∃ g, v = .slice (some ⟨g, 0, none⟩) 1 1 ∧ wE.heap.size ≤ g ∧ W.heap[g]? = some (.cells (idsL [X]).toArray 25 (0, 0))), (fun v W => OwnsI W wo.heap.size v (upl (a.take i) ++ [X]) ∧ OwnsI W wo.heap.size u6 (upl (b.take i)) ∧ (v.ownBlock = none ∨ u6.ownBlock = none ∨ v.ownBlock ≠ u6.ownBlock)), Is (u6), Is (iv Y), (fun v W => ∃ g, v = .slice (some ⟨g, 0, none⟩) 1 1 ∧ wE.heap.size ≤ g ∧ W.heap[g]? = some (.cells (idsL [Y]).toArray 25 (0, 0)))] [[], [], [(1, some 72)], [(0, some 71), (2, some 73)], [], [], [(5, some 76)], [(4, some 75), (6, some 77)], [(3, some 74)], [(7, some 78)]] [(0, some 71), (1, some 72), (2, some 73), (3, some 74), (4, some 75), (5, some 76), (6, some 77)] [0, 0, 2, 7, 0, 0, 32, 127, 255, 511]
                      (by kernel_rfl) (by kernel_rfl) (by kernel_rfl) (by kernel_rfl) (by kernel_rfl) ⟨Is.kept _, Is.kept _, (fun _ _ _ hb ⟨g, e, h1, h2⟩ => ⟨g, e, h1, block_keep hb h2⟩), (fun _ _ _ hb h => ⟨OwnsI.keep h.1 hb, OwnsI.keep h.2.1 hb, h.2.2⟩), Is.kept _, Is.kept _, (fun _ _ _ hb ⟨g, e, h1, h2⟩ => ⟨g, e, h1, block_keep hb h2⟩), trivial⟩ (fun _ _ hb h => ⟨block_keep hb h.1, block_keep hb h.2.1, h.2.2.trans (hb.mono h.2.2.size)⟩) (fun _ _ hb h => ⟨OwnsI.keep h.1 hb, OwnsI.keep h.2 hb⟩) (by decide) (fun _ _ hb => ⟨block_keep hb K20.out, block_keep hb K21.out, BE.out.trans (hb.mono BE.out.size)⟩) (fun _ hb => ⟨UE.out.keep hb, VE.out.keep hb⟩) ⟨?_, ?_, ?_, ?_, ?_, ?_, ?_, trivial⟩ ?_
                    · as_aux_lemma =>
                      refine fun w' hS hB hP => ?_
                      show wpList _ _ _ _ _ _
                      go_wp2_with fail
                      exact StepO.of_ne (by decide) ⟨u5, by first | rfl | (go_simp; done), rfl, Below.refl _ _, fun h => absurd h (by decide)⟩
                    · as_aux_lemma =>
                      refine fun w' hS hB hP => ?_
                      show wpList _ _ _ _ _ _
                      go_wp2_with (first | refine wpList_load_id rfl (.tmp 9) rfl g20 X rfl hB.1 ?_)
                      exact StepO.of_ne (by decide) ⟨iv X, rfl, rfl, Below.refl _ _, fun h => absurd h (by decide)⟩
                    · as_aux_lemma =>
                      refine fun w' hS hB hP v1 h1 => ?_
                      obtain rfl := h1
                      show wpList _ _ _ _ _ _
                      go_wp2_with (first | refine wpList_build_1 rfl (.tmp 72) X rfl rfl ?_)
                      exact StepO.of_ne (by decide) ⟨_, rfl, ⟨_, rfl, hS, heap_new _ _⟩, below_alloc (Below.refl _ _) _, fun h => absurd h (by decide)⟩
                    · as_aux_lemma =>
                      refine fun w' hS hB hP v0 h0 v2 h2 => ?_
                      obtain rfl := h0
                      show wpList _ _ _ _ _ _
                      obtain ⟨g2, rfl, hge2, hg2⟩ := h2
                      have hp := hP rfl
                      have HP1 := Lib.hid hp.1
                      have HP2 := Lib.hid hp.2
                      clear hp hP
                      go_wp2_with (at_builtin; refine wpList_append_two rfl (.tmp 71) (.tmp 73) rfl wo.heap.size _ (upl (a.take i)) rfl HP1.out X g2 1 rfl (IdsAt.row hg2) (by have := HUL.out; omega) (by have := hB.2.2.size; omega) u6 (upl (b.take i)) HP2.out HAP.out (fun v' w5 ho hu hne hbel hfar hsz => ?_))
                      exact StepO.of_eq rfl ⟨v', rfl, ⟨ho, hu, hne⟩, hsz, ⟨hfar g20 _ hB.1 (fun e2 => absurd (HLT.out g20 e2) (by omega)), hfar g21 _ hB.2.1 (fun e2 => absurd (HLT.out g21 e2) (by omega)), hbel _ _ (Nat.le_refl _) hB.2.2⟩, keepL_at _ _ ⟨fun _ => fun u h => h, fun _ => fun u h => h, fun _ => (fun u hu => by obtain ⟨g, e, h1, h2⟩ := hu; exact ⟨g, e, h1, hfar g _ h2 (fun e2 => absurd (HLT.out g e2) (by omega))⟩), fun h => absurd rfl h, fun _ => fun u h => h, fun _ => fun u h => h, fun _ => (fun u hu => by obtain ⟨g, e, h1, h2⟩ := hu; exact ⟨g, e, h1, hfar g _ h2 (fun e2 => absurd (HLT.out g e2) (by omega))⟩), trivial⟩⟩
                    · as_aux_lemma =>
                      refine fun w' hS hB hP => ?_
                      show wpList _ _ _ _ _ _
                      go_wp2_with fail
                      exact StepO.of_ne (by decide) ⟨u6, by first | rfl | (go_simp; done), rfl, Below.refl _ _, fun h => absurd h (by decide)⟩
                    · as_aux_lemma =>
                      refine fun w' hS hB hP => ?_
                      show wpList _ _ _ _ _ _
                      go_wp2_with (first | refine wpList_load_id rfl (.tmp 10) rfl g21 Y rfl hB.2.1 ?_)
                      exact StepO.of_ne (by decide) ⟨iv Y, rfl, rfl, Below.refl _ _, fun h => absurd h (by decide)⟩
                    · as_aux_lemma =>
                      refine fun w' hS hB hP v5 h5 => ?_
                      obtain rfl := h5
                      show wpList _ _ _ _ _ _
                      go_wp2_with (first | refine wpList_build_1 rfl (.tmp 76) Y rfl rfl ?_)
                      exact StepO.of_ne (by decide) ⟨_, rfl, ⟨_, rfl, hS, heap_new _ _⟩, below_alloc (Below.refl _ _) _, fun h => absurd h (by decide)⟩
                    · refine fun w' G hS hB hN1 hN2 v0 h0 v1 h1 v2 h2 v3 h3 v4 h4 v5 h5 v6 h6 => ?_
                      replace h0 := h0.1
                      replace h1 := h1.1
                      replace h2 := h2.1
                      replace h3 := h3.1
                      replace h4 := h4.1
                      replace h5 := h5.1
                      replace h6 := h6.1
                      clear hN1 hN2
                      obtain rfl := h4
                      simp only [onP, List.drop_succ_cons, List.drop_zero]
                      go_simp
                      clear h0 h1 h2 h5
                      obtain ⟨g6, rfl, hge6, hg6⟩ := h6
                      have H3 := Lib.hid h3
                      clear h3
                      have BB := Lib.hid hB.2.2
                      clear hB
                      go_wp2_with (at_builtin; refine wpList_append_two rfl (.tmp 75) (.tmp 77) rfl wo.heap.size _ (upl (b.take i)) rfl H3.out.2.1 Y g6 1 rfl (IdsAt.row hg6) (by have := HVL.out; omega) (by have := BB.out.size; omega) v3 _ H3.out.1 (H3.out.2.2.elim (fun h => .inr (.inl h)) fun h => h.elim .inl fun h => .inr (.inr (Ne.symm h))) (fun v' w6 ho hu hne hbel hfar hsz => ?_))
                      have HO := Lib.hid ho; have HUU := Lib.hid hu; have HNE := Lib.hid hne; have HBE := Lib.hid (hbel _ _ (Nat.le_refl _) BB.out)
                      clear ho hu hne hbel hfar hsz H3
                      go_wp2_with fail
                      go_roundg (n + 2 - (i + 2))
                      case measure => have := HGI.out; omega
                      case rel => exact ⟨i + 2, rfl, by have := HIE.out; omega, by omega, by go_num, HCF.out, by rw [UA.out, ← HXX.out]; exact HUU.out, by rw [UB.out, ← HYY.out]; exact HO.out, HNE.out.elim (fun h => .inr (.inl h)) fun h => h.elim .inl fun h => .inr (.inr (Ne.symm h)), HBE.out⟩
        · have hlt' : ¬ (i : Int) < (n : Int) := by omega
          have hla : a.length ≤ i := by rw [← HN.out]; omega
          have eta : a.take i = a := List.take_of_length_le hla
          have etb : b.take i = b := List.take_of_length_le (by rw [← HL.out]; exact hla)
          rw [eta] at HU HCL
          rw [etb] at HV HCL
          have HLA := Lib.hid (upl_len a); have HLB := Lib.hid (upl_len b)
          obtain ⟨f', hf1, hf2⟩ := clash_up (f := f) (a := a) (b := b) (by rw [← HN.out]; exact h1) HF.out
          rw [HCL.out, Bool.false_or] at hf2
          have HF1 := Lib.hid hf1; have HF2 := Lib.hid hf2
          obtain ⟨m, hmm⟩ : ∃ m, m = (upl a).length := ⟨_, rfl⟩
          have hml : m < n ∧ 0 < m := by rw [hmm, HLA.out, ← HN.out]; omega
          obtain ⟨g1, k1, rfl, _, _, hI1⟩ := HU.out.at hmm.symm hml.2
          obtain ⟨g2, k2, rfl, _, _, hI2⟩ := HV.out.at (by rw [HLB.out, ← HL.out, ← HLA.out]; exact hmm.symm) hml.2
          have HI1 := Lib.hid hI1; have HI2 := Lib.hid hI2; have HMM := Lib.hid hmm
          clear hla eta etb hf1 hf2 hI1 hI2 hmm HU HV HAP
          go_wp2_with fail
          go_roundg m
          case measure => rw [HG.out, ← HN.out]; exact hml.1
          case rel => exact ⟨f', upl a, upl b, _, _, k1, k2, HMM.out, by rw [HLA.out, HLB.out, HL.out], HF1.out, by rw [← HMM.out]; omega, upl_lt HA.out, upl_lt HBL.out, HF2.out.symm.trans HR.out, by rw [HMM.out], by rw [HMM.out], fun _ => ⟨g1, 0, rfl, HI1.out⟩, fun _ => ⟨g2, 0, rfl, HI2.out⟩, HB.out.trans (HBB.out.mono HB.out.size)⟩
    · have h1' : ¬ (1 : Int) < (n : Int) := by omega
      have hRf : R = false := by rw [← HR.out]; exact clash_end (by rw [← HN.out]; omega)
      subst hRf
      go_wp2_with fail
      exact bodyPost_ret (v := .bool false) (by simp [results, Try.results27, asAddr]) rfl ⟨rfl, HB.out⟩
end Go.Proofs.Ytfopockjakeplaa
