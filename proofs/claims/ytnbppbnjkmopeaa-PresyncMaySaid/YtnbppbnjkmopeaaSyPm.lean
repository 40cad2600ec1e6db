/- The document's answer to which bits may stand behind others. No condition. -/
import Derived.Test.YtnbppbnjkmopeaaSyPg
import Derived.Test.YtnbppbnjkmopeaaRt1
namespace Go.Proofs.Ytnbppbnjkmopeaa
open Go.RowKit

theorem nx_pair (b : Nat) (took should : Int) (l : Nat) : (if ((tgt b).2 && decide (1 ≤ should ∧ should ≤ 1099511627776)) = true then Value.tuple #[.int .u32 (sht (nxN (tgt b).1 (spn took should) should.toNat l) : Nat), .bool true] else .tuple #[.int .u32 0, .bool false]) = .tuple #[.int .u32 ((nexP b took should l).1 : Nat), .bool (nexP b took should l).2] := by
  unfold nexP
  by_cases c : (tgt b).2 = true ∧ 1 ≤ should ∧ should ≤ 1099511627776
  · rw [if_pos c, if_pos (by rw [c.1, decide_eq_true c.2]; rfl)]
  · rw [if_neg c, if_neg (by
      intro h
      rw [Bool.and_eq_true, decide_eq_true_eq] at h
      exact c h)]
    rfl
set_option maxRecDepth 100000 in
set_option maxHeartbeats 4000000 in
theorem refmay_any (r : Rl) (hl : r.limit < 4294967296) (htl : (tgt r.limit).2 = true) (he0 : 0 ≤ r.every) (he1 : r.every ≤ 1000) (hs0 : 1 ≤ r.spacing) (hs1 : r.spacing ≤ 1048576) (k : Nat) (hk : k < 9223372036854775808) (was now : Nat) (hwas : was < 4294967296) (hnow : now < 4294967296) (w : World) :
    Calls Try.prog 44 #[rlv r, .int .i64 (k : Int), .int .u32 (was : Int), .int .u32 (now : Int)] w fun e w' => e = .returned (.bool (mayP r k was now)) ∧ Below w.heap.size w w' := by
  have KR := Lib.hid (heap_new w (rlblk r))
  have B := Lib.hid (below_alloc (Below.refl w.heap.size w) (rlblk r))
  have HC : Hid (∀ V : World, V.heap[w.heap.size]? = some (rlblk r) → V.cell? ⟨w.heap.size, 0, none⟩ = some (.int .u32 r.limit) ∧ V.cell? ⟨w.heap.size, 1, none⟩ = some (.int .i64 r.every) ∧ V.cell? ⟨w.heap.size, 2, none⟩ = some (.int .i64 r.spacing)) :=
    Lib.hid fun V hV => ⟨seg_cell (S := rlS r) (k := 0) hV rfl rfl, seg_cell (S := rlS r) (k := 1) hV rfl rfl, seg_cell (S := rlS r) (k := 2) hV rfl rfl⟩
  obtain ⟨E, hE⟩ : ∃ E : Nat, r.every = E := ⟨r.every.toNat, by omega⟩
  obtain ⟨S, hS⟩ : ∃ S : Nat, r.spacing = S := ⟨r.spacing.toNat, by omega⟩
  rw [hE] at HC he0 he1
  rw [hS] at HC hs0 hs1
  have c0 : (w.alloc (.cells (rlL r).toArray 62)).cell? ⟨w.heap.size, 0, none⟩ = some (.int .u32 r.limit) := (HC.out _ KR.out).1
  have c1 : (w.alloc (.cells (rlL r).toArray 62)).cell? ⟨w.heap.size, 1, none⟩ = some (.int .i64 (E : Int)) := (HC.out _ KR.out).2.1
  have c2 : (w.alloc (.cells (rlL r).toArray 62)).cell? ⟨w.heap.size, 2, none⟩ = some (.int .i64 (S : Int)) := (HC.out _ KR.out).2.2
  have hE0 : E ≤ 1000 := by omega
  have hS0 : 1 ≤ S := by omega
  have hS1 : S ≤ 1048576 := by omega
  clear he0 he1 hs0 hs1
  have HE := Lib.hid hE; have HS := Lib.hid hS
  obtain ⟨R, hR⟩ : ∃ R, R = mayP r k was now := ⟨_, rfl⟩
  rw [← hR]
  rw [mayP, hE] at hR
  have HR := Lib.hid hR
  clear hR hE hS
  go_enter Try.func44, Try.ntmps44
  by_cases p1 : E = 0
  · subst p1
    have hR : R = decide (was = now) := by rw [HR.out, if_pos (.inl rfl)]
    clear HR HC HE HS
    go_wp2_with fail
    go_ret
    refine ⟨congrArg (fun b => Ending.returned (.bool b)) ?_, B.out⟩
    rw [hR, Bool.eq_iff_iff, beq_iff_eq, decide_eq_true_eq]
    omega
  · have EME : Hid ((k : Int) % (E : Int) = ((k % E : Nat) : Int)) := Lib.hid (by simp)
    go_upto_if 31 with fail
    by_cases p2 : k % E = 0
    · have hR : R = mayQ r was now := by rw [HR.out, EME.out, p2, if_neg (by simp; omega)]
      have e31 : (((E : Int) == 0) || ((k : Int) % (E : Int) != 0)) = false := by
        rw [EME.out, p2]; simp; omega
      rw [e31]
      obtain ⟨T, hT⟩ : ∃ T, T = E * S := ⟨_, rfl⟩
      have hT0 : 1 ≤ T := by rw [hT]; exact Nat.mul_pos (Nat.pos_of_ne_zero p1) hS0
      clear HR e31 p1 p2 EME
      have hT1 : T ≤ 1048576000 := by rw [hT]; exact Nat.mul_le_mul hE0 hS1
      have HT := Lib.hid (show (E : Int) * (S : Int) = T by rw [hT]; simp)
      have ct0 := Lib.hid fun W => reftarget_any r.limit hl W
      have HL := Lib.hid (tgt_lt r.limit)
      have hRQ := Lib.hid hR
      have HTL := Lib.hid htl
      clear hR c1 c2 hT
      obtain ⟨L, hL⟩ : ∃ L, L = (tgt r.limit).1 := ⟨_, rfl⟩
      rw [← hL] at HL
      have HLE := Lib.hid hL
      clear hL htl
      go_wp2_with fail
      refine (ct0.out _).mono ?_
      rintro e w1 ⟨vL, kL, rfl, hvl, hb⟩
      rw [HTL.out] at hvl
      obtain ⟨hv1, hv2, hv3⟩ := hvl rfl
      rw [← HLE.out] at hv1 hv2
      have VL := Lib.hid hv1; have VL2 := Lib.hid hv2
      have K1 := Lib.hid (block_keep hb KR.out); have B1 := Lib.hid (below_next B.out hb)
      have c1 : w1.cell? ⟨w.heap.size, 1, none⟩ = some (.int .i64 (E : Int)) := (HC.out _ K1.out).2.1
      have c2 : w1.cell? ⟨w.heap.size, 2, none⟩ = some (.int .i64 (S : Int)) := (HC.out _ K1.out).2.2
      rw [HTL.out]
      clear hb KR B ct0 hvl hv1 hv2 c0
      go_wp2_with fail
      rw [HT.out, show wrap64 (T : Int) = (T : Int) from by unfold wrap64; omega]
      clear c1 c2 K1 HC
      obtain ⟨V1, hV1⟩ : ∃ V, V = nexP was 0 T L := ⟨_, rfl⟩
      obtain ⟨V2, hV2⟩ : ∃ V, V = nexP was (4 * T) T L := ⟨_, rfl⟩
      have cn1 := Lib.hid fun W bl hW => refnextK_any was hwas 0 T bl vL L HL.out kL VL2.out (by omega) W hW
      have cn2 := Lib.hid fun W bl hW => refnextK_any was hwas (4 * T) T bl vL L HL.out kL VL2.out (by omega) W hW
      have hV1l : V1.1 < 4294967296 := by
        rw [hV1, nexP]
        split
        · exact sht_lt _ (nxN_lt _ _ _ _ HL.out)
        · simp
      have hV2l : V2.1 < 4294967296 := by
        rw [hV2, nexP]
        split
        · exact sht_lt _ (nxN_lt _ _ _ _ HL.out)
        · simp
      have HQ : Hid (R = (V1.2 && V2.2 && (tgt V2.1).2 && (tgt now).2 && (!(tgt V1.1).2 || decide ((tgt V1.1).1 ≤ (tgt now).1)) && decide ((tgt now).1 ≤ (tgt V2.1).1))) := Lib.hid (by
        rw [hRQ.out, mayQ, HE.out, HS.out, HT.out, ← HLE.out, hV1, hV2])
      clear hRQ HE HS HT HLE HTL
      have HV1 := Lib.hid hV1; have HV2 := Lib.hid hV2; have HV1l := Lib.hid hV1l; have HV2l := Lib.hid hV2l
      clear hV1 hV2 hV1l hV2l
      refine (cn1.out _ _ VL.out).mono ?_
      rintro e w2 ⟨rfl, hb⟩
      rw [nx_pair was 0 (T : Int) L, ← HV1.out]
      have VL' := Lib.hid (VL.out.keep hb); have B2 := Lib.hid (below_next B1.out hb)
      clear hb B1 cn1 VL
      go_wp2_with fail
      refine (cn2.out _ _ VL'.out).mono ?_
      rintro e w3 ⟨rfl, hb⟩
      rw [nx_pair was (4 * (T : Int)) (T : Int) L, ← HV2.out]
      have B3 := Lib.hid (below_next B2.out hb)
      clear hb B2 cn2 VL' HV1 HV2
      obtain ⟨A1, B1'⟩ := V1
      obtain ⟨A2, B2'⟩ := V2
      have HV1l : Hid (A1 < 4294967296) := HV1l
      have HV2l : Hid (A2 < 4294967296) := HV2l
      have HQ : Hid (R = (B1' && B2' && (tgt A2).2 && (tgt now).2 && (!(tgt A1).2 || decide ((tgt A1).1 ≤ (tgt now).1)) && decide ((tgt now).1 ≤ (tgt A2).1))) := HQ
      have t1 := Lib.hid fun W => reftarget_any A1 HV1l.out W
      have t2 := Lib.hid fun W => reftarget_any A2 HV2l.out W
      have t3 := Lib.hid fun W => reftarget_any now hnow W
      obtain ⟨X, hX⟩ : ∃ X, X = (tgt A1).1 := ⟨_, rfl⟩
      obtain ⟨Y, hY⟩ : ∃ X, X = (tgt A2).1 := ⟨_, rfl⟩
      obtain ⟨Z, hZ⟩ : ∃ X, X = (tgt now).1 := ⟨_, rfl⟩
      obtain ⟨cX, hcX⟩ : ∃ X, X = (tgt A1).2 := ⟨_, rfl⟩
      obtain ⟨cY, hcY⟩ : ∃ X, X = (tgt A2).2 := ⟨_, rfl⟩
      obtain ⟨cZ, hcZ⟩ : ∃ X, X = (tgt now).2 := ⟨_, rfl⟩
      rw [show tgt A1 = (X, cX) from by rw [hX, hcX]] at t1
      rw [show tgt A2 = (Y, cY) from by rw [hY, hcY]] at t2
      rw [show tgt now = (Z, cZ) from by rw [hZ, hcZ]] at t3
      rw [← hX, ← hY, ← hZ, ← hcX, ← hcY, ← hcZ] at HQ
      clear hX hY hZ hcX hcY hcZ HV1l HV2l
      dsimp only
      go_wp2_with fail
      refine (t1.out _).mono ?_
      rintro e w4 ⟨vX, kX, rfl, hx, hb⟩
      have VX := Lib.hid hx
      have B4 := Lib.hid (below_next B3.out hb)
      clear hx hb B3 t1
      go_wp2_with fail
      refine (t2.out _).mono ?_
      rintro e w5 ⟨vY, kY, rfl, hy, hb⟩
      have VY := Lib.hid hy
      have VX5 : Hid (cX = true → ∃ b, BitsIs w5 b vX X kX ∧ X < 2 ^ kX ∧ kX ≤ 3000) := Lib.hid fun e => ⟨_, (VX.out e).1.keep hb, (VX.out e).2⟩
      have B5 := Lib.hid (below_next B4.out hb)
      clear hy hb B4 t2 VX
      go_wp2_with fail
      refine (t3.out _).mono ?_
      rintro e w6 ⟨vZ, kZ, rfl, hz, hb⟩
      have VZ := Lib.hid hz
      have VX6 : Hid (cX = true → ∃ b, BitsIs w6 b vX X kX ∧ X < 2 ^ kX ∧ kX ≤ 3000) := Lib.hid fun e => by
        obtain ⟨b, h1, h2⟩ := VX5.out e
        exact ⟨b, h1.keep hb, h2⟩
      have VY6 : Hid (cY = true → ∃ b, BitsIs w6 b vY Y kY ∧ Y < 2 ^ kY ∧ kY ≤ 3000) := Lib.hid fun e => ⟨_, (VY.out e).1.keep hb, (VY.out e).2⟩
      have B6 := Lib.hid (below_next B5.out hb)
      clear hz hb B5 t3 VX5 VY
      have hbad : Hid (B1' = false ∨ B2' = false ∨ cY = false ∨ cZ = false → R = false) := Lib.hid fun h => by
        rw [HQ.out]; rcases h with rfl | rfl | rfl | rfl <;> simp
      cases B1'
      · have hR := hbad.out (.inl rfl)
        clear hbad HQ
        subst hR
        go_wp2_with fail
        go_ret
        exact ⟨rfl, B6.out⟩
      cases B2'
      · have hR := hbad.out (.inr (.inl rfl))
        clear hbad HQ
        subst hR
        go_wp2_with fail
        go_ret
        exact ⟨rfl, B6.out⟩
      cases cY
      · have hR := hbad.out (.inr (.inr (.inl rfl)))
        clear hbad HQ
        subst hR
        go_wp2_with fail
        go_ret
        exact ⟨rfl, B6.out⟩
      cases cZ
      · have hR := hbad.out (.inr (.inr (.inr rfl)))
        clear hbad HQ
        subst hR
        go_wp2_with fail
        go_ret
        exact ⟨rfl, B6.out⟩
      clear hbad
      obtain ⟨bY, y1, y2, y3⟩ := VY6.out rfl
      obtain ⟨z1, z2, z3⟩ := VZ.out rfl
      have cYZ := Lib.hid (less_any bY vY Y kY y2 _ vZ Z kZ z2 (by omega) (by omega) w6 y1 z1)
      have HZ1 := Lib.hid z1; have HZ2 := Lib.hid z2
      clear y1 y2 y3 z1 z2 VY6 VZ
      go_wp2_with fail
      refine cYZ.out.mono ?_
      rintro e w7 ⟨rfl, hb⟩
      have B7 := Lib.hid (below_next B6.out hb)
      have HZ7 := Lib.hid (HZ1.out.keep hb)
      have VX7 : Hid (cX = true → ∃ b, BitsIs w7 b vX X kX ∧ X < 2 ^ kX ∧ kX ≤ 3000) := Lib.hid fun e => by
        obtain ⟨b, h1, h2⟩ := VX6.out e
        exact ⟨b, h1.keep hb, h2⟩
      clear hb B6 cYZ HZ1 VX6
      by_cases hyz : Y < Z
      · have hR : R = false := by rw [HQ.out, decide_eq_false (show ¬ Z ≤ Y by omega), Bool.and_false]
        rw [decide_eq_true hyz]
        clear HQ hyz
        subst hR
        go_wp2_with fail
        go_ret
        exact ⟨rfl, B7.out⟩
      · have hR : R = (!cX || decide (X ≤ Z)) := by rw [HQ.out, decide_eq_true (show Z ≤ Y by omega)]; simp
        rw [decide_eq_false hyz]
        have HR2 := Lib.hid hR
        clear HQ hyz hR
        cases cX
        · go_wp2_with fail
          go_ret
          refine ⟨congrArg (fun b => Ending.returned (.bool b)) ?_, B7.out⟩
          rw [HR2.out]; rfl
        · obtain ⟨bX, x1, x2, x3⟩ := VX7.out rfl
          have cZX := Lib.hid (less_any _ vZ Z kZ HZ2.out bX vX X kX x2 (by omega) (by omega) w7 HZ7.out x1)
          clear x1 x2 VX7
          go_wp2_with fail
          refine cZX.out.mono ?_
          rintro e w8 ⟨rfl, hb⟩
          have B8 := Lib.hid (below_next B7.out hb)
          clear hb
          go_wp2_with fail
          go_ret
          refine ⟨congrArg (fun b => Ending.returned (.bool b)) ?_, B8.out⟩
          rw [HR2.out]
          by_cases hxz : X ≤ Z
          · rw [decide_eq_true hxz, decide_eq_false (show ¬ Z < X by omega)]; rfl
          · rw [decide_eq_false hxz, decide_eq_true (show Z < X by omega)]; rfl
    · have hR : R = decide (was = now) := by rw [HR.out, EME.out, if_pos (.inr (by omega))]
      have e31 : (((E : Int) == 0) || ((k : Int) % (E : Int) != 0)) = true := by
        rw [EME.out]; simp; omega
      rw [e31]
      clear HR HC HE HS e31 EME
      go_wp2_with fail
      go_ret
      refine ⟨congrArg (fun b => Ending.returned (.bool b)) ?_, B.out⟩
      rw [hR, Bool.eq_iff_iff, beq_iff_eq, decide_eq_true_eq]
      omega
end Go.Proofs.Ytnbppbnjkmopeaa
