/- The law BitsLimit: what comes next is never easier than the limit, nor than four times what was. No condition. -/
import Derived.Test.YtdffblfofdniaaaBtMeans
import Derived.Test.YtdffblfofdniaaaBtNext
import Derived.Test.YtdffblfofdniaaaOpenMore
import Derived.Test.YtdffblfofdniaaaHead
namespace Go.Proofs.Ytdffblfofdniaaa
open Go.ChangeShapes Go.WideShapes Go.ChangeAt Go.RowKit

theorem nxN_le (t k s l : Nat) : nxN t k s l ≤ l := by unfold nxN; split <;> (try split) <;> omega
theorem nxN_four (t k s l : Nat) (hs : 1 ≤ s) (hk : k ≤ 4 * s) : 2 ^ 256 ≤ t * 4 ∨ nxN t k s l ≤ t * 4 := by
  have h1 : t / s * k ≤ t * 4 := by
    calc t / s * k ≤ t / s * (4 * s) := Nat.mul_le_mul_left _ hk
      _ = t / s * s * 4 := by rw [Nat.mul_comm 4 s, Nat.mul_assoc]
      _ ≤ t * 4 := Nat.mul_le_mul_right _ (Nat.div_mul_le_self t s)
  have h2 : t * k / s ≤ t * 4 := by
    rw [Nat.div_le_iff_le_mul_add_pred (by omega)]
    calc t * k ≤ t * (4 * s) := Nat.mul_le_mul_left _ hk
      _ = s * (t * 4) := by rw [Nat.mul_comm 4 s, Nat.mul_comm s (t * 4), Nat.mul_assoc, Nat.mul_comm 4 s]
      _ ≤ s * (t * 4) + (s - 1) := Nat.le_add_right _ _
  unfold nxN
  split
  · split
    · left; omega
    · right; omega
  · right; omega
theorem spn_le (took should : Int) (h1 : 1 ≤ should) : spn took should ≤ 4 * should.toNat := by unfold spn; omega

set_option maxRecDepth 100000 in
set_option maxHeartbeats 4000000 in
theorem BitsLimit_walk (b : Int) (hb : (Lit.int .u32 b).wf = true) (took should : Int) (ht : (Lit.int .i64 took).wf = true) (hs : (Lit.int .i64 should).wf = true) (l : Nat) (hl : l < 2 ^ 256) (w : World) :
    Calls Try.prog 17 #[.int .u32 b, .agg #[.int .i64 took, .int .i64 should], nv l] w fun e w' => e = .returned (.bool true) ∧ Below w.heap.size w w' := by
  have hb2 : 0 ≤ b ∧ b ≤ 4294967295 := by simpa [Lit.wf, IntKind.min, IntKind.max, IntKind.signed, IntKind.bits] using hb
  obtain ⟨n, rfl⟩ := Int.eq_ofNat_of_zero_le hb2.1
  have hn : n < 4294967296 := by omega
  have HL := Lib.hid hl
  have HT := Lib.hid (tgt_lt n)
  have ct := Lib.hid fun w => target_any n hn w
  have cn := fun w => next_any n hn took should l hl ht hs w
  have h4 := nxN_four (tgt n).1 (spn took should) should.toNat l
  have hle := nxN_le (tgt n).1 (spn took should) should.toNat l
  generalize nxN (tgt n).1 (spn took should) should.toNat l = N at *
  generalize (tgt n).2 = o at *
  generalize (tgt n).1 = t at *
  have hN : N < 2 ^ 256 := by omega
  have B : Below w.heap.size w w := Below.refl _ _
  have A := alloc2 w (.cells #[.int .i64 took, .int .i64 should] 72 (0, 0)) (nblk l)
  have K0 := Lib.hid A.2
  have c0 := cell_of_row _ _ 0 _ _ _ A.1
  have c1 := cell_of_row _ _ 1 _ _ _ A.1
  have hz : w.heap.size < w.heap.size + 1 := by omega
  clear A hb hb2 hl ht hs
  go_enter Try.func17, Try.ntmps17
  go_wp2_with fail
  refine (means_any _).mono ?_
  rintro e w1 ⟨rfl, hb1⟩
  have d0 := (hb1.cell (p := ⟨w.heap.size, 0, none⟩) (by simp; omega)).trans c0
  have d1 := (hb1.cell (p := ⟨w.heap.size, 1, none⟩) (by simp; omega)).trans c1
  have K0' := Lib.hid (below_keep hb1 K0.out)
  have B' := below_next (w := w) (by repeat' (first | (with_reducible exact Below.refl _ _) | (with_reducible assumption) | (with_reducible refine below_alloc ?_ _) | (with_reducible refine Below.drew ?_) | (with_reducible refine below_drewN ?_ _) | (with_reducible refine Below.setCell ?_ ?_ _) | go_size)) hb1
  clear hb1 B K0 c0 c1
  have B := B'; have K0 := K0'
  clear B' K0'
  obtain ⟨K0_0, K0_1, K0_2, K0_3, K0_f, K0_z⟩ := cells4 K0.out
  by_cases hok : o = true ∧ 1 ≤ should ∧ should ≤ 1099511627776
  · have cn2 : Hid (∀ w, Calls Try.prog 52 #[.int .u32 n, .int .i64 took, .int .i64 should, nv l] w fun e w' => e = .returned (.tuple #[.int .u32 (sht N), .bool true]) ∧ Below w.heap.size w w') := Lib.hid fun w => by
      have := cn w
      rwa [if_pos hok] at this
    have H4 := Lib.hid (h4 (by omega) (spn_le took should hok.2.1))
    have ctn := Lib.hid fun w => target_any (sht N) (sht_lt N hN) w
    rw [tgt_sht1 N hN] at ctn
    have hr := rnd_le N
    generalize (tgt (sht N)).2 = on at *
    have hc1 : cmpn (rnd N) l ≤ 0 := cmpn_le.2 (by omega)
    have HRN := Lib.hid (show rnd N < 2 ^ 256 by omega)
    have HH := Lib.hid (show 2 ^ 256 ≤ t * 4 ∨ rnd N ≤ t * 4 by have := H4.out; omega)
    generalize rnd N = rn at *
    generalize sht N = sn at *
    have cm := Lib.hid fun w => mul_any t HT.out 4 (by omega) (by omega) w
    clear cn h4 hok hr hN hle H4
    obtain ⟨F, hF⟩ : ∃ F, F = t * (4 : Int).toNat % 2 ^ 256 := ⟨_, rfl⟩
    obtain ⟨of, hof⟩ : ∃ of, of = decide (2 ^ 256 ≤ t * (4 : Int).toNat) := ⟨_, rfl⟩
    rw [← hF, ← hof] at cm
    have HF := Lib.hid (show F < 2 ^ 256 by rw [hF]; exact Nat.mod_lt _ (by omega))
    have hcc : of = true ∨ cmpn rn F ≤ 0 := by
      rw [hof, hF, show (4 : Int).toNat = 4 from rfl]
      by_cases h : 2 ^ 256 ≤ t * 4
      · left; exact decide_eq_true h
      · right; rw [Nat.mod_eq_of_lt (by omega)]; exact cmpn_le.2 (by have := HH.out; omega)
    have HC := Lib.hid hcc
    clear hcc hF hof
    go_wp2_with fail
    refine (cn2.out _).mono ?_
    rintro e w2 ⟨rfl, hbw2⟩
    have K0' := Lib.hid (below_keep hbw2 (by first | exact K0.out | exact keep_alloc _ (K0.out) | exact keep_alloc _ (keep_alloc _ (K0.out)) | exact keep_alloc _ (keep_alloc _ (keep_alloc _ (K0.out))) | exact keep_alloc _ (keep_alloc _ (keep_alloc _ (keep_alloc _ (K0.out)))) | exact keep_alloc _ (keep_alloc _ (keep_alloc _ (keep_alloc _ (keep_alloc _ (K0.out)))))))
    have B' := below_next (w := w) (by repeat' (first | (with_reducible exact Below.refl _ _) | (with_reducible assumption) | (with_reducible refine below_alloc ?_ _) | (with_reducible refine Below.drew ?_) | (with_reducible refine below_drewN ?_ _) | (with_reducible refine Below.setCell ?_ ?_ _) | go_size)) hbw2
    clear hbw2 B K0 K0_0 K0_1 K0_2 K0_3 K0_f K0_z
    have B := B'; clear B'
    have K0 := K0'; clear K0'
    obtain ⟨K0_0, K0_1, K0_2, K0_3, K0_f, K0_z⟩ := cells4 K0.out
    clear d0 d1
    go_wp2_with fail
    refine (ctn.out _).mono ?_
    rintro e w3 ⟨rfl, hbw3⟩
    have K0' := Lib.hid (below_keep hbw3 (by first | exact K0.out | exact keep_alloc _ (K0.out) | exact keep_alloc _ (keep_alloc _ (K0.out)) | exact keep_alloc _ (keep_alloc _ (keep_alloc _ (K0.out))) | exact keep_alloc _ (keep_alloc _ (keep_alloc _ (keep_alloc _ (K0.out)))) | exact keep_alloc _ (keep_alloc _ (keep_alloc _ (keep_alloc _ (keep_alloc _ (K0.out)))))))
    have B' := below_next (w := w) (by repeat' (first | (with_reducible exact Below.refl _ _) | (with_reducible assumption) | (with_reducible refine below_alloc ?_ _) | (with_reducible refine Below.drew ?_) | (with_reducible refine below_drewN ?_ _) | (with_reducible refine Below.setCell ?_ ?_ _) | go_size)) hbw3
    clear hbw3 B K0 K0_0 K0_1 K0_2 K0_3 K0_f K0_z
    have B := B'; clear B'
    have K0 := K0'; clear K0'
    obtain ⟨K0_0, K0_1, K0_2, K0_3, K0_f, K0_z⟩ := cells4 K0.out
    have K1 := Lib.hid (heap_new w3 (nblk rn))
    go_wp2_with fail
    refine (ct.out _).mono ?_
    rintro e w4 ⟨rfl, hbw4⟩
    have K0' := Lib.hid (below_keep hbw4 (by first | exact K0.out | exact keep_alloc _ (K0.out) | exact keep_alloc _ (keep_alloc _ (K0.out)) | exact keep_alloc _ (keep_alloc _ (keep_alloc _ (K0.out))) | exact keep_alloc _ (keep_alloc _ (keep_alloc _ (keep_alloc _ (K0.out)))) | exact keep_alloc _ (keep_alloc _ (keep_alloc _ (keep_alloc _ (keep_alloc _ (K0.out)))))))
    have K1' := Lib.hid (below_keep hbw4 (by first | exact K1.out | exact keep_alloc _ (K1.out) | exact keep_alloc _ (keep_alloc _ (K1.out)) | exact keep_alloc _ (keep_alloc _ (keep_alloc _ (K1.out))) | exact keep_alloc _ (keep_alloc _ (keep_alloc _ (keep_alloc _ (K1.out)))) | exact keep_alloc _ (keep_alloc _ (keep_alloc _ (keep_alloc _ (keep_alloc _ (K1.out)))))))
    have B' := below_next (w := w) (by repeat' (first | (with_reducible exact Below.refl _ _) | (with_reducible assumption) | (with_reducible refine below_alloc ?_ _) | (with_reducible refine Below.drew ?_) | (with_reducible refine below_drewN ?_ _) | (with_reducible refine Below.setCell ?_ ?_ _) | go_size)) hbw4
    clear hbw4 B K0 K1 K0_0 K0_1 K0_2 K0_3 K0_f K0_z
    have B := B'; clear B'
    have K0 := K0'; clear K0'
    obtain ⟨K0_0, K0_1, K0_2, K0_3, K0_f, K0_z⟩ := cells4 K0.out
    have K1 := K1'; clear K1'
    obtain ⟨K1_0, K1_1, K1_2, K1_3, K1_f, K1_z⟩ := cells4 K1.out
    have K2 := Lib.hid (heap_new w4 (nblk t))
    have K0' := Lib.hid (keep_alloc (nblk t) K0.out); have K1' := Lib.hid (keep_alloc (nblk t) K1.out)
    go_wp2_with fail
    refine (cm.out _).mono ?_
    rintro e w5 ⟨rfl, hbw5⟩
    have K0' := Lib.hid (below_keep hbw5 (by first | exact K0.out | exact keep_alloc _ (K0.out) | exact keep_alloc _ (keep_alloc _ (K0.out)) | exact keep_alloc _ (keep_alloc _ (keep_alloc _ (K0.out))) | exact keep_alloc _ (keep_alloc _ (keep_alloc _ (keep_alloc _ (K0.out)))) | exact keep_alloc _ (keep_alloc _ (keep_alloc _ (keep_alloc _ (keep_alloc _ (K0.out)))))))
    have K1' := Lib.hid (below_keep hbw5 (by first | exact K1.out | exact keep_alloc _ (K1.out) | exact keep_alloc _ (keep_alloc _ (K1.out)) | exact keep_alloc _ (keep_alloc _ (keep_alloc _ (K1.out))) | exact keep_alloc _ (keep_alloc _ (keep_alloc _ (keep_alloc _ (K1.out)))) | exact keep_alloc _ (keep_alloc _ (keep_alloc _ (keep_alloc _ (keep_alloc _ (K1.out)))))))
    have K2' := Lib.hid (below_keep hbw5 (by first | exact K2.out | exact keep_alloc _ (K2.out) | exact keep_alloc _ (keep_alloc _ (K2.out)) | exact keep_alloc _ (keep_alloc _ (keep_alloc _ (K2.out))) | exact keep_alloc _ (keep_alloc _ (keep_alloc _ (keep_alloc _ (K2.out)))) | exact keep_alloc _ (keep_alloc _ (keep_alloc _ (keep_alloc _ (keep_alloc _ (K2.out)))))))
    have B' := below_next (w := w) (by repeat' (first | (with_reducible exact Below.refl _ _) | (with_reducible assumption) | (with_reducible refine below_alloc ?_ _) | (with_reducible refine Below.drew ?_) | (with_reducible refine below_drewN ?_ _) | (with_reducible refine Below.setCell ?_ ?_ _) | go_size)) hbw5
    clear hbw5 B K0 K1 K2 K0_0 K0_1 K0_2 K0_3 K0_f K0_z K1_0 K1_1 K1_2 K1_3 K1_f K1_z
    have B := B'; clear B'
    have K0 := K0'; clear K0'
    obtain ⟨K0_0, K0_1, K0_2, K0_3, K0_f, K0_z⟩ := cells4 K0.out
    have K1 := K1'; clear K1'
    obtain ⟨K1_0, K1_1, K1_2, K1_3, K1_f, K1_z⟩ := cells4 K1.out
    have K2 := K2'; clear K2'
    obtain ⟨K2_0, K2_1, K2_2, K2_3, K2_f, K2_z⟩ := cells4 K2.out
    have K3 := Lib.hid (heap_new w5 (nblk F))
    clear K0' K1'
    go_wp2_with fail
    refine (cmp_any rn l HRN.out HL.out _).mono ?_
    rintro e w6 ⟨rfl, hbw6⟩
    have K0' := Lib.hid (below_keep hbw6 (by first | exact K0.out | exact keep_alloc _ (K0.out) | exact keep_alloc _ (keep_alloc _ (K0.out)) | exact keep_alloc _ (keep_alloc _ (keep_alloc _ (K0.out))) | exact keep_alloc _ (keep_alloc _ (keep_alloc _ (keep_alloc _ (K0.out)))) | exact keep_alloc _ (keep_alloc _ (keep_alloc _ (keep_alloc _ (keep_alloc _ (K0.out)))))))
    have K1' := Lib.hid (below_keep hbw6 (by first | exact K1.out | exact keep_alloc _ (K1.out) | exact keep_alloc _ (keep_alloc _ (K1.out)) | exact keep_alloc _ (keep_alloc _ (keep_alloc _ (K1.out))) | exact keep_alloc _ (keep_alloc _ (keep_alloc _ (keep_alloc _ (K1.out)))) | exact keep_alloc _ (keep_alloc _ (keep_alloc _ (keep_alloc _ (keep_alloc _ (K1.out)))))))
    have K2' := Lib.hid (below_keep hbw6 (by first | exact K2.out | exact keep_alloc _ (K2.out) | exact keep_alloc _ (keep_alloc _ (K2.out)) | exact keep_alloc _ (keep_alloc _ (keep_alloc _ (K2.out))) | exact keep_alloc _ (keep_alloc _ (keep_alloc _ (keep_alloc _ (K2.out)))) | exact keep_alloc _ (keep_alloc _ (keep_alloc _ (keep_alloc _ (keep_alloc _ (K2.out)))))))
    have K3' := Lib.hid (below_keep hbw6 (by first | exact K3.out | exact keep_alloc _ (K3.out) | exact keep_alloc _ (keep_alloc _ (K3.out)) | exact keep_alloc _ (keep_alloc _ (keep_alloc _ (K3.out))) | exact keep_alloc _ (keep_alloc _ (keep_alloc _ (keep_alloc _ (K3.out)))) | exact keep_alloc _ (keep_alloc _ (keep_alloc _ (keep_alloc _ (keep_alloc _ (K3.out)))))))
    have B' := below_next (w := w) (by repeat' (first | (with_reducible exact Below.refl _ _) | (with_reducible assumption) | (with_reducible refine below_alloc ?_ _) | (with_reducible refine Below.drew ?_) | (with_reducible refine below_drewN ?_ _) | (with_reducible refine Below.setCell ?_ ?_ _) | go_size)) hbw6
    clear hbw6 B K0 K1 K2 K3 K0_0 K0_1 K0_2 K0_3 K0_f K0_z K1_0 K1_1 K1_2 K1_3 K1_f K1_z K2_0 K2_1 K2_2 K2_3 K2_f K2_z
    have B := B'; clear B'
    have K0 := K0'; clear K0'
    obtain ⟨K0_0, K0_1, K0_2, K0_3, K0_f, K0_z⟩ := cells4 K0.out
    have K1 := K1'; clear K1'
    obtain ⟨K1_0, K1_1, K1_2, K1_3, K1_f, K1_z⟩ := cells4 K1.out
    have K2 := K2'; clear K2'
    obtain ⟨K2_0, K2_1, K2_2, K2_3, K2_f, K2_z⟩ := cells4 K2.out
    have K3 := K3'; clear K3'
    obtain ⟨K3_0, K3_1, K3_2, K3_3, K3_f, K3_z⟩ := cells4 K3.out
    by_cases ho : of = true
    · subst ho
      go_wp2_with fail
      go_ret
      exact ⟨rfl, (by repeat' (first | (with_reducible exact Below.refl _ _) | (with_reducible assumption) | (with_reducible refine below_alloc ?_ _) | (with_reducible refine Below.drew ?_) | (with_reducible refine below_drewN ?_ _) | (with_reducible refine Below.setCell ?_ ?_ _) | go_size))⟩
    · have ho2 : of = false := by simpa using ho
      have hc2 : cmpn rn F ≤ 0 := HC.out.resolve_left ho
      subst ho2
      go_wp2_with fail
      refine (cmp_any rn F HRN.out HF.out _).mono ?_
      rintro e w7 ⟨rfl, hbw7⟩
      have K0' := Lib.hid (below_keep hbw7 (by first | exact K0.out | exact keep_alloc _ (K0.out) | exact keep_alloc _ (keep_alloc _ (K0.out)) | exact keep_alloc _ (keep_alloc _ (keep_alloc _ (K0.out))) | exact keep_alloc _ (keep_alloc _ (keep_alloc _ (keep_alloc _ (K0.out)))) | exact keep_alloc _ (keep_alloc _ (keep_alloc _ (keep_alloc _ (keep_alloc _ (K0.out)))))))
      have K1' := Lib.hid (below_keep hbw7 (by first | exact K1.out | exact keep_alloc _ (K1.out) | exact keep_alloc _ (keep_alloc _ (K1.out)) | exact keep_alloc _ (keep_alloc _ (keep_alloc _ (K1.out))) | exact keep_alloc _ (keep_alloc _ (keep_alloc _ (keep_alloc _ (K1.out)))) | exact keep_alloc _ (keep_alloc _ (keep_alloc _ (keep_alloc _ (keep_alloc _ (K1.out)))))))
      have K2' := Lib.hid (below_keep hbw7 (by first | exact K2.out | exact keep_alloc _ (K2.out) | exact keep_alloc _ (keep_alloc _ (K2.out)) | exact keep_alloc _ (keep_alloc _ (keep_alloc _ (K2.out))) | exact keep_alloc _ (keep_alloc _ (keep_alloc _ (keep_alloc _ (K2.out)))) | exact keep_alloc _ (keep_alloc _ (keep_alloc _ (keep_alloc _ (keep_alloc _ (K2.out)))))))
      have K3' := Lib.hid (below_keep hbw7 (by first | exact K3.out | exact keep_alloc _ (K3.out) | exact keep_alloc _ (keep_alloc _ (K3.out)) | exact keep_alloc _ (keep_alloc _ (keep_alloc _ (K3.out))) | exact keep_alloc _ (keep_alloc _ (keep_alloc _ (keep_alloc _ (K3.out)))) | exact keep_alloc _ (keep_alloc _ (keep_alloc _ (keep_alloc _ (keep_alloc _ (K3.out)))))))
      have B' := below_next (w := w) (by repeat' (first | (with_reducible exact Below.refl _ _) | (with_reducible assumption) | (with_reducible refine below_alloc ?_ _) | (with_reducible refine Below.drew ?_) | (with_reducible refine below_drewN ?_ _) | (with_reducible refine Below.setCell ?_ ?_ _) | go_size)) hbw7
      clear hbw7 B K0 K1 K2 K3 K0_0 K0_1 K0_2 K0_3 K0_f K0_z K1_0 K1_1 K1_2 K1_3 K1_f K1_z K2_0 K2_1 K2_2 K2_3 K2_f K2_z K3_0 K3_1 K3_2 K3_3 K3_f K3_z
      have B := B'; clear B'
      have K0 := K0'; clear K0'
      obtain ⟨K0_0, K0_1, K0_2, K0_3, K0_f, K0_z⟩ := cells4 K0.out
      have K1 := K1'; clear K1'
      obtain ⟨K1_0, K1_1, K1_2, K1_3, K1_f, K1_z⟩ := cells4 K1.out
      have K2 := K2'; clear K2'
      obtain ⟨K2_0, K2_1, K2_2, K2_3, K2_f, K2_z⟩ := cells4 K2.out
      have K3 := K3'; clear K3'
      obtain ⟨K3_0, K3_1, K3_2, K3_3, K3_f, K3_z⟩ := cells4 K3.out
      go_wp2_with fail
      go_ret
      exact ⟨rfl, (by repeat' (first | (with_reducible exact Below.refl _ _) | (with_reducible assumption) | (with_reducible refine below_alloc ?_ _) | (with_reducible refine Below.drew ?_) | (with_reducible refine below_drewN ?_ _) | (with_reducible refine Below.setCell ?_ ?_ _) | go_size))⟩
  · have cn2 : Hid (∀ w, Calls Try.prog 52 #[.int .u32 n, .int .i64 took, .int .i64 should, nv l] w fun e w' => e = .returned (.tuple #[.int .u32 0, .bool false]) ∧ Below w.heap.size w w') := Lib.hid fun w => by
      have := cn w
      rwa [if_neg hok] at this
    clear cn h4 hok hN hle
    go_wp2_with fail
    refine (cn2.out _).mono ?_
    rintro e w2 ⟨rfl, hbw2⟩
    have K0' := Lib.hid (below_keep hbw2 (by first | exact K0.out | exact keep_alloc _ (K0.out) | exact keep_alloc _ (keep_alloc _ (K0.out)) | exact keep_alloc _ (keep_alloc _ (keep_alloc _ (K0.out))) | exact keep_alloc _ (keep_alloc _ (keep_alloc _ (keep_alloc _ (K0.out)))) | exact keep_alloc _ (keep_alloc _ (keep_alloc _ (keep_alloc _ (keep_alloc _ (K0.out)))))))
    have B' := below_next (w := w) (by repeat' (first | (with_reducible exact Below.refl _ _) | (with_reducible assumption) | (with_reducible refine below_alloc ?_ _) | (with_reducible refine Below.drew ?_) | (with_reducible refine below_drewN ?_ _) | (with_reducible refine Below.setCell ?_ ?_ _) | go_size)) hbw2
    clear hbw2 B K0 K0_0 K0_1 K0_2 K0_3 K0_f K0_z
    have B := B'; clear B'
    have K0 := K0'; clear K0'
    obtain ⟨K0_0, K0_1, K0_2, K0_3, K0_f, K0_z⟩ := cells4 K0.out
    go_wp2_with fail
    go_ret
    exact ⟨rfl, (by repeat' (first | (with_reducible exact Below.refl _ _) | (with_reducible assumption) | (with_reducible refine below_alloc ?_ _) | (with_reducible refine Below.drew ?_) | (with_reducible refine below_drewN ?_ _) | (with_reducible refine Below.setCell ?_ ?_ _) | go_size))⟩

set_option maxRecDepth 100000 in
theorem BitsLimit_lifted (os : Os) (started : os.Started) (H : Type) (enc : TypeId × Value → H) :
    ReturnsInHanded {} Try.checked os 17 .any (Rows.bitsLimitSpec.pre6 enc Try.prog Try.f17 Rows.bitsLimitRow.domain false) (Rows.bitsLimitSpec.post enc Try.prog Try.f17 false true false false) := by
  refine returnsInHanded_of_change (C := Try.checked) own started (by kernel_rfl) Try.func17
    (ChangeSpec.witness6 (enc := enc) (C := Try.checked) false ⟨#[], #[.int .u32 0, .agg #[.int .i64 0, .int .i64 0], .agg #[.int .u64 0, .int .u64 0, .int .u64 0, .int .u64 0]], []⟩ 8 (by kernel_rfl) (by kernel_rfl) (by kernel_rfl) (by kernel_rfl)) ?_
  intro W base args ds gs before hval0 hW hcnd _
  have hval : ∀ (j : Nat) t v, Try.f17.params[j]? = some t → args[j]? = some v → Value.okWide Try.prog W .any base t v := hval0
  have hW' := hW
  obtain ⟨p, q, hA0, hV, rfl, hfz, hnd⟩ := hW
  have hA : DataW.TrodAll enc Try.prog W 0 (fun _ => true) true Try.f17.params.toList args.toList ds p := hA0
  rw [Try.params17] at hA hval
  obtain ⟨v0, vs0, d0, ds0, p0, q0, hargs, rfl, rfl, h0, r0⟩ := trodAll_cons hA
  obtain ⟨v1, vs1, d1, ds1, p1, q1, rfl, rfl, rfl, h1, r1⟩ := trodAll_cons r0
  obtain ⟨v2, vs2, d2, ds2, p2, q2, rfl, rfl, rfl, h2, r2⟩ := trodAll_cons r1
  obtain ⟨rfl, rfl, rfl⟩ := trodAll_nil r2
  obtain rfl : args = #[v0, v1, v2] := by cases args; simp_all
  obtain ⟨rfl, rfl⟩ := trodVars_none hV
  have k0 := h0
  have lt0 := trod_lt_of h0
  obtain ⟨a0, rfl, rfl, rfl, b0⟩ := open_int Try.underlying62 (hval 0 62 v0 rfl rfl) h0
  have k1 := h1
  have lt1 := trod_lt_of h1
  obtain ⟨a1, c1, b1, d1, rfl⟩ := open_pair64 (hval 1 72 v1 rfl rfl) h1
  have k2 := h2
  have lt2 := trod_lt_of h2
  obtain ⟨a2, b2, rfl⟩ := open_num (hval 2 24 v2 rfl rfl) h2
  clear hA0 hval0
  refine (BitsLimit_walk a0 b0 a1 c1 b1 d1 a2 b2 W).mono fun e W' ⟨he, bel⟩ => ?_
  subst he
  exact ⟨_, rfl, _, _, _, [], _, [], hW', trodAll_mk1 (shut_bool (by kernel_rfl) _), (trodAll_cons_mk (Below.trod laidOut (by kernel_rfl) (of_decide_eq_true (by kernel_rfl)) k0 bel lt0) (trodAll_cons_mk (Below.trod laidOut (by kernel_rfl) (of_decide_eq_true (by kernel_rfl)) k1 bel lt1) (trodAll_cons_mk (Below.trod laidOut (by kernel_rfl) (of_decide_eq_true (by kernel_rfl)) k2 bel lt2) trodAll_mk0))), rfl, bel.frame _, fun h => by cases h⟩

theorem BitsLimit_closed : joinedFacts Try.prog 17 Try.f17 Rows.bitsLimitSpec Rows.bitsLimitRow = true := by
  simp only [joinedFacts, Bool.and_eq_true]
  repeat' apply And.intro
  all_goals first
    | (with_reducible exact head_enter)
    | (rw [head_make]; kernel_rfl)
    | (rw [head_lift]; kernel_rfl)
    | kernel_rfl

theorem BitsLimit_holds : Rows.BitsLimitSaid :=
  OpenClaim.holds_of_wide 17 Try.f17 rfl rfl rfl rfl rfl rfl rfl ⟨rfl, rfl, rfl, rfl, rfl⟩ rfl rfl rfl rfl rfl (by kernel_rfl) Try.func17 BitsLimit_closed
    (of_decide_eq_true (by kernel_rfl)) (by unfold Func.isWrapper; rw [if_neg (of_decide_eq_false (by kernel_rfl))]; exact ⟨rfl, rfl⟩)
    (fun os started H enc _ => BitsLimit_lifted os started H enc)
end Go.Proofs.Ytdffblfofdniaaa
