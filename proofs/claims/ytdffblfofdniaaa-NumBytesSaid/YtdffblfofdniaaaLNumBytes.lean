/- The law NumBytes: an ID's bytes are a number, the lowest first, and back. No condition. -/
import Derived.Test.YtdffblfofdniaaaNumLawA
import Derived.Test.YtdffblfofdniaaaNumId
import Derived.Test.YtdffblfofdniaaaOpenMore
import Derived.Test.YtdffblfofdniaaaHead
namespace Go.Proofs.Ytdffblfofdniaaa
open Go.ChangeShapes Go.WideShapes Go.ChangeAt Go.RowKit

/-- the number that the bytes from k on are -/
def upTo (n k : Nat) : Nat := n / 2 ^ (8 * k)
theorem upTo_step (n k : Nat) (hn : n < 2 ^ 256) : upTo n (k + 1) < 2 ^ 256 ∧ shlN (upTo n (k + 1)) 8 = upTo n (k + 1) * 256 ∧ upTo n (k + 1) * 256 < 2 ^ 256 ∧ (upTo n (k + 1) * 256 + n / 2 ^ (8 * k) % 256) % 2 ^ 256 = upTo n k := by
  have e : upTo n (k + 1) = upTo n k / 256 := by
    unfold upTo
    rw [show 8 * (k + 1) = 8 * k + 8 by omega, Nat.pow_add, Nat.div_div_eq_div_mul]
  have h : upTo n k < 2 ^ 256 := Nat.lt_of_le_of_lt (Nat.div_le_self _ _) hn
  rw [e]
  have e2 : n / 2 ^ (8 * k) = upTo n k := rfl
  rw [e2]
  generalize upTo n k = m at *
  refine ⟨by omega, ?_, by omega, by omega⟩
  unfold shlN
  rw [if_neg (by omega), show (8 : Int).toNat = 8 from rfl]
  omega

theorem quiet_load_id {ops : Array Oper} {C : World → Prop} {Q : Act → Prop} {a : Act} {o : Oper} {rest : List Oper} (hw : Region.wanted o (yielded ops a.tmps) = true) (x : Operand) (ho : o.op = .load 49 x) (g n : Nat)
    (hx : a.eval x = .pointer (some ⟨g, 0, none⟩)) (hb : ∀ w, C w → w.heap[g]? = some (iblk n)) (hk : wpQuiet Try.prog ops C Q rest (a.put o.dst (iv n))) : wpQuiet Try.prog ops C Q (o :: rest) a :=
  BigFrame.wpQuiet_want hw fun K hK => ⟨iv n, fun w hC => by
    unfold Oper.quietAt execOp
    simp only [ho, hx, Instr.loadAt, Instr.sureAddr, Sem.run_bind, Sem.run_pure, Result.andThen_ok, loadVar_id (hb w hC), Oper.quietUpon]
    exact ⟨trivial, trivial⟩, hK _ hk⟩

attribute [local irreducible] upTo ids
set_option maxRecDepth 100000 in
set_option maxHeartbeats 4000000 in
theorem NumBytes_walk (n : Nat) (hn : n < 2 ^ 256) (w : World) :
    Calls Try.prog 7 #[iv n] w fun e w' => e = .returned (.bool true) ∧ Below w.heap.size w w' := by
  have HN := Lib.hid hn
  have HU := Lib.hid fun k => upTo_step n k hn
  clear hn
  have B : Below w.heap.size w w := Below.refl _ _
  have K0 := Lib.hid (heap_new w (iblk n))
  have ei : Obj.cells (ids n).toArray 49 (0, 0) = iblk n := rfl
  show Calls Try.prog 7 #[.agg (ids n).toArray] w _
  go_enter Try.func7, Try.ntmps7
  go_wp2_with fail
  refine (counts_any _).mono ?_
  rintro e w1 ⟨rfl, hb1⟩
  have K0' := Lib.hid (below_keep hb1 K0.out)
  have B' := below_next (w := w) (by repeat' (first | (with_reducible exact Below.refl _ _) | (with_reducible assumption) | (with_reducible refine below_alloc ?_ _) | (with_reducible refine Below.drew ?_) | (with_reducible refine below_drewN ?_ _) | (with_reducible refine Below.setCell ?_ ?_ _) | go_size)) hb1
  clear hb1 B K0
  have K0 := K0'; have B := B'
  clear K0' B'
  go_wp2_with (refine wpList_load_id rfl (.tmp 1) rfl w.heap.size n rfl K0.out ?_)
  refine (fromid_any n HN.out _).mono ?_
  rintro e w2 ⟨rfl, hb2⟩
  have K0' := Lib.hid (keep_alloc (nblk n) (below_keep hb2 K0.out))
  have B' := below_next (w := w) (by repeat' (first | (with_reducible exact Below.refl _ _) | (with_reducible assumption) | (with_reducible refine below_alloc ?_ _) | (with_reducible refine Below.drew ?_) | (with_reducible refine below_drewN ?_ _) | (with_reducible refine Below.setCell ?_ ?_ _) | go_size)) hb2
  clear hb2 B K0
  have K0 := K0'; have B := B'
  clear K0' B'
  have K1 := Lib.hid (heap_new w2 (nblk n))
  go_wp2_with fail
  refine wp_abs (fun W => W.heap[w.heap.size]? = some (iblk n) ∧ W.heap[w2.heap.size]? = some (nblk n) ∧ Below w.heap.size w W) ⟨K0.out, K1.out, (by repeat' (first | (with_reducible exact Below.refl _ _) | (with_reducible assumption) | (with_reducible refine below_alloc ?_ _) | (with_reducible refine Below.drew ?_) | (with_reducible refine below_drewN ?_ _) | (with_reducible refine Below.setCell ?_ ?_ _) | go_size))⟩ ?_
  have HZ := Lib.hid (show w.heap.size ≤ w2.heap.size from B.size)
  clear K0 K1 B
  rintro W ⟨k0, k1, B⟩
  have K0 := Lib.hid k0; have K1 := Lib.hid k1
  clear k0 k1
  obtain ⟨K1_0, K1_1, K1_2, K1_3, K1_f, K1_z⟩ := cells4 K1.out
  have R0 := cell_regrown K1_0; have R1 := cell_regrown K1_1; have R2 := cell_regrown K1_2; have R3 := cell_regrown K1_3
  have qi : ∀ w : World, (Op.equalIn 10000 49 (iv n) (iv n)).run Try.prog w = .ok true w := fun w => by rw [eq_id n n HN.out HN.out w, decide_eq_true rfl]
  refine wp_region_quiet_below (by kernel_rfl) (by kernel_rfl) ?_
  go_big_quiet_step (fail)
  go_big_quiet_step ((go_at_call 36; exact Calls.regrown_of (id_any n HN.out _)))
  refine quiet_load_id rfl (.tmp 1) rfl w.heap.size n rfl (fun w' hw' => below_keep (below_of_regrown hw') K0.out) ?_
  simp [Act.put]
  go_big_quiet_step (fail)
  refine wpQuiet_nil ?_
  intro p3
  have hb3 := below_regrown W p3.d p3.os
  generalize Go.Sort.grow (redrawn W p3.d) p3.os = w3 at *
  have Ka := Lib.hid (below_keep hb3 K0.out); have Kb := Lib.hid (below_keep hb3 K1.out)
  have B2 := below_next (w := w) B hb3
  clear hb3 B K0 K1 K1_0 K1_1 K1_2 K1_3 K1_f K1_z R0 R1 R2 R3 qi
  have B := B2; have K0 := Ka; have K1 := Kb
  clear B2 Ka Kb
  go_wp2_with fail
  refine wp_abs (fun W => W.heap[w.heap.size]? = some (iblk n) ∧ W.heap[w2.heap.size]? = some (nblk n) ∧ W.heap[w3.heap.size]? = some zblk ∧ Below w.heap.size w W) ⟨keep_alloc _ K0.out, keep_alloc _ K1.out, heap_new _ _, (by repeat' (first | (with_reducible exact Below.refl _ _) | (with_reducible assumption) | (with_reducible refine below_alloc ?_ _) | (with_reducible refine Below.drew ?_) | (with_reducible refine below_drewN ?_ _) | (with_reducible refine Below.setCell ?_ ?_ _) | go_size))⟩ ?_
  have HY := Lib.hid (show w2.heap.size < w3.heap.size from block_lt K1.out)
  clear K0 K1 B
  rintro W3 ⟨k0, k1, k2, B⟩
  have K0 := Lib.hid k0; have K1 := Lib.hid k1; have K2 := Lib.hid k2
  clear k0 k1 k2
  go_loopg [5] 32 (fun g ix wr => ∃ j : Nat, g = j ∧ j ≤ 32 ∧ ix = .int .i64 ((j : Int) - 1) ∧ wr.heap[w.heap.size]? = some (iblk n) ∧ wr.heap[w2.heap.size]? = some (nblk n) ∧ wr.heap[w3.heap.size]? = some (nblk (upTo n j)) ∧ Below w.heap.size w wr)
  case atStart =>
    refine ⟨32, rfl, by omega, rfl, K0.out, K1.out, ?_, B⟩
    have : upTo n 32 = 0 := by unfold upTo; have := HN.out; omega
    rw [this]
    exact K2.out
  case round =>
    obtain ⟨j, hg, hj, rfl, hr0, hr1, hr2, B⟩ := hrel
    have HG := Lib.hid hg; have K0 := Lib.hid hr0; have K1 := Lib.hid hr1; have K2 := Lib.hid hr2
    clear hg hr0 hr1 hr2
    obtain ⟨K1_0, K1_1, K1_2, K1_3, K1_f, K1_z⟩ := cells4 K1.out
    obtain ⟨K2_0, K2_1, K2_2, K2_3, K2_f, K2_z⟩ := cells4 K2.out
    by_cases h0 : j = 0
    · subst h0
      have hn0 : upTo n 0 = n := by unfold upTo; rw [Nat.mul_zero, Nat.pow_zero, Nat.div_one]
      rw [hn0] at K2 K2_0 K2_1 K2_2 K2_3
      have qa : ∀ w : World, (Op.equalIn 10000 24 (nv n) (nv n)).run Try.prog w = .ok true w := fun w => by rw [eq_num n n HN.out HN.out w, decide_eq_true rfl]
      go_wp2_with fail
      go_ret
      exact ⟨rfl, (by repeat' (first | (with_reducible exact Below.refl _ _) | (with_reducible assumption) | (with_reducible refine below_alloc ?_ _) | (with_reducible refine Below.drew ?_) | (with_reducible refine below_drewN ?_ _) | (with_reducible refine Below.setCell ?_ ?_ _) | go_size))⟩
    · obtain ⟨k, rfl⟩ : ∃ k, j = k + 1 := ⟨j - 1, by omega⟩
      rw [show ((k + 1 : Nat) : Int) - 1 = (k : Int) by omega]
      obtain ⟨u1, u2, u3, u4⟩ := HU.out k
      obtain ⟨c, hc⟩ : ∃ c, c = n / 2 ^ (8 * k) % 256 := ⟨_, rfl⟩
      have hlb : lb n k = (c : Int) := by rw [hc]; rfl
      have hc2 : c < 256 := by rw [hc]; omega
      rw [← hc] at u4
      have cs : Hid (∀ w, Calls Try.prog 31 #[nv (upTo n (k + 1)), .int .i64 8] w fun e w' => e = .returned (nv (upTo n (k + 1) * 256)) ∧ Below w.heap.size w w') := Lib.hid fun w => by
        have := shl_any (upTo n (k + 1)) u1 8 w
        rwa [u2] at this
      obtain ⟨y, hy⟩ : ∃ y, y = upTo n (k + 1) * 256 := ⟨_, rfl⟩
      rw [← hy] at cs u3 u4
      clear hy u2 hc h0
      have cadd : ∀ g t w, w.heap[g]? = some (.cells #[.int .u64 (lw y 0), .int .u64 (lw y 1), .int .u64 (lw y 2), .int .u64 (lw y 3), .int .u64 (lw c 0), .int .u64 (lw c 1), .int .u64 (lw c 2), .int .u64 (lw c 3)] t (0, 0)) →
          Calls Try.prog 21 #[.slice (some ⟨g, 0, none⟩) 2 2] w fun e w' => e = .returned (.tuple #[nv (upTo n k), .bool (decide (2 ^ 256 ≤ y + c))]) ∧ Below w.heap.size w w' := fun g t w h => by
        have := add2_any y c u3 (by omega) g t w h
        rwa [u4] at this
      generalize decide (2 ^ 256 ≤ y + c) = o3 at cadd
      have ca1 := Lib.hid fun W t => cadd _ t _ (heap_new W _)
      have cof := Lib.hid fun w => of_nat c w (by omega)
      clear cadd u1 u3 u4
      have hk : k < 32 := by omega
      have hib := id_cell K0.out k hk
      rw [hlb] at hib
      have Hk := Lib.hid hlb
      clear hlb
      have hk0 : (0 : Int) ≤ (k : Int) := by omega
      have hk4 : (k : Int) < 32 := by omega
      have hc0 : (0 : Int) ≤ (c : Int) := by omega
      have hc4 : (c : Int) < 256 := by omega
      go_wp2_with fail
      refine (cs.out _).mono ?_
      rintro e w4 ⟨rfl, hb4⟩
      have Ka := Lib.hid (keep_alloc (nblk y) (below_keep hb4 K0.out)); have Kb := Lib.hid (keep_alloc (nblk y) (below_keep hb4 K1.out)); have Kc := Lib.hid (keep_alloc (nblk y) (below_keep hb4 K2.out)); have Kd := Lib.hid (heap_new w4 (nblk y))
      have B2 := below_next (w := w) (by repeat' (first | (with_reducible exact Below.refl _ _) | (with_reducible assumption) | (with_reducible refine below_alloc ?_ _) | (with_reducible refine Below.drew ?_) | (with_reducible refine below_drewN ?_ _) | (with_reducible refine Below.setCell ?_ ?_ _) | go_size)) hb4
      have hz34 := block_lt (below_keep hb4 K2.out)
      clear hb4 B K0 K1 K2 K1_0 K1_1 K1_2 K1_3 K1_f K1_z K2_0 K2_1 K2_2 K2_3 K2_f K2_z cs hib
      have B := B2
      clear B2
      go_wp2_with fail
      refine wp_abs (fun W => W.heap[w.heap.size]? = some (iblk n) ∧ W.heap[w2.heap.size]? = some (nblk n) ∧ W.heap[w3.heap.size]? = some (nblk (upTo n (k + 1))) ∧ W.heap[w4.heap.size]? = some (nblk y) ∧ w3.heap.size < w4.heap.size ∧ Below w.heap.size w W) ⟨Ka.out, Kb.out, Kc.out, Kd.out, hz34, (by repeat' (first | (with_reducible exact Below.refl _ _) | (with_reducible assumption) | (with_reducible refine below_alloc ?_ _) | (with_reducible refine Below.drew ?_) | (with_reducible refine below_drewN ?_ _) | (with_reducible refine Below.setCell ?_ ?_ _) | go_size))⟩ ?_
      clear Ka Kb Kc Kd B
      rintro V ⟨k0, k1, k2, k3, hz4, B⟩
      have K0 := Lib.hid k0; have K1 := Lib.hid k1; have K2 := Lib.hid k2; have K3 := Lib.hid k3
      clear k0 k1 k2 k3
      generalize w4.heap.size = p4 at *
      have hib := id_cell K0.out k hk
      rw [Hk.out] at hib
      obtain ⟨K3_0, K3_1, K3_2, K3_3, K3_f, K3_z⟩ := cells4 K3.out
      have ew : IntKind.u64.wrap (c : Int) = (c : Int) := IntWalk.u64_in _ (by omega)
      have HP4 := Lib.hid hz4
      clear hz4
      go_region_with (first | (go_at_call 37; refine (cof.out _).mono ?_; rintro e wx ⟨rfl, hbx⟩; have hSx := below_next (w := w) (by repeat' (first | (with_reducible exact Below.refl _ _) | (with_reducible assumption) | (with_reducible refine below_alloc ?_ _) | (with_reducible refine Below.drew ?_) | (with_reducible refine below_drewN ?_ _) | (with_reducible refine Below.setCell ?_ ?_ _) | go_size)) hbx; have hzx := hSx.size; have X0 := Lib.hid (below_keep hbx K0.out); have X1 := Lib.hid (below_keep hbx K1.out); have X2 := Lib.hid (below_keep hbx K2.out); have X3 := Lib.hid (below_keep hbx K3.out); obtain ⟨X3_0, X3_1, X3_2, X3_3, X3_f, X3_z⟩ := cells4 X3.out) | (go_at_call 21; refine (ca1.out _ _).mono ?_; rintro e wy ⟨rfl, hby⟩; have hSy := below_next (w := w) (by repeat' (first | (with_reducible exact Below.refl _ _) | (with_reducible assumption) | (with_reducible refine below_alloc ?_ _) | (with_reducible refine Below.drew ?_) | (with_reducible refine below_drewN ?_ _) | (with_reducible refine Below.setCell ?_ ?_ _) | go_size)) hby; have hzy := hSy.size; have Y0 := Lib.hid (below_keep hby (keep_alloc _ X0.out)); have Y1 := Lib.hid (below_keep hby (keep_alloc _ X1.out)); have Y2 := Lib.hid (below_keep hby (keep_alloc _ X2.out)); obtain ⟨Y2_0, Y2_1, Y2_2, Y2_3, Y2_f, Y2_z⟩ := cells4 Y2.out))
      all_goals
        clear ew
        go_wp2_with fail
        go_roundg k
        case measure => have := HG.out; omega
        case rel =>
          have hz := HZ.out
          have hy := HY.out
          refine ⟨k, rfl, by omega, by go_num, (set4_other _ _ _ _ (by omega)).trans Y0.out, (set4_other _ _ _ _ (by omega)).trans Y1.out, set4 _ _ _ _ Y2.out, (by repeat' (first | (with_reducible exact Below.refl _ _) | (with_reducible assumption) | (with_reducible refine below_alloc ?_ _) | (with_reducible refine Below.drew ?_) | (with_reducible refine below_drewN ?_ _) | (with_reducible refine Below.setCell ?_ ?_ _) | go_size))⟩

set_option maxRecDepth 100000 in
theorem NumBytes_lifted (os : Os) (started : os.Started) (H : Type) (enc : TypeId × Value → H) :
    ReturnsInHanded {} Try.checked os 7 .any (Rows.numBytesSpec.pre6 enc Try.prog Try.f7 Rows.numBytesRow.domain false) (Rows.numBytesSpec.post enc Try.prog Try.f7 false true false false) := by
  refine returnsInHanded_of_change (C := Try.checked) own started (by kernel_rfl) Try.func7
    (ChangeSpec.witness6 (enc := enc) (C := Try.checked) false ⟨#[], #[.agg #[.int .u8 0, .int .u8 0, .int .u8 0, .int .u8 0, .int .u8 0, .int .u8 0, .int .u8 0, .int .u8 0, .int .u8 0, .int .u8 0, .int .u8 0, .int .u8 0, .int .u8 0, .int .u8 0, .int .u8 0, .int .u8 0, .int .u8 0, .int .u8 0, .int .u8 0, .int .u8 0, .int .u8 0, .int .u8 0, .int .u8 0, .int .u8 0, .int .u8 0, .int .u8 0, .int .u8 0, .int .u8 0, .int .u8 0, .int .u8 0, .int .u8 0, .int .u8 0]], []⟩ 8 (by kernel_rfl) (by kernel_rfl) (by kernel_rfl) (by kernel_rfl)) ?_
  intro W base args ds gs before hval0 hW hcnd _
  have hval : ∀ (j : Nat) t v, Try.f7.params[j]? = some t → args[j]? = some v → Value.okWide Try.prog W .any base t v := hval0
  have hW' := hW
  obtain ⟨p, q, hA0, hV, rfl, hfz, hnd⟩ := hW
  have hA : DataW.TrodAll enc Try.prog W 0 (fun _ => true) true Try.f7.params.toList args.toList ds p := hA0
  rw [Try.params7] at hA hval
  obtain ⟨v0, vs0, d0, ds0, p0, q0, hargs, rfl, rfl, h0, r0⟩ := trodAll_cons hA
  obtain ⟨rfl, rfl, rfl⟩ := trodAll_nil r0
  obtain rfl : args = #[v0] := by cases args; simp_all
  obtain ⟨rfl, rfl⟩ := trodVars_none hV
  have k0 := h0
  have lt0 := trod_lt_of h0
  obtain ⟨a0, b0, rfl⟩ := open_id (hval 0 49 v0 rfl rfl) h0
  clear hA0 hval0
  refine (NumBytes_walk a0 b0 W).mono fun e W' ⟨he, bel⟩ => ?_
  subst he
  exact ⟨_, rfl, _, _, _, [], _, [], hW', trodAll_mk1 (shut_bool (by kernel_rfl) _), (trodAll_cons_mk (Below.trod laidOut (by kernel_rfl) (of_decide_eq_true (by kernel_rfl)) k0 bel lt0) trodAll_mk0), rfl, bel.frame _, fun h => by cases h⟩

theorem NumBytes_closed : joinedFacts Try.prog 7 Try.f7 Rows.numBytesSpec Rows.numBytesRow = true := by
  simp only [joinedFacts, Bool.and_eq_true]
  repeat' apply And.intro
  all_goals first
    | (with_reducible exact head_enter)
    | (rw [head_make]; kernel_rfl)
    | (rw [head_lift]; kernel_rfl)
    | kernel_rfl

theorem NumBytes_holds : Rows.NumBytesSaid :=
  OpenClaim.holds_of_wide 7 Try.f7 rfl rfl rfl rfl rfl rfl rfl ⟨rfl, rfl, rfl, rfl, rfl⟩ rfl rfl rfl rfl rfl (by kernel_rfl) Try.func7 NumBytes_closed
    (of_decide_eq_true (by kernel_rfl)) (by unfold Func.isWrapper; rw [if_neg (of_decide_eq_false (by kernel_rfl))]; exact ⟨rfl, rfl⟩)
    (fun os started H enc _ => NumBytes_lifted os started H enc)
end Go.Proofs.Ytdffblfofdniaaa
