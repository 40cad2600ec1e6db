/- hash: a number turned, a word of a text. No condition. -/
import Derived.Test.YtnbppbnjkmopeaaHashPlain
namespace Go.Proofs.Ytnbppbnjkmopeaa
open Go.RowKit

theorem rot_fin {x r s : Nat} (hx : x < 4294967296) (hr : r ≤ 32) (hs : s = 32 - r) (hs2 : r = 32 - s) : bits .or .u32 ((x : Int) * 2 ^ s % 4294967296) (x / 2 ^ (32 - s) : Int) = ((ror x r : Nat) : Int) := by
  rw [← hs2, hs]
  have cP : (x : Int) * 2 ^ (32 - r) % 4294967296 = ((x * 2 ^ (32 - r) % 4294967296 : Nat) : Int) := by
    rw [Int.natCast_emod, Int.natCast_mul, Int.natCast_pow]; rfl
  have cd : (x / 2 ^ r : Int) = ((x / 2 ^ r : Nat) : Int) := by rw [Int.natCast_ediv, Int.natCast_pow]; rfl
  have h4 := ror_lt hx hr
  have h5 : x / 2 ^ r ≤ ror x r := by unfold ror; omega
  rw [cP, cd, u32_or_nat _ _ (by omega) (by omega), ror_join hx hr]

set_option maxRecDepth 100000 in
set_option maxHeartbeats 1000000 in
theorem rot_any (x r : Nat) (hx : x < 4294967296) (h1 : 1 ≤ r) (h2 : r ≤ 31) (w : World) :
    Calls Try.prog 128 #[.int .u32 x, .int .i64 (-(r : Int))] w fun e w' => e = .returned (.int .u32 (ror x r)) ∧ w' = w := by
  have e1 : IntKind.u64.wrap (-(r : Int)) = 18446744073709551616 - (r : Int) := by rw [IntKind.wrap_u64]; omega
  have e2 : bits .and .u64 (18446744073709551616 - (r : Int)) 31 = ((32 - r : Nat) : Int) := by
    have := u64_and_nat (18446744073709551616 - r) 31 (by omega) (by omega)
    rw [show (((18446744073709551616 - r : Nat)) : Int) = 18446744073709551616 - (r : Int) by omega, show ((31 : Nat) : Int) = 31 from rfl, Nat.and_two_pow_sub_one_eq_mod _ 5] at this
    rw [this]
    congr 1
    omega
  obtain ⟨s, hs⟩ : ∃ s, s = 32 - r := ⟨_, rfl⟩
  have hb := Lib.hid (rot_fin hx (show r ≤ 32 by omega) hs (by omega))
  rw [← hs] at e2
  have hs1 : s < 32 := by omega
  clear hs
  go_enter Try.func128, Try.ntmps128
  go_wp2_with fail
  rw [hb.out]
  go_ret
  exact ⟨rfl, rfl⟩

theorem sg0_bits {x : Nat} (h : x < 4294967296) : bits .xor .u32 (bits .xor .u32 (ror x 7) (ror x 18)) ((x : Int) / 8) = ((sg0 x : Nat) : Int) := by
  have a := ror_lt h (show 7 ≤ 32 by omega); have b := ror_lt h (show 18 ≤ 32 by omega)
  rw [show (x : Int) / 8 = ((x / 8 : Nat) : Int) by omega, u32_xor_nat _ _ a b, u32_xor_nat _ _ (xor32 a b) (by omega)]; rfl
theorem sg1_bits {x : Nat} (h : x < 4294967296) : bits .xor .u32 (bits .xor .u32 (ror x 17) (ror x 19)) ((x : Int) / 1024) = ((sg1 x : Nat) : Int) := by
  have a := ror_lt h (show 17 ≤ 32 by omega); have b := ror_lt h (show 19 ≤ 32 by omega)
  rw [show (x : Int) / 1024 = ((x / 1024 : Nat) : Int) by omega, u32_xor_nat _ _ a b, u32_xor_nat _ _ (xor32 a b) (by omega)]; rfl
theorem bs0_bits {x : Nat} (h : x < 4294967296) : bits .xor .u32 (bits .xor .u32 (ror x 2) (ror x 13)) (ror x 22) = ((bs0 x : Nat) : Int) := by
  have a := ror_lt h (show 2 ≤ 32 by omega); have b := ror_lt h (show 13 ≤ 32 by omega); have c := ror_lt h (show 22 ≤ 32 by omega)
  rw [u32_xor_nat _ _ a b, u32_xor_nat _ _ (xor32 a b) c]; rfl
theorem bs1_bits {x : Nat} (h : x < 4294967296) : bits .xor .u32 (bits .xor .u32 (ror x 6) (ror x 11)) (ror x 25) = ((bs1 x : Nat) : Int) := by
  have a := ror_lt h (show 6 ≤ 32 by omega); have b := ror_lt h (show 11 ≤ 32 by omega); have c := ror_lt h (show 25 ≤ 32 by omega)
  rw [u32_xor_nat _ _ a b, u32_xor_nat _ _ (xor32 a b) c]; rfl
theorem maj_bits {a b c : Nat} (ha : a < 4294967296) (hb : b < 4294967296) (hc : c < 4294967296) : bits .xor .u32 (bits .xor .u32 (bits .and .u32 a b) (bits .and .u32 a c)) (bits .and .u32 b c) = ((maj a b c : Nat) : Int) := by
  rw [u32_and_nat _ _ ha hb, u32_and_nat _ _ ha hc, u32_and_nat _ _ hb hc, u32_xor_nat _ _ (and32 _ ha) (and32 _ ha), u32_xor_nat _ _ (xor32 (and32 _ ha) (and32 _ ha)) (and32 _ hb)]; rfl
theorem chs_bits {e f g : Nat} (he : e < 4294967296) (hf : f < 4294967296) (hg : g < 4294967296) : bits .xor .u32 (bits .and .u32 e f) (bits .and .u32 (4294967295 - (e : Int)) g) = ((chs e f g : Nat) : Int) := by
  rw [show 4294967295 - (e : Int) = ((4294967295 - e : Nat) : Int) by omega, u32_and_nat _ _ he hf, u32_and_nat _ _ (by omega) hg, u32_xor_nat _ _ (and32 _ he) (and32 _ (by omega))]; rfl

theorem rt_bits {k w e f g h : Nat} (he : e < 4294967296) (hf : f < 4294967296) (hg : g < 4294967296) :
    (((h : Int) + (bs1 e : Nat) + bits .xor .u32 (bits .and .u32 e f) (bits .and .u32 (bits .xor .u32 (if IntKind.u32.signed = true then -1 else IntKind.u32.max) e) g) + (k : Nat)) % 4294967296 + (w : Nat)) % 4294967296 = ((rt k w e f g h : Nat) : Int) := by
  have hn : bits .xor .u32 (if IntKind.u32.signed = true then -1 else IntKind.u32.max) (e : Int) = 4294967295 - (e : Int) := by
    have e1 : (if IntKind.u32.signed = true then -1 else IntKind.u32.max) = ((4294967295 : Nat) : Int) := by decide
    rw [e1, u32_xor_nat _ _ (by omega) he]
    have e2 : 4294967295 ^^^ e = 4294967295 - e := by
      have h1 : (4294967295 ^^^ e) = 2 ^ 32 - 1 - e := by
        apply Nat.eq_of_testBit_eq
        intro i
        rw [Nat.testBit_xor, show 2 ^ 32 - 1 - e = 2 ^ 32 - (e + 1) by omega, Nat.testBit_two_pow_sub_succ (by omega), show (4294967295 : Nat) = 2 ^ 32 - 1 by decide, Nat.testBit_two_pow_sub_one]
        by_cases hi : i < 32
        · simp [hi]
        · have : e.testBit i = false := Nat.testBit_lt_two_pow (Nat.lt_of_lt_of_le (show e < 2 ^ 32 by omega) (Nat.pow_le_pow_right (by omega) (by omega)))
          simp [hi, this]
      rw [h1]
    rw [e2]; omega
  rw [hn, chs_bits he hf hg]
  unfold rt add32
  omega

/-- byte i of a text -/
def bt (s : ByteArray) (i : Nat) : Nat := (s.data.toList.getD i 0).toNat
theorem bt_lt (s : ByteArray) (i : Nat) : bt s i < 256 := UInt8.toNat_lt _
theorem bt_get (s : ByteArray) (i : Nat) (h : i < s.size) : (s[i]'h).toNat = bt s i := by
  unfold bt
  have h' : i < s.data.toList.length := by simpa using h
  rw [List.getD_eq_getElem?_getD, List.getElem?_eq_getElem h', Option.getD_some]
  rfl
/-- a word of a text -/
def wd (s : ByteArray) (i : Nat) : Nat := bt s i * 16777216 + bt s (i + 1) * 65536 + bt s (i + 2) * 256 + bt s (i + 3)
theorem wd_lt (s : ByteArray) (i : Nat) : wd s i < 4294967296 := by
  unfold wd
  have := bt_lt s i; have := bt_lt s (i + 1); have := bt_lt s (i + 2); have := bt_lt s (i + 3)
  omega
theorem wd_fin (a b c d : Nat) (ha : a < 256) (hb : b < 256) (hc : c < 256) (hd : d < 256) :
    bits .or .u32 (bits .or .u32 (bits .or .u32 ((a : Int) % 4294967296 * 16777216 % 4294967296) ((b : Int) % 4294967296 * 65536 % 4294967296)) ((c : Int) % 4294967296 * 256 % 4294967296)) ((d : Int) % 4294967296) = ((a * 16777216 + b * 65536 + c * 256 + d : Nat) : Int) := by
  have e1 : (a : Int) % 4294967296 * 16777216 % 4294967296 = ((a * 16777216 : Nat) : Int) := by omega
  have e2 : (b : Int) % 4294967296 * 65536 % 4294967296 = ((b * 65536 : Nat) : Int) := by omega
  have e3 : (c : Int) % 4294967296 * 256 % 4294967296 = ((c * 256 : Nat) : Int) := by omega
  have e4 : (d : Int) % 4294967296 = ((d : Nat) : Int) := by omega
  rw [e1, e2, e3, e4, u32_or_nat _ _ (by omega) (by omega), nat_join 24 (a * 16777216) (b * 65536) (by omega) (by omega), u32_or_nat _ _ (by omega) (by omega),
    nat_join 16 (a * 16777216 + b * 65536) (c * 256) (by omega) (by omega), u32_or_nat _ _ (by omega) (by omega), nat_join 8 (a * 16777216 + b * 65536 + c * 256) d (by omega) (by omega)]
set_option maxRecDepth 100000 in
set_option maxHeartbeats 1000000 in
theorem word_any (s : ByteArray) (i : Nat) (hi : i + 3 < s.size) (hs : s.size < 1000000) (w : World) :
    Calls Try.prog 127 #[.string s, .int .i64 i] w fun e w' => e = .returned (.int .u32 (wd s i)) ∧ Below w.heap.size w w' := by
  have B : Below w.heap.size w w := Below.refl _ _
  have h0 : i < s.size := by omega
  have h1 : (0 : Int) ≤ (i : Int) + 1 ∧ (i : Int) + 1 < (s.size : Int) := by omega
  have h2 : (0 : Int) ≤ (i : Int) + 2 ∧ (i : Int) + 2 < (s.size : Int) := by omega
  have h3 : (0 : Int) ≤ (i : Int) + 3 ∧ (i : Int) + 3 < (s.size : Int) := by omega
  have t1 : ((i : Int) + 1).toNat = i + 1 := by omega
  have t2 : ((i : Int) + 2).toNat = i + 2 := by omega
  have t3 : ((i : Int) + 3).toNat = i + 3 := by omega
  go_enter Try.func127, Try.ntmps127
  go_wp2_with fail
  go_region
  all_goals
    go_wp2_with fail
    rw [bt_get, bt_get, bt_get, bt_get, wd_fin _ _ _ _ (bt_lt _ _) (bt_lt _ _) (bt_lt _ _) (bt_lt _ _)]
    go_ret
    exact ⟨rfl, (by repeat' (first | (with_reducible exact Below.refl _ _) | (with_reducible assumption) | (with_reducible refine below_alloc ?_ _) | (with_reducible refine Below.drew ?_) | (with_reducible refine below_drewN ?_ _) | (with_reducible refine Below.setCell ?_ ?_ _) | go_size))⟩

/-- the numbers' text -/
abbrev rkB : ByteArray := { data := ((([66, 138, 47, 152, 113, 55, 68, 145, 181, 192, 251, 207, 233, 181, 219, 165, 57, 86, 194, 91, 89, 241, 17, 241, 146, 63, 130, 164, 171, 28, 94, 213, 216, 7, 170, 152, 18, 131, 91, 1, 36, 49, 133, 190, 85, 12, 125, 195, 114, 190, 93, 116, 128, 222, 177, 254, 155, 220, 6, 167, 193, 155, 241, 116] : List UInt8).append [228, 155, 105, 193, 239, 190, 71, 134, 15, 193, 157, 198, 36, 12, 161, 204, 45, 233, 44, 111, 74, 116, 132, 170, 92, 176, 169, 220, 118, 249, 136, 218, 152, 62, 81, 82, 168, 49, 198, 109, 176, 3, 39, 200, 191, 89, 127, 199, 198, 224, 11, 243, 213, 167, 145, 71, 6, 202, 99, 81, 20, 41, 41, 103]).append ([39, 183, 10, 133, 46, 27, 33, 56, 77, 44, 109, 252, 83, 56, 13, 19, 101, 10, 115, 84, 118, 106, 10, 187, 129, 194, 201, 46, 146, 114, 44, 133, 162, 191, 232, 161, 168, 26, 102, 75, 194, 75, 139, 112, 199, 108, 81, 163, 209, 146, 232, 25, 214, 153, 6, 36, 244, 14, 53, 133, 16, 106, 160, 112].append [25, 164, 193, 22, 30, 55, 108, 8, 39, 72, 119, 76, 52, 176, 188, 181, 57, 28, 12, 179, 78, 216, 170, 74, 91, 156, 202, 79, 104, 46, 111, 243, 116, 143, 130, 238, 120, 165, 99, 111, 132, 200, 120, 20, 140, 199, 2, 8, 144, 190, 255, 250, 164, 80, 108, 235, 190, 249, 163, 247, 198, 113, 120, 242])).toArray }
theorem rk_all : ((List.range 64).all fun k => wd rkB (4 * k) == ks.getD k 0) = true := by kernel_rfl
theorem rk_get (k : Nat) (hk : k < 64) : wd rkB (4 * k) = ks.getD k 0 := by
  have h := List.all_eq_true.1 rk_all k (by simpa using hk)
  simpa using h
theorem rkword_any (k : Nat) (hk : k < 64) (w : World) :
    Calls Try.prog 127 #[.string rkB, .int .i64 (4 * (k : Int))] w fun e w' => e = .returned (.int .u32 (ks.getD k 0)) ∧ Below w.heap.size w w' := by
  have hs : rkB.size = 256 := by kernel_rfl
  have h := word_any rkB (4 * k) (by rw [hs]; omega) (by rw [hs]; omega) w
  rw [rk_get k hk] at h
  exact h
end Go.Proofs.Ytnbppbnjkmopeaa
