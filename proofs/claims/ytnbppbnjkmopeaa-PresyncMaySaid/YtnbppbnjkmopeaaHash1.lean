/- SHA-256 in plain numbers: the words, the rounds, the blocks. No condition. hash: a number turned, a word of a text. No condition. hash.block: eight numbers gone on by 64 bytes. No condition. -/
import Derived.Test.YtnbppbnjkmopeaaHashBase
import Derived.Laws.BitsAllLaws
namespace Go.Proofs.Ytnbppbnjkmopeaa
open Go.RowKit

/-- turned to the right -/
def ror (x r : Nat) : Nat := x % 2 ^ r * 2 ^ (32 - r) + x / 2 ^ r
theorem ror_lt {x r : Nat} (hx : x < 4294967296) (hr : r ≤ 32) : ror x r < 4294967296 := by
  unfold ror
  have h1 : x % 2 ^ r < 2 ^ r := Nat.mod_lt _ (Nat.two_pow_pos r)
  have e : (4294967296 : Nat) = 2 ^ r * 2 ^ (32 - r) := by rw [← Nat.pow_add, show r + (32 - r) = 32 by omega]
  have h2 : x / 2 ^ r < 2 ^ (32 - r) := by rw [Nat.div_lt_iff_lt_mul (Nat.two_pow_pos _), Nat.mul_comm, ← e]; exact hx
  have h3 : x % 2 ^ r * 2 ^ (32 - r) + 2 ^ (32 - r) ≤ 2 ^ r * 2 ^ (32 - r) := by
    rw [← Nat.succ_mul]; exact Nat.mul_le_mul_right _ h1
  rw [e]; omega
theorem ror_join {x r : Nat} (hx : x < 4294967296) (hr : r ≤ 32) : (x * 2 ^ (32 - r) % 4294967296) ||| (x / 2 ^ r) = ror x r := by
  have e : (4294967296 : Nat) = 2 ^ r * 2 ^ (32 - r) := by rw [← Nat.pow_add, show r + (32 - r) = 32 by omega]
  have h2 : x / 2 ^ r < 2 ^ (32 - r) := by rw [Nat.div_lt_iff_lt_mul (Nat.two_pow_pos _), Nat.mul_comm, ← e]; exact hx
  have h3 : x * 2 ^ (32 - r) % 4294967296 = x % 2 ^ r * 2 ^ (32 - r) := by rw [e, Nat.mul_mod_mul_right]
  unfold ror
  rw [h3, nat_join (32 - r) _ _ (Nat.mul_mod_left _ _) h2]

def add32 (a b : Nat) : Nat := (a + b) % 4294967296
def sg0 (x : Nat) : Nat := ror x 7 ^^^ ror x 18 ^^^ (x / 8)
def sg1 (x : Nat) : Nat := ror x 17 ^^^ ror x 19 ^^^ (x / 1024)
def bs1 (e : Nat) : Nat := ror e 6 ^^^ ror e 11 ^^^ ror e 25
def bs0 (a : Nat) : Nat := ror a 2 ^^^ ror a 13 ^^^ ror a 22
def chs (e f g : Nat) : Nat := (e &&& f) ^^^ ((4294967295 - e) &&& g)
def maj (a b c : Nat) : Nat := (a &&& b) ^^^ (a &&& c) ^^^ (b &&& c)
/-- t of a round -/
def rt (k w : Nat) (e f g h : Nat) : Nat := add32 (add32 (add32 (add32 h (bs1 e)) (chs e f g)) k) w
/-- one round -/
def rnd1 (k w : Nat) : List Nat → List Nat
  | [a, b, c, d, e, f, g, h] => [add32 (add32 (rt k w e f g h) (bs0 a)) (maj a b c), a, b, c, add32 d (rt k w e f g h), e, f, g]
  | l => l
/-- the standard's numbers -/
def ks : List Nat := [
    0x428a2f98, 0x71374491, 0xb5c0fbcf, 0xe9b5dba5, 0x3956c25b, 0x59f111f1, 0x923f82a4, 0xab1c5ed5,
    0xd807aa98, 0x12835b01, 0x243185be, 0x550c7dc3, 0x72be5d74, 0x80deb1fe, 0x9bdc06a7, 0xc19bf174,
    0xe49b69c1, 0xefbe4786, 0x0fc19dc6, 0x240ca1cc, 0x2de92c6f, 0x4a7484aa, 0x5cb0a9dc, 0x76f988da,
    0x983e5152, 0xa831c66d, 0xb00327c8, 0xbf597fc7, 0xc6e00bf3, 0xd5a79147, 0x06ca6351, 0x14292967,
    0x27b70a85, 0x2e1b2138, 0x4d2c6dfc, 0x53380d13, 0x650a7354, 0x766a0abb, 0x81c2c92e, 0x92722c85,
    0xa2bfe8a1, 0xa81a664b, 0xc24b8b70, 0xc76c51a3, 0xd192e819, 0xd6990624, 0xf40e3585, 0x106aa070,
    0x19a4c116, 0x1e376c08, 0x2748774c, 0x34b0bcb5, 0x391c0cb3, 0x4ed8aa4a, 0x5b9cca4f, 0x682e6ff3,
    0x748f82ee, 0x78a5636f, 0x84c87814, 0x8cc70208, 0x90befffa, 0xa4506ceb, 0xbef9a3f7, 0xc67178f2]
/-- the words of a block, the last one first: 16 + n of them -/
def wl (M : List Nat) : Nat → List Nat
  | 0 => M.reverse
  | n + 1 => add32 (add32 (add32 ((wl M n).getD 15 0) (sg0 ((wl M n).getD 14 0))) ((wl M n).getD 6 0)) (sg1 ((wl M n).getD 1 0)) :: wl M n
/-- word j of a block -/
def wj (M : List Nat) (j : Nat) : Nat := (wl M 48).getD (63 - j) 0
/-- n rounds -/
def rds (f : Nat → Nat) (h : List Nat) : Nat → List Nat
  | 0 => h
  | n + 1 => rnd1 (ks.getD n 0) (f n) (rds f h n)
/-- the numbers gone on by a block -/
def gon (M h : List Nat) : List Nat := List.zipWith add32 h (rds (wj M) h 64)

theorem wl_len {M : List Nat} (hM : M.length = 16) : ∀ n, (wl M n).length = 16 + n
  | 0 => by simp [wl, hM]
  | n + 1 => by rw [wl, List.length_cons, wl_len hM n]; omega
theorem wl_get {M : List Nat} (n : Nat) : ∀ m k, k < 16 → (wl M (n + m)).getD (k + m) 0 = (wl M n).getD k 0
  | 0, k, _ => rfl
  | m + 1, k, hk => by
    rw [show n + (m + 1) = (n + m) + 1 by omega, wl, show k + (m + 1) = (k + m) + 1 by omega, List.getD_cons_succ]
    exact wl_get n m k hk
theorem wj_low {M : List Nat} (hM : M.length = 16) {j : Nat} (hj : j < 16) : wj M j = M.getD j 0 := by
  unfold wj
  have h := wl_get (M := M) 0 48 (15 - j) (by omega)
  rw [show 0 + 48 = 48 from rfl, show 15 - j + 48 = 63 - j by omega] at h
  rw [h, wl, List.getD_eq_getElem?_getD, List.getElem?_reverse (by omega), hM, show 16 - 1 - (15 - j) = j by omega, List.getD_eq_getElem?_getD]
theorem wj_at {M : List Nat} (i k : Nat) (hi : i ≤ 48) (hk : k < 16) : wj M (i + 15 - k) = (wl M i).getD k 0 := by
  unfold wj
  have h := wl_get (M := M) i (48 - i) k hk
  rw [show i + (48 - i) = 48 by omega, show k + (48 - i) = 63 - (i + 15 - k) by omega] at h
  exact h
theorem wj_high {M : List Nat} (j : Nat) (hj : 16 ≤ j) (hj2 : j < 64) :
    wj M j = add32 (add32 (add32 (wj M (j - 16)) (sg0 (wj M (j - 15)))) (wj M (j - 7))) (sg1 (wj M (j - 2))) := by
  have e0 := wj_at (M := M) (j - 15) 0 (by omega) (by omega)
  rw [show j - 15 + 15 - 0 = j by omega, show j - 15 = (j - 16) + 1 by omega, wl, List.getD_cons_zero] at e0
  have e1 := wj_at (M := M) (j - 16) 15 (by omega) (by omega)
  have e2 := wj_at (M := M) (j - 16) 14 (by omega) (by omega)
  have e3 := wj_at (M := M) (j - 16) 6 (by omega) (by omega)
  have e4 := wj_at (M := M) (j - 16) 1 (by omega) (by omega)
  rw [show j - 16 + 15 - 15 = j - 16 by omega] at e1
  rw [show j - 16 + 15 - 14 = j - 15 by omega] at e2
  rw [show j - 16 + 15 - 6 = j - 7 by omega] at e3
  rw [show j - 16 + 15 - 1 = j - 2 by omega] at e4
  rw [e0, e1, e2, e3, e4]

theorem add32_lt (a b : Nat) : add32 a b < 4294967296 := Nat.mod_lt _ (by omega)
theorem xor32 {a b : Nat} (ha : a < 4294967296) (hb : b < 4294967296) : a ^^^ b < 4294967296 := Nat.xor_lt_two_pow (n := 32) ha hb
theorem and32 {a : Nat} (b : Nat) (ha : a < 4294967296) : a &&& b < 4294967296 := Nat.lt_of_le_of_lt Nat.and_le_left ha
theorem sg0_lt {x : Nat} (h : x < 4294967296) : sg0 x < 4294967296 := xor32 (xor32 (ror_lt h (by omega)) (ror_lt h (by omega))) (by omega)
theorem sg1_lt {x : Nat} (h : x < 4294967296) : sg1 x < 4294967296 := xor32 (xor32 (ror_lt h (by omega)) (ror_lt h (by omega))) (by omega)
theorem bs0_lt {x : Nat} (h : x < 4294967296) : bs0 x < 4294967296 := xor32 (xor32 (ror_lt h (by omega)) (ror_lt h (by omega))) (ror_lt h (by omega))
theorem bs1_lt {x : Nat} (h : x < 4294967296) : bs1 x < 4294967296 := xor32 (xor32 (ror_lt h (by omega)) (ror_lt h (by omega))) (ror_lt h (by omega))
theorem chs_lt {e f g : Nat} (he : e < 4294967296) : chs e f g < 4294967296 := xor32 (and32 _ he) (and32 _ (by omega))
theorem maj_lt {a b c : Nat} (ha : a < 4294967296) (hb : b < 4294967296) : maj a b c < 4294967296 := xor32 (xor32 (and32 _ ha) (and32 _ ha)) (and32 _ hb)

theorem wl_lt {M : List Nat} (h : ∀ x ∈ M, x < 4294967296) : ∀ n x, x ∈ wl M n → x < 4294967296
  | 0, x, hx => h x (List.mem_reverse.1 hx)
  | n + 1, x, hx => by
    rcases List.mem_cons.1 hx with rfl | hx
    · exact add32_lt _ _
    · exact wl_lt h n x hx
theorem wj_lt {M : List Nat} (h : ∀ x ∈ M, x < 4294967296) (j : Nat) : wj M j < 4294967296 := by
  unfold wj
  rw [List.getD_eq_getElem?_getD]
  rcases hc : (wl M 48)[63 - j]? with _ | y
  · simp
  · exact wl_lt h 48 y (List.mem_of_getElem? hc)

/-- eight numbers below 2^32 -/
def H8 (h : List Nat) : Prop := h.length = 8 ∧ ∀ x ∈ h, x < 4294967296
theorem H8.eight {h : List Nat} (k : H8 h) : ∃ a b c d e f g i, h = [a, b, c, d, e, f, g, i] ∧ a < 4294967296 ∧ b < 4294967296 ∧ c < 4294967296 ∧ d < 4294967296 ∧ e < 4294967296 ∧ f < 4294967296 ∧ g < 4294967296 ∧ i < 4294967296 := by
  obtain ⟨hl, hx⟩ := k
  match h, hl with
  | [a, b, c, d, e, f, g, i], _ =>
    refine ⟨a, b, c, d, e, f, g, i, rfl, ?_⟩
    simpa using hx
theorem H8.of {a b c d e f g i : Nat} (h : a < 4294967296 ∧ b < 4294967296 ∧ c < 4294967296 ∧ d < 4294967296 ∧ e < 4294967296 ∧ f < 4294967296 ∧ g < 4294967296 ∧ i < 4294967296) : H8 [a, b, c, d, e, f, g, i] :=
  ⟨rfl, by simpa using h⟩
theorem H8.rnd {h : List Nat} (k w : Nat) (hh : H8 h) : H8 (rnd1 k w h) := by
  obtain ⟨a, b, c, d, e, f, g, i, rfl, ha, hb, hc, hd, he, hf, hg, hi⟩ := hh.eight
  exact H8.of ⟨add32_lt _ _, ha, hb, hc, add32_lt _ _, he, hf, hg⟩
theorem H8.rds (f : Nat → Nat) {h : List Nat} (hh : H8 h) : ∀ n, H8 (rds f h n)
  | 0 => hh
  | n + 1 => (H8.rds f hh n).rnd _ _
theorem H8.gon {M h : List Nat} (hh : H8 h) : H8 (gon M h) := by
  have h2 := H8.rds (wj M) hh 64
  unfold Proofs.Ytnbppbnjkmopeaa.gon
  obtain ⟨a, b, c, d, e, f, g, i, rfl, -⟩ := hh.eight
  obtain ⟨a2, b2, c2, d2, e2, f2, g2, i2, e2', -⟩ := h2.eight
  rw [e2']
  exact H8.of ⟨add32_lt _ _, add32_lt _ _, add32_lt _ _, add32_lt _ _, add32_lt _ _, add32_lt _ _, add32_lt _ _, add32_lt _ _⟩
end Go.Proofs.Ytnbppbnjkmopeaa
namespace Go.Proofs.Ytnbppbnjkmopeaa
open Go.RowKit

theorem rot_fin {x r s : Nat} (hx : x < 4294967296) (hr : r ≤ 32) (hs : s = 32 - r) (hs2 : r = 32 - s) : bits .or .u32 ((x : Int) * 2 ^ s % 4294967296) (x / 2 ^ (32 - s) : Int) = ((ror x r : Nat) : Int) := by
  rw [← hs2, hs]
  have cP : (x : Int) * 2 ^ (32 - r) % 4294967296 = ((x * 2 ^ (32 - r) % 4294967296 : Nat) : Int) := by
    rw [Int.natCast_emod, Int.natCast_mul, Int.natCast_pow]; rfl
  have cd : (x / 2 ^ r : Int) = ((x / 2 ^ r : Nat) : Int) := by rw [Int.natCast_ediv, Int.natCast_pow]; rfl
  have h4 := ror_lt hx hr
  have h5 : x / 2 ^ r ≤ ror x r := by unfold ror; omega
  rw [cP, cd, u32_or_nat _ _ (by omega) (by omega), ror_join hx hr]

set_option maxRecDepth 100000 in
set_option maxHeartbeats 1000000 in
theorem rot_any (x r : Nat) (hx : x < 4294967296) (h1 : 1 ≤ r) (h2 : r ≤ 31) (w : World) :
    Calls Try.prog 128 #[.int .u32 x, .int .i64 (-(r : Int))] w fun e w' => e = .returned (.int .u32 (ror x r)) ∧ w' = w := by
  have e1 : IntKind.u64.wrap (-(r : Int)) = 18446744073709551616 - (r : Int) := by rw [IntKind.wrap_u64]; omega
  have e2 : bits .and .u64 (18446744073709551616 - (r : Int)) 31 = ((32 - r : Nat) : Int) := by
    have := u64_and_nat (18446744073709551616 - r) 31 (by omega) (by omega)
    rw [show (((18446744073709551616 - r : Nat)) : Int) = 18446744073709551616 - (r : Int) by omega, show ((31 : Nat) : Int) = 31 from rfl, Nat.and_two_pow_sub_one_eq_mod _ 5] at this
    rw [this]
    congr 1
    omega
  obtain ⟨s, hs⟩ : ∃ s, s = 32 - r := ⟨_, rfl⟩
  have hb := Lib.hid (rot_fin hx (show r ≤ 32 by omega) hs (by omega))
  rw [← hs] at e2
  have hs1 : s < 32 := by omega
  clear hs
  go_enter Try.func128, Try.ntmps128
  go_wp2_with fail
  rw [hb.out]
  go_ret
  exact ⟨rfl, rfl⟩

theorem sg0_bits {x : Nat} (h : x < 4294967296) : bits .xor .u32 (bits .xor .u32 (ror x 7) (ror x 18)) ((x : Int) / 8) = ((sg0 x : Nat) : Int) := by
  have a := ror_lt h (show 7 ≤ 32 by omega); have b := ror_lt h (show 18 ≤ 32 by omega)
  rw [show (x : Int) / 8 = ((x / 8 : Nat) : Int) by omega, u32_xor_nat _ _ a b, u32_xor_nat _ _ (xor32 a b) (by omega)]; rfl
theorem sg1_bits {x : Nat} (h : x < 4294967296) : bits .xor .u32 (bits .xor .u32 (ror x 17) (ror x 19)) ((x : Int) / 1024) = ((sg1 x : Nat) : Int) := by
  have a := ror_lt h (show 17 ≤ 32 by omega); have b := ror_lt h (show 19 ≤ 32 by omega)
  rw [show (x : Int) / 1024 = ((x / 1024 : Nat) : Int) by omega, u32_xor_nat _ _ a b, u32_xor_nat _ _ (xor32 a b) (by omega)]; rfl
theorem bs0_bits {x : Nat} (h : x < 4294967296) : bits .xor .u32 (bits .xor .u32 (ror x 2) (ror x 13)) (ror x 22) = ((bs0 x : Nat) : Int) := by
  have a := ror_lt h (show 2 ≤ 32 by omega); have b := ror_lt h (show 13 ≤ 32 by omega); have c := ror_lt h (show 22 ≤ 32 by omega)
  rw [u32_xor_nat _ _ a b, u32_xor_nat _ _ (xor32 a b) c]; rfl
theorem bs1_bits {x : Nat} (h : x < 4294967296) : bits .xor .u32 (bits .xor .u32 (ror x 6) (ror x 11)) (ror x 25) = ((bs1 x : Nat) : Int) := by
  have a := ror_lt h (show 6 ≤ 32 by omega); have b := ror_lt h (show 11 ≤ 32 by omega); have c := ror_lt h (show 25 ≤ 32 by omega)
  rw [u32_xor_nat _ _ a b, u32_xor_nat _ _ (xor32 a b) c]; rfl
theorem maj_bits {a b c : Nat} (ha : a < 4294967296) (hb : b < 4294967296) (hc : c < 4294967296) : bits .xor .u32 (bits .xor .u32 (bits .and .u32 a b) (bits .and .u32 a c)) (bits .and .u32 b c) = ((maj a b c : Nat) : Int) := by
  rw [u32_and_nat _ _ ha hb, u32_and_nat _ _ ha hc, u32_and_nat _ _ hb hc, u32_xor_nat _ _ (and32 _ ha) (and32 _ ha), u32_xor_nat _ _ (xor32 (and32 _ ha) (and32 _ ha)) (and32 _ hb)]; rfl
theorem chs_bits {e f g : Nat} (he : e < 4294967296) (hf : f < 4294967296) (hg : g < 4294967296) : bits .xor .u32 (bits .and .u32 e f) (bits .and .u32 (4294967295 - (e : Int)) g) = ((chs e f g : Nat) : Int) := by
  rw [show 4294967295 - (e : Int) = ((4294967295 - e : Nat) : Int) by omega, u32_and_nat _ _ he hf, u32_and_nat _ _ (by omega) hg, u32_xor_nat _ _ (and32 _ he) (and32 _ (by omega))]; rfl

theorem rt_bits {k w e f g h : Nat} (he : e < 4294967296) (hf : f < 4294967296) (hg : g < 4294967296) :
    (((h : Int) + (bs1 e : Nat) + bits .xor .u32 (bits .and .u32 e f) (bits .and .u32 (bits .xor .u32 (if IntKind.u32.signed = true then -1 else IntKind.u32.max) e) g) + (k : Nat)) % 4294967296 + (w : Nat)) % 4294967296 = ((rt k w e f g h : Nat) : Int) := by
  have hn : bits .xor .u32 (if IntKind.u32.signed = true then -1 else IntKind.u32.max) (e : Int) = 4294967295 - (e : Int) := by
    have e1 : (if IntKind.u32.signed = true then -1 else IntKind.u32.max) = ((4294967295 : Nat) : Int) := by decide
    rw [e1, u32_xor_nat _ _ (by omega) he]
    have e2 : 4294967295 ^^^ e = 4294967295 - e := by
      have h1 : (4294967295 ^^^ e) = 2 ^ 32 - 1 - e := by
        apply Nat.eq_of_testBit_eq
        intro i
        rw [Nat.testBit_xor, show 2 ^ 32 - 1 - e = 2 ^ 32 - (e + 1) by omega, Nat.testBit_two_pow_sub_succ (by omega), show (4294967295 : Nat) = 2 ^ 32 - 1 by decide, Nat.testBit_two_pow_sub_one]
        by_cases hi : i < 32
        · simp [hi]
        · have : e.testBit i = false := Nat.testBit_lt_two_pow (Nat.lt_of_lt_of_le (show e < 2 ^ 32 by omega) (Nat.pow_le_pow_right (by omega) (by omega)))
          simp [hi, this]
      rw [h1]
    rw [e2]; omega
  rw [hn, chs_bits he hf hg]
  unfold rt add32
  omega

/-- byte i of a text -/
def bt (s : ByteArray) (i : Nat) : Nat := (s.data.toList.getD i 0).toNat
theorem bt_lt (s : ByteArray) (i : Nat) : bt s i < 256 := UInt8.toNat_lt _
theorem bt_get (s : ByteArray) (i : Nat) (h : i < s.size) : (s[i]'h).toNat = bt s i := by
  unfold bt
  have h' : i < s.data.toList.length := by simpa using h
  rw [List.getD_eq_getElem?_getD, List.getElem?_eq_getElem h', Option.getD_some]
  rfl
/-- a word of a text -/
def wd (s : ByteArray) (i : Nat) : Nat := bt s i * 16777216 + bt s (i + 1) * 65536 + bt s (i + 2) * 256 + bt s (i + 3)
theorem wd_lt (s : ByteArray) (i : Nat) : wd s i < 4294967296 := by
  unfold wd
  have := bt_lt s i; have := bt_lt s (i + 1); have := bt_lt s (i + 2); have := bt_lt s (i + 3)
  omega
theorem wd_fin (a b c d : Nat) (ha : a < 256) (hb : b < 256) (hc : c < 256) (hd : d < 256) :
    bits .or .u32 (bits .or .u32 (bits .or .u32 ((a : Int) % 4294967296 * 16777216 % 4294967296) ((b : Int) % 4294967296 * 65536 % 4294967296)) ((c : Int) % 4294967296 * 256 % 4294967296)) ((d : Int) % 4294967296) = ((a * 16777216 + b * 65536 + c * 256 + d : Nat) : Int) := by
  have e1 : (a : Int) % 4294967296 * 16777216 % 4294967296 = ((a * 16777216 : Nat) : Int) := by omega
  have e2 : (b : Int) % 4294967296 * 65536 % 4294967296 = ((b * 65536 : Nat) : Int) := by omega
  have e3 : (c : Int) % 4294967296 * 256 % 4294967296 = ((c * 256 : Nat) : Int) := by omega
  have e4 : (d : Int) % 4294967296 = ((d : Nat) : Int) := by omega
  rw [e1, e2, e3, e4, u32_or_nat _ _ (by omega) (by omega), nat_join 24 (a * 16777216) (b * 65536) (by omega) (by omega), u32_or_nat _ _ (by omega) (by omega),
    nat_join 16 (a * 16777216 + b * 65536) (c * 256) (by omega) (by omega), u32_or_nat _ _ (by omega) (by omega), nat_join 8 (a * 16777216 + b * 65536 + c * 256) d (by omega) (by omega)]
set_option maxRecDepth 100000 in
set_option maxHeartbeats 1000000 in
theorem word_any (s : ByteArray) (i : Nat) (hi : i + 3 < s.size) (hs : s.size < 1000000) (w : World) :
    Calls Try.prog 127 #[.string s, .int .i64 i] w fun e w' => e = .returned (.int .u32 (wd s i)) ∧ Below w.heap.size w w' := by
  have B : Below w.heap.size w w := Below.refl _ _
  have h0 : i < s.size := by omega
  have h1 : (0 : Int) ≤ (i : Int) + 1 ∧ (i : Int) + 1 < (s.size : Int) := by omega
  have h2 : (0 : Int) ≤ (i : Int) + 2 ∧ (i : Int) + 2 < (s.size : Int) := by omega
  have h3 : (0 : Int) ≤ (i : Int) + 3 ∧ (i : Int) + 3 < (s.size : Int) := by omega
  have t1 : ((i : Int) + 1).toNat = i + 1 := by omega
  have t2 : ((i : Int) + 2).toNat = i + 2 := by omega
  have t3 : ((i : Int) + 3).toNat = i + 3 := by omega
  go_enter Try.func127, Try.ntmps127
  go_wp2_with fail
  go_region
  all_goals
    go_wp2_with fail
    rw [bt_get, bt_get, bt_get, bt_get, wd_fin _ _ _ _ (bt_lt _ _) (bt_lt _ _) (bt_lt _ _) (bt_lt _ _)]
    go_ret
    exact ⟨rfl, (by repeat' (first | (with_reducible exact Below.refl _ _) | (with_reducible assumption) | (with_reducible refine below_alloc ?_ _) | (with_reducible refine Below.drew ?_) | (with_reducible refine below_drewN ?_ _) | (with_reducible refine Below.setCell ?_ ?_ _) | go_size))⟩

/-- the numbers' text -/
abbrev rkB : ByteArray := { data := ((([66, 138, 47, 152, 113, 55, 68, 145, 181, 192, 251, 207, 233, 181, 219, 165, 57, 86, 194, 91, 89, 241, 17, 241, 146, 63, 130, 164, 171, 28, 94, 213, 216, 7, 170, 152, 18, 131, 91, 1, 36, 49, 133, 190, 85, 12, 125, 195, 114, 190, 93, 116, 128, 222, 177, 254, 155, 220, 6, 167, 193, 155, 241, 116] : List UInt8).append [228, 155, 105, 193, 239, 190, 71, 134, 15, 193, 157, 198, 36, 12, 161, 204, 45, 233, 44, 111, 74, 116, 132, 170, 92, 176, 169, 220, 118, 249, 136, 218, 152, 62, 81, 82, 168, 49, 198, 109, 176, 3, 39, 200, 191, 89, 127, 199, 198, 224, 11, 243, 213, 167, 145, 71, 6, 202, 99, 81, 20, 41, 41, 103]).append ([39, 183, 10, 133, 46, 27, 33, 56, 77, 44, 109, 252, 83, 56, 13, 19, 101, 10, 115, 84, 118, 106, 10, 187, 129, 194, 201, 46, 146, 114, 44, 133, 162, 191, 232, 161, 168, 26, 102, 75, 194, 75, 139, 112, 199, 108, 81, 163, 209, 146, 232, 25, 214, 153, 6, 36, 244, 14, 53, 133, 16, 106, 160, 112].append [25, 164, 193, 22, 30, 55, 108, 8, 39, 72, 119, 76, 52, 176, 188, 181, 57, 28, 12, 179, 78, 216, 170, 74, 91, 156, 202, 79, 104, 46, 111, 243, 116, 143, 130, 238, 120, 165, 99, 111, 132, 200, 120, 20, 140, 199, 2, 8, 144, 190, 255, 250, 164, 80, 108, 235, 190, 249, 163, 247, 198, 113, 120, 242])).toArray }
theorem rk_all : ((List.range 64).all fun k => wd rkB (4 * k) == ks.getD k 0) = true := by kernel_rfl
theorem rk_get (k : Nat) (hk : k < 64) : wd rkB (4 * k) = ks.getD k 0 := by
  have h := List.all_eq_true.1 rk_all k (by simpa using hk)
  simpa using h
theorem rkword_any (k : Nat) (hk : k < 64) (w : World) :
    Calls Try.prog 127 #[.string rkB, .int .i64 (4 * (k : Int))] w fun e w' => e = .returned (.int .u32 (ks.getD k 0)) ∧ Below w.heap.size w w' := by
  have hs : rkB.size = 256 := by kernel_rfl
  have h := word_any rkB (4 * k) (by rw [hs]; omega) (by rw [hs]; omega) w
  rw [rk_get k hk] at h
  exact h
end Go.Proofs.Ytnbppbnjkmopeaa
namespace Go.Proofs.Ytnbppbnjkmopeaa
open Go.RowKit

/-- rows of 32 bits -/
def us (l : List Nat) : List Value := l.map fun (x : Nat) => .int .u32 (x : Int)
theorem us_len (l : List Nat) : (us l).length = l.length := by simp [us]
abbrev hv (h : List Nat) : Value := .agg (us h).toArray
def hblk (h : List Nat) : Obj := .cells (us h).toArray 167 (0, 0)
theorem hblk_range {w : World} {g : Nat} {h : List Nat} (hg : w.heap[g]? = some (hblk h)) : w.rangeAt g 0 (us h) := fun j v hv => by
  rw [Nat.zero_add, cell_of_row w g j _ _ _ hg]; simpa using hv
theorem hblk_cell {w : World} {g : Nat} {h : List Nat} (hg : w.heap[g]? = some (hblk h)) (j : Nat) (hj : j < h.length) : w.cell? ⟨g, j, none⟩ = some (.int .u32 (h.getD j 0)) := by
  rw [cell_of_row w g j _ _ _ hg]; simp [us, hj]
theorem hblk_there {w : World} {g : Nat} {h : List Nat} (hl : h.length = 8) (hg : w.heap[g]? = some (hblk h)) : w.there g 0 8 := fun j hj => by
  refine ⟨?_, frozen_of_row _ _ _ _ _ hg⟩
  rw [Nat.zero_add, hblk_cell hg j (by omega)]; rfl
theorem hblk_frozen {w : World} {g : Nat} {h : List Nat} (hg : w.heap[g]? = some (hblk h)) (j : Nat) : w.frozen? ⟨g, j, none⟩ = false := frozen_of_row _ _ _ _ _ hg
theorem loadVar_h {w : World} {g : Nat} {h : List Nat} (hl : h.length = 8) (hg : w.heap[g]? = some (hblk h)) : (loadVar 167 ⟨g, 0, none⟩).run Try.prog w = .ok (hv h) w :=
  run_loadVar_mid w g 0 167 (us h) (.array 8 22) (hblk_range hg) (by kernel_rfl) rfl (by rw [us_len, hl]; kernel_rfl)
theorem wpList_load_h {ops : Array Oper} {rest : List Oper} {op : Oper} {a : Act} {w : World} {Q : Exit → Act → World → Prop} (hgd : op.guard = none) (x : Operand) (ho : op.op = .load 167 x)
    (g : Nat) (h : List Nat) (hx : a.eval x = .pointer (some ⟨g, 0, none⟩)) (hl : h.length = 8) (hb : w.heap[g]? = some (hblk h)) (hk : wpList Try.prog ops Q rest (a.put op.dst (hv h)) w) : wpList Try.prog ops Q (op :: rest) a w :=
  wpList_load_mid hgd 167 x ho g 0 hx (us h) (.array 8 22) (hblk_range hb) (by kernel_rfl) rfl (by rw [us_len, hl]; kernel_rfl) hk
theorem wpList_store_h {ops : Array Oper} {rest : List Oper} {op : Oper} {a : Act} {w : World} {Q : Exit → Act → World → Prop} (hgd : op.guard = none) (x y : Operand) (ho : op.op = .store 167 x y)
    (g : Nat) (h0 h : List Nat) (hx : a.eval x = .pointer (some ⟨g, 0, none⟩)) (hy : a.eval y = hv h) (hl0 : h0.length = 8) (hl : h.length = 8) (hb : w.heap[g]? = some (hblk h0))
    (hk : ∀ w', w'.heap[g]? = some (hblk h) → (∀ b, b ≠ g → w'.heap[b]? = w.heap[b]?) → w'.heap.size = w.heap.size → (∀ B u, B ≤ g → Below B u w → Below B u w') → wpList Try.prog ops Q rest (a.put op.dst undef) w') :
    wpList Try.prog ops Q (op :: rest) a w := by
  have hs : (us h).toArray.size = 8 := by simp [us, hl]
  refine wpList_store_mid hgd 167 x y ho g 0 (us h).toArray hx hy ?_ (by rw [hs]; kernel_rfl) ?_ (hk _ ?_ (fun b hne => heap_setCells_far g _ _ _ b hne) (size_setCells_id g _ _ _) fun B u hB hu => below_setCells_id g hB _ _ _ hu)
  · rw [hs]; exact hblk_there hl0 hb
  · exact all_oneCell_toArray fun v hv => by
      simp only [us, List.mem_map] at hv
      obtain ⟨i, _, rfl⟩ := hv
      rfl
  · exact heap_setCells_row g 167 (us h) (us h0) [] w (by rw [us_len, us_len, hl, hl0]) hb
def zb8l : List Nat := [0, 0, 0, 0, 0, 0, 0, 0]
/-- 64 words, the first k of them known -/
def wrow (f : Nat → Nat) (k : Nat) : List Nat := (List.range 64).map fun j => if j < k then f j else 0
def wblk (f : Nat → Nat) (k : Nat) : Obj := .cells (us (wrow f k)).toArray 202 (0, 0)
theorem wrow_get (f : Nat → Nat) (k j : Nat) (hj : j < k) (hk : k ≤ 64) : (us (wrow f k))[j]? = some (.int .u32 (f j)) := by
  simp [us, wrow, show j < 64 by omega, hj]
theorem wblk_cell {f : Nat → Nat} {k : Nat} {w : World} {g : Nat} (h : w.heap[g]? = some (wblk f k)) (j : Nat) (hj : j < k) (hk : k ≤ 64) : w.cell? ⟨g, j, none⟩ = some (.int .u32 (f j)) := by
  rw [cell_of_row w g j _ _ _ h, List.getElem?_toArray, wrow_get f k j hj hk]
theorem wblk_there {f : Nat → Nat} {k : Nat} {w : World} {g : Nat} (h : w.heap[g]? = some (wblk f k)) (j : Nat) (hj : j < 64) : ∃ x, w.cell? ⟨g, j, none⟩ = some (.int .u32 x) := by
  rw [cell_of_row w g j _ _ _ h]
  simp [us, wrow, hj]
theorem wrow_step (f : Nat → Nat) (k : Nat) (hk : k < 64) : (us (wrow f k)).toArray.setIfInBounds k (.int .u32 (f k)) = (us (wrow f (k + 1))).toArray := by
  apply Array.ext_getElem?
  intro j
  rw [Array.getElem?_setIfInBounds]
  simp only [us, wrow, List.getElem?_toArray, List.getElem?_map, List.size_toArray, List.length_map, List.length_range]
  by_cases hj : j < 64
  · rw [List.getElem?_range hj]
    by_cases e : k = j
    · subst e; simp [hk]
    · have h1 : (j < k) ↔ (j < k + 1) := by omega
      simp [e, h1]
  · rw [List.getElem?_eq_none (by simpa using hj)]
    simp; omega
theorem wblk_step {f : Nat → Nat} {k : Nat} {w : World} {g : Nat} (hk : k < 64) (h : w.heap[g]? = some (wblk f k)) : (w.setCell ⟨g, k, none⟩ (.int .u32 (f k))).heap[g]? = some (wblk f (k + 1)) := by
  rw [heap_setCell_same w g k _ _ _ h, wrow_step f k hk]; rfl
theorem wblk_zero (f : Nat → Nat) : wblk f 0 = .cells #[.int .u32 0, .int .u32 0, .int .u32 0, .int .u32 0, .int .u32 0, .int .u32 0, .int .u32 0, .int .u32 0, .int .u32 0, .int .u32 0, .int .u32 0, .int .u32 0, .int .u32 0, .int .u32 0, .int .u32 0, .int .u32 0, .int .u32 0, .int .u32 0, .int .u32 0, .int .u32 0, .int .u32 0, .int .u32 0, .int .u32 0, .int .u32 0, .int .u32 0, .int .u32 0, .int .u32 0, .int .u32 0, .int .u32 0, .int .u32 0, .int .u32 0, .int .u32 0, .int .u32 0, .int .u32 0, .int .u32 0, .int .u32 0, .int .u32 0, .int .u32 0, .int .u32 0, .int .u32 0, .int .u32 0, .int .u32 0, .int .u32 0, .int .u32 0, .int .u32 0, .int .u32 0, .int .u32 0, .int .u32 0, .int .u32 0, .int .u32 0, .int .u32 0, .int .u32 0, .int .u32 0, .int .u32 0, .int .u32 0, .int .u32 0, .int .u32 0, .int .u32 0, .int .u32 0, .int .u32 0, .int .u32 0, .int .u32 0, .int .u32 0, .int .u32 0] 202 (0, 0) := by
  kernel_rfl
abbrev zb8 : Obj := hblk zb8l
/-- v added to h, at the first k places -/
def mixl (h v : List Nat) (k : Nat) : List Nat := (List.range 8).map fun j => if j < k then add32 (h.getD j 0) (v.getD j 0) else h.getD j 0
theorem mixl_len (h v : List Nat) (k : Nat) : (mixl h v k).length = 8 := by simp [mixl]
theorem mixl_get (h v : List Nat) (k j : Nat) (hj : j < 8) (hk : k ≤ j) : (mixl h v k).getD j 0 = h.getD j 0 := by
  rw [List.getD_eq_getElem?_getD, mixl, List.getElem?_map, List.getElem?_range hj]
  simp [show ¬ j < k by omega]
theorem mixl_zero {h v : List Nat} (hh : H8 h) : mixl h v 0 = h := by
  obtain ⟨a, b, c, d, e, f, g, i, rfl, -⟩ := hh.eight
  rfl
theorem mixl_all {h v : List Nat} (hh : H8 h) (hv : H8 v) : mixl h v 8 = List.zipWith add32 h v := by
  obtain ⟨a, b, c, d, e, f, g, i, rfl, -⟩ := hh.eight
  obtain ⟨a2, b2, c2, d2, e2, f2, g2, i2, rfl, -⟩ := hv.eight
  rfl
theorem mixl_step (h v : List Nat) (k : Nat) (hk : k < 8) : (us (mixl h v k)).toArray.setIfInBounds k (.int .u32 (add32 (h.getD k 0) (v.getD k 0) : Nat)) = (us (mixl h v (k + 1))).toArray := by
  apply Array.ext_getElem?
  intro j
  rw [Array.getElem?_setIfInBounds]
  simp only [us, mixl, List.getElem?_toArray, List.getElem?_map, List.size_toArray, List.length_map, List.length_range]
  by_cases hj : j < 8
  · rw [List.getElem?_range hj]
    by_cases e : k = j
    · subst e; simp [hk]
    · have h1 : (j < k) ↔ (j < k + 1) := by omega
      simp [e, h1]
  · rw [List.getElem?_eq_none (by simpa using hj)]
    simp; omega
theorem mixl_set {h v : List Nat} {k : Nat} {w : World} {g : Nat} (hk : k < 8) (hg : w.heap[g]? = some (hblk (mixl h v k))) :
    (w.setCell ⟨g, k, none⟩ (.int .u32 (add32 (h.getD k 0) (v.getD k 0) : Nat))).heap[g]? = some (hblk (mixl h v (k + 1))) := by
  rw [heap_setCell_same w g k _ _ _ hg, mixl_step h v k hk]; rfl
/-- the words of a block of bytes -/
def mw (b : ByteArray) : List Nat := (List.range 16).map fun i => wd b (4 * i)

set_option maxRecDepth 100000 in
set_option maxHeartbeats 1000000 in
theorem block_any (h : List Nat) (hh : H8 h) (b : ByteArray) (hb : b.size = 64) (w : World) :
    Calls Try.prog 98 #[hv h, .string b] w fun e w' => e = .returned (hv (gon (mw b) h)) ∧ Below w.heap.size w w' := by
  obtain ⟨f, hf⟩ : ∃ f, f = wj (mw b) := ⟨_, rfl⟩
  have HM : Hid ((mw b).length = 16) := Lib.hid (by simp [mw])
  have HL : Hid (∀ j, f j < 4294967296) := Lib.hid (by rw [hf]; exact wj_lt fun x hx => by simp only [mw, List.mem_map] at hx; obtain ⟨i, _, rfl⟩ := hx; exact wd_lt _ _)
  have HW : Hid (∀ k : Nat, k < 16 → ∀ w, Calls Try.prog 127 #[.string b, .int .i64 (4 * (k : Int))] w fun e w' => e = .returned (.int .u32 (f k)) ∧ Below w.heap.size w w') := Lib.hid fun k hk w => by
    have := word_any b (4 * k) (by omega) (by omega) w
    rw [hf, wj_low HM.out hk]
    simpa [mw, hk] using this
  have HH := Lib.hid hh
  have HF := Lib.hid hf
  clear hh hf
  have B : Below w.heap.size w w := Below.refl _ _
  have eh : Obj.cells (us h).toArray 167 (0, 0) = hblk h := rfl
  have ew : Obj.cells #[.int .u32 0, .int .u32 0, .int .u32 0, .int .u32 0, .int .u32 0, .int .u32 0, .int .u32 0, .int .u32 0, .int .u32 0, .int .u32 0, .int .u32 0, .int .u32 0, .int .u32 0, .int .u32 0, .int .u32 0, .int .u32 0, .int .u32 0, .int .u32 0, .int .u32 0, .int .u32 0, .int .u32 0, .int .u32 0, .int .u32 0, .int .u32 0, .int .u32 0, .int .u32 0, .int .u32 0, .int .u32 0, .int .u32 0, .int .u32 0, .int .u32 0, .int .u32 0, .int .u32 0, .int .u32 0, .int .u32 0, .int .u32 0, .int .u32 0, .int .u32 0, .int .u32 0, .int .u32 0, .int .u32 0, .int .u32 0, .int .u32 0, .int .u32 0, .int .u32 0, .int .u32 0, .int .u32 0, .int .u32 0, .int .u32 0, .int .u32 0, .int .u32 0, .int .u32 0, .int .u32 0, .int .u32 0, .int .u32 0, .int .u32 0, .int .u32 0, .int .u32 0, .int .u32 0, .int .u32 0, .int .u32 0, .int .u32 0, .int .u32 0, .int .u32 0] 202 (0, 0) = wblk f 0 := (wblk_zero f).symm
  have ez : Obj.cells #[.int .u32 0, .int .u32 0, .int .u32 0, .int .u32 0, .int .u32 0, .int .u32 0, .int .u32 0, .int .u32 0] 167 (0, 0) = zb8 := rfl
  show Calls Try.prog 98 #[.agg (us h).toArray, .string b] w _
  go_enter Try.func98, Try.ntmps98
  go_wp2_with fail
  go_loopg [21] 16 (fun g ix wr => ∃ k : Nat, g = 16 - k ∧ k ≤ 16 ∧ ix = .int .i64 k ∧ wr.heap[w.heap.size]? = some (hblk h) ∧ wr.heap[w.heap.size + 1]? = some zb8 ∧ wr.heap[w.heap.size + 1 + 1]? = some (wblk f k) ∧ Below w.heap.size w wr)
  case atStart =>
    have A := alloc3 w (hblk h) zb8 (wblk f 0)
    exact ⟨0, rfl, by omega, rfl, A.1, A.2.1, A.2.2, (by repeat' (first | (with_reducible exact Below.refl _ _) | (with_reducible assumption) | (with_reducible refine below_alloc ?_ _) | (with_reducible refine Below.drew ?_) | (with_reducible refine below_drewN ?_ _) | (with_reducible refine Below.setCell ?_ ?_ _) | go_size))⟩
  case round =>
    obtain ⟨k, hg, hk, rfl, hr0, hr1, hr2, B⟩ := hrel
    have HG := Lib.hid hg; have K0 := Lib.hid hr0; have K1 := Lib.hid hr1; have K2 := Lib.hid hr2
    clear hg hr0 hr1 hr2
    by_cases hlt : k < 16
    · obtain ⟨x, hx⟩ := wblk_there K2.out k (by omega)
      have hf : ∀ j, wr.frozen? ⟨w.heap.size + 1 + 1, j, none⟩ = false := fun j => frozen_of_row _ _ _ _ _ K2.out
      go_wp2_with fail
      refine (HW.out k hlt _).mono ?_
      rintro e w1 ⟨rfl, hb1⟩
      have K0' := Lib.hid (below_keep hb1 K0.out); have K1' := Lib.hid (below_keep hb1 K1.out); have K2' := Lib.hid (below_keep hb1 K2.out)
      have B1 := below_next B hb1
      clear hb1 B K0 K1 K2 hf hx
      obtain ⟨x, hx⟩ := wblk_there K2'.out k (by omega)
      have hf : ∀ j, w1.frozen? ⟨w.heap.size + 1 + 1, j, none⟩ = false := fun j => frozen_of_row _ _ _ _ _ K2'.out
      go_wp2_with fail
      go_roundg (16 - (k + 1))
      case measure => have := HG.out; omega
      case rel => exact ⟨k + 1, rfl, by omega, by go_num, (heap_setCell_other _ _ _ _ (show w.heap.size ≠ w.heap.size + 1 + 1 by omega)).trans K0'.out, (heap_setCell_other _ _ _ _ (show w.heap.size + 1 ≠ w.heap.size + 1 + 1 by omega)).trans K1'.out, wblk_step (by omega) K2'.out, (by repeat' (first | (with_reducible exact Below.refl _ _) | (with_reducible assumption) | (with_reducible refine below_alloc ?_ _) | (with_reducible refine Below.drew ?_) | (with_reducible refine below_drewN ?_ _) | (with_reducible refine Below.setCell ?_ ?_ _) | go_size))⟩
    · obtain rfl : k = 16 := by omega
      clear hlt HG HW
      go_wp2_with fail
      go_loopg [7] 48 (fun g ix wr2 => ∃ k : Nat, g = 64 - k ∧ 16 ≤ k ∧ k ≤ 64 ∧ ix = .int .i64 k ∧ wr2.heap[w.heap.size]? = some (hblk h) ∧ wr2.heap[w.heap.size + 1]? = some zb8 ∧ wr2.heap[w.heap.size + 1 + 1]? = some (wblk f k) ∧ Below w.heap.size w wr2)
      case atStart => exact ⟨16, rfl, by omega, by omega, rfl, K0.out, K1.out, K2.out, B⟩
      case round =>
        clear K0 K1 K2 B
        obtain ⟨k, hg, hk0, hk, rfl, hr0, hr1, hr2, B⟩ := hrel
        have HG := Lib.hid hg; have K0 := Lib.hid hr0; have K1 := Lib.hid hr1; have K2 := Lib.hid hr2
        clear hg hr0 hr1 hr2
        by_cases hlt : k < 64
        · obtain ⟨x, hx⟩ := wblk_there K2.out k hlt
          have hfz : ∀ j, wr.frozen? ⟨w.heap.size + 1 + 1, j, none⟩ = false := fun j => frozen_of_row _ _ _ _ _ K2.out
          obtain ⟨k15, h15⟩ : ∃ k15, k15 = k - 15 := ⟨_, rfl⟩
          obtain ⟨k2, h2⟩ : ∃ k2, k2 = k - 2 := ⟨_, rfl⟩
          obtain ⟨k16, h16⟩ : ∃ k16, k16 = k - 16 := ⟨_, rfl⟩
          obtain ⟨k7, h7⟩ : ∃ k7, k7 = k - 7 := ⟨_, rfl⟩
          have e15 : (k : Int) - 15 = (k15 : Int) := by omega
          have e2 : (k : Int) - 2 = (k2 : Int) := by omega
          have e16 : (k : Int) - 16 = (k16 : Int) := by omega
          have e7 : (k : Int) - 7 = (k7 : Int) := by omega
          have c15 := wblk_cell K2.out k15 (by omega) hk
          have c2 := wblk_cell K2.out k2 (by omega) hk
          have c16 := wblk_cell K2.out k16 (by omega) hk
          have c7 := wblk_cell K2.out k7 (by omega) hk
          have l15 : k15 < 64 := by omega
          have l2 : k2 < 64 := by omega
          have l16 : k16 < 64 := by omega
          have l7 : k7 < 64 := by omega
          have HE : Hid (f k = add32 (add32 (add32 (f k16) (sg0 (f k15))) (f k7)) (sg1 (f k2))) := Lib.hid (by rw [HF.out, wj_high k hk0 hlt, h15, h2, h16, h7])
          have D := Lib.hid ((⟨h15, h2, h16, h7⟩ : k15 = k - 15 ∧ k2 = k - 2 ∧ k16 = k - 16 ∧ k7 = k - 7))
          clear h15 h2 h16 h7
          have L1 := HL.out k15
          have L2 := HL.out k2
          have hs0 := sg0_bits L1
          have hs1 := sg1_bits L2
          have R7 := Lib.hid fun w => rot_any (f k15) 7 L1 (by omega) (by omega) w
          have R18 := Lib.hid fun w => rot_any (f k15) 18 L1 (by omega) (by omega) w
          have R17 := Lib.hid fun w => rot_any (f k2) 17 L2 (by omega) (by omega) w
          have R19 := Lib.hid fun w => rot_any (f k2) 19 L2 (by omega) (by omega) w
          have HE' : ((f k16 : Nat) + (sg0 (f k15) : Nat) + (f k7 : Nat) + (sg1 (f k2) : Nat)) % 4294967296 = ((f k : Nat) : Int) := by
            rw [HE.out]; unfold add32; omega
          clear L1 L2 ew ez eh HE
          go_wp2_with fail
          go_region
          all_goals
            go_wp2_with fail
            refine (R7.out _).mono ?_
            rintro e w1 ⟨rfl, rfl⟩
            go_wp2_with fail
            refine (R18.out _).mono ?_
            rintro e w1 ⟨rfl, rfl⟩
            go_wp2_with fail
            refine (R17.out _).mono ?_
            rintro e w1 ⟨rfl, rfl⟩
            go_wp2_with fail
            refine (R19.out _).mono ?_
            rintro e w1 ⟨rfl, rfl⟩
            go_wp2_with fail
            go_region
            all_goals
              go_wp2_with fail
              go_roundg (64 - (k + 1))
              case measure => have := HG.out; omega
              case rel => exact ⟨k + 1, rfl, by omega, by omega, by go_num, (heap_setCell_other _ _ _ _ (show w.heap.size ≠ w.heap.size + 1 + 1 by omega)).trans K0.out, (heap_setCell_other _ _ _ _ (show w.heap.size + 1 ≠ w.heap.size + 1 + 1 by omega)).trans K1.out, wblk_step (by omega) K2.out, (by repeat' (first | (with_reducible exact Below.refl _ _) | (with_reducible assumption) | (with_reducible refine below_alloc ?_ _) | (with_reducible refine Below.drew ?_) | (with_reducible refine below_drewN ?_ _) | (with_reducible refine Below.setCell ?_ ?_ _) | go_size))⟩
        · obtain rfl : k = 64 := by omega
          clear hlt HG ew ez
          have H8l : h.length = 8 := HH.out.1
          have HZ : ∀ (wx : World), (wx.alloc (hblk zb8l)).heap[wx.heap.size]? = some (hblk zb8l) := fun wx => heap_new wx _
          have ez : Obj.cells #[.int .u32 0, .int .u32 0, .int .u32 0, .int .u32 0, .int .u32 0, .int .u32 0, .int .u32 0, .int .u32 0] 167 (0, 0) = hblk zb8l := rfl
          go_wp2_with (first | refine wpList_load_h rfl (.tmp 2) rfl w.heap.size h rfl H8l K0.out ?_ | refine wpList_store_h rfl (.tmp 12) (.tmp 74) rfl wr.heap.size zb8l h rfl rfl rfl H8l (heap_new wr _) (fun w1 h1 h2 h3 h4 => ?_))
          have hsz : w.heap.size + 3 ≤ wr.heap.size := by have := block_lt K2.out; omega
          have B1 := h4 w.heap.size w (by omega) (below_alloc B (hblk zb8l))
          have K3 := Lib.hid h1
          have K0' := Lib.hid ((h2 _ (by omega)).trans (keep_alloc _ K0.out))
          have K1' := Lib.hid ((h2 _ (by omega)).trans (keep_alloc _ K1.out))
          have K2' := Lib.hid ((h2 _ (by omega)).trans (keep_alloc _ K2.out))
          clear h1 h2 h3 h4 HZ ez eh
          obtain ⟨gv, hgv⟩ : ∃ gv, gv = wr.heap.size := ⟨_, rfl⟩
          rw [← hgv] at K3 hsz
          rw [← hgv]
          clear hgv K0 K1 K2 B
          go_wp2_with fail
          go_loopg [75] 64 (fun g ix wr => ∃ k : Nat, g = 64 - k ∧ k ≤ 64 ∧ ix = .int .i64 k ∧ wr.heap[w.heap.size]? = some (hblk h) ∧ wr.heap[w.heap.size + 1]? = some zb8 ∧ wr.heap[w.heap.size + 1 + 1]? = some (wblk f 64) ∧ wr.heap[gv]? = some (hblk (rds f h k)) ∧ Below w.heap.size w wr)
          case atStart => exact ⟨0, rfl, by omega, rfl, K0'.out, K1'.out, K2'.out, K3.out, B1⟩
          case round =>
            clear K0' K1' K2' K3 B1
            obtain ⟨k, hg, hk, rfl, hr0, hr1, hr2, hr3, B⟩ := hrel
            have HG := Lib.hid hg; have K0 := Lib.hid hr0; have K1 := Lib.hid hr1; have K2 := Lib.hid hr2; have K3 := Lib.hid hr3
            clear hg hr0 hr1 hr2 hr3
            by_cases hlt : k < 64
            · obtain ⟨va, vb, vc, vd, ve, vf, vg, vi, hv8, ha, hbb, hc, hd, he, hff, hgg, hi⟩ := (H8.rds f HH.out k).eight
              have HV := Lib.hid hv8
              rw [hv8] at K3
              clear hv8
              have fz := fun j => hblk_frozen K3.out j
              have c0 : wr.cell? ⟨gv, 0, none⟩ = some (.int .u32 va) := hblk_cell K3.out 0 (by simp)
              have c1 : wr.cell? ⟨gv, 1, none⟩ = some (.int .u32 vb) := hblk_cell K3.out 1 (by simp)
              have c2 : wr.cell? ⟨gv, 2, none⟩ = some (.int .u32 vc) := hblk_cell K3.out 2 (by simp)
              have c3 : wr.cell? ⟨gv, 3, none⟩ = some (.int .u32 vd) := hblk_cell K3.out 3 (by simp)
              have c4 : wr.cell? ⟨gv, 4, none⟩ = some (.int .u32 ve) := hblk_cell K3.out 4 (by simp)
              have c5 : wr.cell? ⟨gv, 5, none⟩ = some (.int .u32 vf) := hblk_cell K3.out 5 (by simp)
              have c6 : wr.cell? ⟨gv, 6, none⟩ = some (.int .u32 vg) := hblk_cell K3.out 6 (by simp)
              have c7 : wr.cell? ⟨gv, 7, none⟩ = some (.int .u32 vi) := hblk_cell K3.out 7 (by simp)
              have cw := wblk_cell K2.out k hlt (by omega)
              have r5 := cell_regrown (w := wr.drew) c5; have r6 := cell_regrown (w := wr.drew) c6; have r7 := cell_regrown (w := wr.drew) c7; have rw := cell_regrown (w := wr.drew) cw
              have hS1 := bs1_bits he
              have hS0 := bs0_bits ha
              obtain ⟨kk, hkk⟩ : ∃ kk, kk = ks.getD k 0 := ⟨_, rfl⟩
              have hT := Lib.hid (rt_bits (k := kk) (w := f k) (h := vi) he hff hgg)
              have hMj := maj_bits ha hbb hc
              have R6 := Lib.hid fun w => rot_any ve 6 he (by omega) (by omega) w
              have R11 := Lib.hid fun w => rot_any ve 11 he (by omega) (by omega) w
              have R25 := Lib.hid fun w => rot_any ve 25 he (by omega) (by omega) w
              have R2 := Lib.hid fun w => rot_any va 2 ha (by omega) (by omega) w
              have R13 := Lib.hid fun w => rot_any va 13 ha (by omega) (by omega) w
              have R22 := Lib.hid fun w => rot_any va 22 ha (by omega) (by omega) w
              have HK := Lib.hid fun w => rkword_any k hlt w
              rw [← hkk] at HK
              have HKK := Lib.hid hkk
              clear hkk
              clear ha hbb hc hd he hff hgg hi
              go_wp2_with fail
              go_region
              all_goals
                go_wp2_with fail
                refine (R6.out _).mono ?_
                rintro e w1 ⟨rfl, rfl⟩
                go_wp2_with fail
                refine (R11.out _).mono ?_
                rintro e w1 ⟨rfl, rfl⟩
                go_wp2_with fail
                refine (R25.out _).mono ?_
                rintro e w1 ⟨rfl, rfl⟩
                go_wp2_with fail
                refine wp_region_quiet_below (by kernel_rfl) (by kernel_rfl) ?_
                repeat (go_big_quiet_step ((go_at_call 127; exact Calls.regrown_of (HK.out _))))
                refine wpQuiet_nil ?_
                intro w2 hw2
                have hb2 := below_of_regrown hw2
                rw [hT.out]
                have hb3 : Below wr.heap.size wr w2 := below_next (w := wr) (by repeat' (first | (with_reducible exact Below.refl _ _) | (with_reducible assumption) | (with_reducible refine below_alloc ?_ _) | (with_reducible refine Below.drew ?_) | (with_reducible refine below_drewN ?_ _) | (with_reducible refine Below.setCell ?_ ?_ _) | go_size)) hb2
                have K0' := Lib.hid (below_keep hb3 K0.out); have K1' := Lib.hid (below_keep hb3 K1.out); have K2' := Lib.hid (below_keep hb3 K2.out); have K3' := Lib.hid (below_keep hb3 K3.out)
                have B2 := below_next B hb3
                clear hw2 hb2 hb3 B K0 K1 K2 K3 c0 c1 c2 c3 c4 c5 c6 c7 cw r5 r6 r7 rw fz hT HK R6 R11 R25 hS1
                obtain ⟨tt, htt⟩ : ∃ tt, tt = rt kk (f k) ve vf vg vi := ⟨_, rfl⟩
                rw [← htt]
                have HTT := Lib.hid htt
                clear htt
                have fz := fun j => hblk_frozen K3'.out j
                have c0 : w2.cell? ⟨gv, 0, none⟩ = some (.int .u32 va) := hblk_cell K3'.out 0 (by simp)
                have c1 : w2.cell? ⟨gv, 1, none⟩ = some (.int .u32 vb) := hblk_cell K3'.out 1 (by simp)
                have c2 : w2.cell? ⟨gv, 2, none⟩ = some (.int .u32 vc) := hblk_cell K3'.out 2 (by simp)
                have c3 : w2.cell? ⟨gv, 3, none⟩ = some (.int .u32 vd) := hblk_cell K3'.out 3 (by simp)
                have c4 : w2.cell? ⟨gv, 4, none⟩ = some (.int .u32 ve) := hblk_cell K3'.out 4 (by simp)
                have c5 : w2.cell? ⟨gv, 5, none⟩ = some (.int .u32 vf) := hblk_cell K3'.out 5 (by simp)
                have c6 : w2.cell? ⟨gv, 6, none⟩ = some (.int .u32 vg) := hblk_cell K3'.out 6 (by simp)
                have hA : ((tt : Int) + (bs0 va : Nat) + (maj va vb vc : Nat)) % 4294967296 = ((add32 (add32 tt (bs0 va)) (maj va vb vc) : Nat) : Int) := by unfold add32; omega
                have hD : ((vd : Int) + (tt : Nat)) % 4294967296 = ((add32 vd tt : Nat) : Int) := by unfold add32; omega
                go_wp2_with fail
                refine (R2.out _).mono ?_
                rintro e w1 ⟨rfl, rfl⟩
                go_wp2_with fail
                refine (R13.out _).mono ?_
                rintro e w1 ⟨rfl, rfl⟩
                go_wp2_with fail
                refine (R22.out _).mono ?_
                rintro e w1 ⟨rfl, rfl⟩
                go_wp2_with (first | refine wpList_store_h rfl (.tmp 12) (.tmp 157) rfl gv [va, vb, vc, vd, ve, vf, vg, vi] [add32 (add32 tt (bs0 va)) (maj va vb vc), va, vb, vc, add32 vd tt, ve, vf, vg] rfl rfl rfl rfl K3'.out (fun w3 h1 h2 h3 h4 => ?_))
                have B3 := h4 w.heap.size w (by omega) B2
                go_roundg (64 - (k + 1))
                case measure => have := HG.out; omega
                case rel => exact ⟨k + 1, rfl, by omega, by go_num, (h2 _ (by omega)).trans K0'.out, (h2 _ (by omega)).trans K1'.out, (h2 _ (by omega)).trans K2'.out, by rw [h1, rds, HV.out, rnd1, ← HKK.out, ← HTT.out], B3⟩
            · obtain rfl : k = 64 := by omega
              clear hlt HG
              obtain ⟨v, hv⟩ : ∃ v, v = rds f h 64 := ⟨_, rfl⟩
              have HV : Hid (H8 v) := Lib.hid (by rw [hv]; exact H8.rds f HH.out 64)
              rw [← hv] at K3
              have HVV := Lib.hid hv
              clear hv K2
              go_wp2_with fail
              go_loopg [159] 8 (fun g ix wr => ∃ k : Nat, g = 8 - k ∧ k ≤ 8 ∧ ix = .int .i64 k ∧ wr.heap[w.heap.size]? = some (hblk (mixl h v k)) ∧ wr.heap[w.heap.size + 1]? = some zb8 ∧ wr.heap[gv]? = some (hblk v) ∧ Below w.heap.size w wr)
              case atStart => exact ⟨0, rfl, by omega, rfl, by rw [mixl_zero HH.out]; exact K0.out, K1.out, K3.out, B⟩
              case round =>
                clear K0 K1 K3 B
                obtain ⟨k, hg, hk, rfl, hr0, hr1, hr3, B⟩ := hrel
                have HG := Lib.hid hg; have K0 := Lib.hid hr0; have K1 := Lib.hid hr1; have K3 := Lib.hid hr3
                clear hg hr0 hr1 hr3
                by_cases hlt : k < 8
                · have c0 := hblk_cell K0.out k (by rw [mixl_len]; exact hlt)
                  rw [mixl_get h v k k hlt (Nat.le_refl _)] at c0
                  have c1 := hblk_cell K3.out k (by rw [HV.out.1]; exact hlt)
                  have f0 := fun j => hblk_frozen K0.out j
                  have f1 := fun j => hblk_frozen K3.out j
                  have hset := Lib.hid (mixl_set (v := v) hlt K0.out)
                  obtain ⟨x, hx⟩ : ∃ x, x = h.getD k 0 := ⟨_, rfl⟩
                  obtain ⟨y, hy⟩ : ∃ y, y = v.getD k 0 := ⟨_, rfl⟩
                  rw [← hx] at c0 hset
                  rw [← hy] at c1 hset
                  clear hx hy
                  have hA : ((x : Int) + (y : Nat)) % 4294967296 = ((add32 x y : Nat) : Int) := by unfold add32; omega
                  have hne : ¬ gv = w.heap.size := by omega
                  have hne2 : ¬ w.heap.size = gv := by omega
                  go_wp2_with fail
                  go_region
                  all_goals
                    go_wp2_with fail
                    go_roundg (8 - (k + 1))
                    case measure => have := HG.out; omega
                    case rel => exact ⟨k + 1, rfl, by omega, by go_num, hset.out, (heap_setCell_other _ _ _ _ (show w.heap.size + 1 ≠ w.heap.size by omega)).trans K1.out, (heap_setCell_other _ _ _ _ (show gv ≠ w.heap.size by omega)).trans K3.out, (by repeat' (first | (with_reducible exact Below.refl _ _) | (with_reducible assumption) | (with_reducible refine below_alloc ?_ _) | (with_reducible refine Below.drew ?_) | (with_reducible refine below_drewN ?_ _) | (with_reducible refine Below.setCell ?_ ?_ _) | go_size))⟩
                · obtain rfl : k = 8 := by omega
                  have he : mixl h v 8 = gon (mw b) h := by
                    rw [mixl_all HH.out HV.out, HVV.out, HF.out]; rfl
                  rw [he] at K0
                  have hl : (gon (mw b) h).length = 8 := (H8.gon HH.out).1
                  clear hlt HG he
                  go_wp2_with (first | refine wpList_load_h rfl (.tmp 2) rfl w.heap.size (gon (mw b) h) rfl hl K0.out ?_ | refine wpList_store_h rfl (.tmp 4) (.tmp 171) rfl (w.heap.size + 1) zb8l (gon (mw b) h) rfl rfl rfl hl K1.out (fun w3 h1 h2 h3 h4 => ?_))
                  have hlv := loadVar_h hl h1
                  exact bodyPost_ret (v := hv (gon (mw b) h)) (by simp [results, Try.results98, Act.put, asAddr, hlv]) rfl ⟨rfl, h4 _ _ (by omega) B⟩
end Go.Proofs.Ytnbppbnjkmopeaa
