/- Nums: whole numbers as Go's operators leave them, in plain numbers: wraps that do nothing, bit operators on natural numbers. No condition. -/
import Derived.Laws.BitsLemmas
import Derived.Laws.Entries
namespace Go.Sx
open Go

theorem pow_le_of {a b : Nat} (h : a ≤ b) : 2 ^ a ≤ 2 ^ b := Nat.pow_le_pow_right (by decide) h
theorem wr64 {n : Int} (h : -9223372036854775808 ≤ n) (h' : n ≤ 9223372036854775807) : IntKind.wrap .i64 n = n := by rw [IntKind.wrap_i64]; omega
theorem wr8 {n : Int} (h : 0 ≤ n) (h' : n ≤ 255) : IntKind.wrap .u8 n = n := by
  have : IntKind.wrap .u8 n = n % 256 := by simp [IntKind.wrap, IntKind.bits, IntKind.signed]
  rw [this]; omega

theorem ofInt_nat (n a : Nat) (h : a < 2 ^ n) : (BitVec.ofInt n (a : Int)).toNat = a := by
  simp
  exact Nat.mod_eq_of_lt h

theorem bits_and_nat {k : IntKind} {a b : Nat} (ha : a < 2 ^ k.bits) (hb : b < 2 ^ k.bits) : Go.bits .and k a b = k.wrap ((a &&& b : Nat) : Int) := by
  simp only [Go.bits, BitVec.toNat_and, ofInt_nat _ _ ha, ofInt_nat _ _ hb]
theorem bits_or_nat {k : IntKind} {a b : Nat} (ha : a < 2 ^ k.bits) (hb : b < 2 ^ k.bits) : Go.bits .or k a b = k.wrap ((a ||| b : Nat) : Int) := by
  simp only [Go.bits, BitVec.toNat_or, ofInt_nat _ _ ha, ofInt_nat _ _ hb]
theorem bits_xor_nat {k : IntKind} {a b : Nat} (ha : a < 2 ^ k.bits) (hb : b < 2 ^ k.bits) : Go.bits .xor k a b = k.wrap ((a ^^^ b : Nat) : Int) := by
  simp only [Go.bits, BitVec.toNat_xor, ofInt_nat _ _ ha, ofInt_nat _ _ hb]

theorem fdiv_pow (v m : Nat) : Int.fdiv (v : Int) (2 ^ m) = ((v >>> m : Nat) : Int) := by
  have h : ((2 : Int) ^ m) = ((2 ^ m : Nat) : Int) := by simp
  rw [h, Int.fdiv_eq_ediv_of_nonneg _ (Int.natCast_nonneg _), Nat.shiftRight_eq_div_pow]
  simp

theorem and_mask (v k : Nat) : v &&& (2 ^ k - 1) = v % 2 ^ k := by
  rw [Nat.and_two_pow_sub_one_eq_mod]

/-- one bit of a byte, as the program takes it -/
theorem bit_out {x : Nat} (hx : x < 256) {s : Nat} : Go.bits .and .u8 (Int.fdiv (x : Int) (2 ^ s)) (1 : Int) = ((x.testBit s).toNat : Int) := by
  rw [fdiv_pow]
  have h1 : x >>> s < 2 ^ IntKind.u8.bits := by
    have : x >>> s ≤ x := Nat.shiftRight_le x s
    simp [IntKind.bits]; omega
  have := bits_and_nat (k := .u8) (a := x >>> s) (b := 1) h1 (by simp [IntKind.bits])
  rw [show ((1 : Nat) : Int) = (1 : Int) from rfl] at this
  rw [this]
  have h2 : x >>> s &&& 1 = (x.testBit s).toNat := by
    rw [Nat.and_one_is_mod, Nat.testBit_eq_decide_div_mod_eq, Nat.shiftRight_eq_div_pow]
    rcases Nat.mod_two_eq_zero_or_one (x / 2 ^ s) with h | h <;> simp [h]
  rw [h2, wr8 (by omega)]
  cases x.testBit s <;> decide

theorem or_low (v : Nat) (b : Bool) : 2 * v ||| b.toNat = 2 * v + b.toNat := by
  have := Nat.two_pow_add_eq_or_of_lt (i := 1) (b := b.toNat) (by cases b <;> decide) v
  simpa using this.symm
theorem bit64 {v : Nat} (hv : v < 2 ^ 63) (i : Nat) : Go.bits .and .i64 (Int.fdiv (v : Int) (2 ^ i)) (1 : Int) = ((v.testBit i).toNat : Int) := by
  rw [fdiv_pow]
  have h63 : (2 : Nat) ^ 63 = 9223372036854775808 := by decide
  have h1 : v >>> i < 2 ^ IntKind.i64.bits := by
    have : v >>> i ≤ v := Nat.shiftRight_le v i
    simp only [IntKind.bits]
    omega
  have := bits_and_nat (k := .i64) (a := v >>> i) (b := 1) h1 (by simp [IntKind.bits])
  rw [show ((1 : Nat) : Int) = (1 : Int) from rfl] at this
  rw [this]
  have h2 : v >>> i &&& 1 = (v.testBit i).toNat := by
    rw [Nat.and_one_is_mod, Nat.testBit_eq_decide_div_mod_eq, Nat.shiftRight_eq_div_pow]
    rcases Nat.mod_two_eq_zero_or_one (v / 2 ^ i) with h | h <;> simp [h]
  rw [h2]
  cases v.testBit i <;> decide

theorem xor_byte {x : Nat} (hx : x < 256) : Go.bits .xor .u8 (x : Int) 255 = ((x ^^^ 255 : Nat) : Int) ∧ x ^^^ 255 < 256 ∧ (x ^^^ 255) ^^^ 255 = x := by
  have h : x ^^^ 255 < 2 ^ 8 := Nat.xor_lt_two_pow (by omega) (by decide)
  have := bits_xor_nat (k := .u8) (a := x) (b := 255) (by simp only [IntKind.bits]; omega) (by simp [IntKind.bits])
  rw [show ((255 : Nat) : Int) = (255 : Int) from rfl] at this
  refine ⟨by rw [this, wr8 (by omega) (by omega)], by omega, ?_⟩
  rw [Nat.xor_assoc, Nat.xor_self, Nat.xor_zero]

/-- a byte with one bit more -/
theorem or_bit {x k : Nat} (hx : x < 256) (hk : k ≤ 7) : Go.bits .or .u8 (x : Int) (IntKind.wrap .u8 ((1 : Int) * 2 ^ (min (Int.toNat (k : Int)) 8))) = ((x ||| 2 ^ k : Nat) : Int) ∧ x ||| 2 ^ k < 256 := by
  have hm : min (Int.toNat (k : Int)) 8 = k := by rw [Int.toNat_natCast]; omega
  have hp : 2 ^ k ≤ 2 ^ 7 := pow_le_of hk
  have h7 : (2 : Nat) ^ 7 = 128 := by decide
  have hp0 : 0 < 2 ^ k := Nat.two_pow_pos k
  have e1 : ((1 : Int) * 2 ^ k) = ((2 ^ k : Nat) : Int) := by simp
  have hlt : x ||| 2 ^ k < 2 ^ 8 := Nat.or_lt_two_pow (by omega) (by omega)
  rw [hm, e1, wr8 (n := ((2 ^ k : Nat) : Int)) (by omega) (by omega), bits_or_nat (by simp only [IntKind.bits]; omega) (by simp only [IntKind.bits]; omega)]
  exact ⟨wr8 (by omega) (by omega), by omega⟩

theorem tdiv_nat (a b : Nat) : Int.tdiv (a : Int) (b : Int) = ((a / b : Nat) : Int) := rfl
theorem tmod_nat (a b : Nat) : Int.tmod (a : Int) (b : Int) = ((a % b : Nat) : Int) := rfl
theorem tdiv8 (a : Nat) : Int.tdiv (a : Int) (8 : Int) = ((a / 8 : Nat) : Int) := rfl
theorem tmod8 (a : Nat) : Int.tmod (a : Int) (8 : Int) = ((a % 8 : Nat) : Int) := rfl


/-- the last bits of a byte -/
theorem low_u8 {x n : Nat} (hx : x < 256) (hn : n ≤ 7) : Go.bits .and .u8 (x : Int) (IntKind.wrap .u8 ((IntKind.wrap .u8 ((1 : Int) * 2 ^ (min (Int.toNat (n : Int)) 8))) - (1 : Int))) = ((x % 2 ^ n : Nat) : Int) := by
  have hm : min (Int.toNat (n : Int)) 8 = n := by rw [Int.toNat_natCast]; omega
  have hp : 2 ^ n ≤ 2 ^ 7 := pow_le_of hn
  have hp0 : 0 < 2 ^ n := Nat.two_pow_pos n
  have h7 : (2 : Nat) ^ 7 = 128 := by decide
  have e1 : ((1 : Int) * 2 ^ n) = ((2 ^ n : Nat) : Int) := by simp
  have e2 : ((2 ^ n : Nat) : Int) - 1 = ((2 ^ n - 1 : Nat) : Int) := by omega
  rw [hm, e1, wr8 (n := ((2 ^ n : Nat) : Int)) (by omega) (by omega), e2, wr8 (n := ((2 ^ n - 1 : Nat) : Int)) (by omega) (by omega)]
  rw [bits_and_nat (by simp [IntKind.bits]; omega) (by simp [IntKind.bits]; omega), and_mask]
  have : x % 2 ^ n < 2 ^ n := Nat.mod_lt _ hp0
  exact wr8 (by omega) (by omega)

/-- the byte that a round of bits gives -/
theorem put_byte {x v m k free : Nat} (hx : x < 256) (hv : v < 2 ^ 63) (hk : k ≤ free) (hf : free ≤ 8) (hkm : k ≤ m) (hm : m ≤ 63) :
    Go.bits .or .u8 (x : Int) (IntKind.wrap .u8 ((IntKind.wrap .u8 (Go.bits .and .i64 (Int.fdiv (v : Int) (2 ^ (min (Int.toNat ((m - k : Nat) : Int)) 64))) (IntKind.wrap .i64 ((IntKind.wrap .i64 ((1 : Int) * 2 ^ (min (Int.toNat (k : Int)) 64))) - (1 : Int))))) * 2 ^ (min (Int.toNat ((free - k : Nat) : Int)) 8))) =
      ((x ||| (((v >>> (m - k)) &&& (2 ^ k - 1)) <<< (free - k)) : Nat) : Int) := by
  have h1 : min (Int.toNat ((m - k : Nat) : Int)) 64 = m - k := by rw [Int.toNat_natCast]; omega
  have h2 : min (Int.toNat (k : Int)) 64 = k := by rw [Int.toNat_natCast]; omega
  have h3 : min (Int.toNat ((free - k : Nat) : Int)) 8 = free - k := by rw [Int.toNat_natCast]; omega
  have hp : 2 ^ k ≤ 2 ^ 8 := pow_le_of (by omega)
  have hp0 : 0 < 2 ^ k := Nat.two_pow_pos k
  have h8 : (2 : Nat) ^ 8 = 256 := by decide
  have h63 : (2 : Nat) ^ 63 = 9223372036854775808 := by decide
  have h64 : (2 : Nat) ^ 64 = 18446744073709551616 := by decide
  have hs : v >>> (m - k) ≤ v := Nat.shiftRight_le v _
  have e1 : ((1 : Int) * 2 ^ k) = ((2 ^ k : Nat) : Int) := by simp
  have e2 : ((2 ^ k : Nat) : Int) - 1 = ((2 ^ k - 1 : Nat) : Int) := by omega
  rw [h1, h2, h3, fdiv_pow, e1, wr64 (n := ((2 ^ k : Nat) : Int)) (by omega) (by omega), e2, wr64 (n := ((2 ^ k - 1 : Nat) : Int)) (by omega) (by omega)]
  rw [bits_and_nat (k := .i64) (by simp only [IntKind.bits]; omega) (by simp only [IntKind.bits]; omega)]
  have hy : v >>> (m - k) &&& (2 ^ k - 1) < 2 ^ k := by rw [and_mask]; exact Nat.mod_lt _ hp0
  generalize v >>> (m - k) &&& (2 ^ k - 1) = y at hy
  rw [wr64 (n := (y : Int)) (by omega) (by omega), wr8 (n := (y : Int)) (by omega) (by omega)]
  have e3 : ((y : Int) * 2 ^ (free - k)) = ((y <<< (free - k) : Nat) : Int) := by rw [Nat.shiftLeft_eq]; simp
  have hz : y <<< (free - k) < 2 ^ 8 := by
    rw [Nat.shiftLeft_eq]
    calc y * 2 ^ (free - k) < 2 ^ k * 2 ^ (free - k) := Nat.mul_lt_mul_of_pos_right hy (Nat.two_pow_pos _)
      _ = 2 ^ (k + (free - k)) := (Nat.pow_add 2 k (free - k)).symm
      _ ≤ 2 ^ 8 := pow_le_of (by omega)
  rw [e3]
  generalize y <<< (free - k) = z at hz
  rw [wr8 (n := (z : Int)) (by omega) (by omega), bits_or_nat (k := .u8) (by simp only [IntKind.bits]; omega) (by simp only [IntKind.bits]; omega)]
  have : x ||| z < 2 ^ 8 := Nat.or_lt_two_pow (by omega) hz
  rw [wr8 (by omega) (by omega)]
end Go.Sx
