/- Nums: whole numbers as Go's operators leave them, in plain numbers: wraps that do nothing, bit operators on natural numbers. No condition. -/
import Derived.Laws.BitsLemmas
import Derived.Laws.Entries
import Derived.Test.YtamobmjfdiecbaaMgWorldPlays2
import Derived.Test.YtamobmjfdiecbaaMgWorldPlays1
import Ieee.Arith
import Derived.Laws.Externs
import Derived.Laws.CopyRow
import Derived.Shelf.SlIterI.Nil
import Derived.Shelf.SortM.Plain
import Derived.Shelf.SortM.SortNone
import Derived.Ground.GgzProg
import Derived.Ground.SlgmProg
import Derived.Test.YtamobmjfdiecbaaChecked
namespace Go.Sx
open Go

theorem pow_le_of {a b : Nat} (h : a ≤ b) : 2 ^ a ≤ 2 ^ b := Nat.pow_le_pow_right (by decide) h
theorem wr64 {n : Int} (h : -9223372036854775808 ≤ n) (h' : n ≤ 9223372036854775807) : IntKind.wrap .i64 n = n := by rw [IntKind.wrap_i64]; omega
theorem wr8 {n : Int} (h : 0 ≤ n) (h' : n ≤ 255) : IntKind.wrap .u8 n = n := by
  have : IntKind.wrap .u8 n = n % 256 := by simp [IntKind.wrap, IntKind.bits, IntKind.signed]
  rw [this]; omega

theorem ofInt_nat (n a : Nat) (h : a < 2 ^ n) : (BitVec.ofInt n (a : Int)).toNat = a := by
  simp
  exact Nat.mod_eq_of_lt h

theorem bits_and_nat {k : IntKind} {a b : Nat} (ha : a < 2 ^ k.bits) (hb : b < 2 ^ k.bits) : Go.bits .and k a b = k.wrap ((a &&& b : Nat) : Int) := by
  simp only [Go.bits, BitVec.toNat_and, ofInt_nat _ _ ha, ofInt_nat _ _ hb]
theorem bits_or_nat {k : IntKind} {a b : Nat} (ha : a < 2 ^ k.bits) (hb : b < 2 ^ k.bits) : Go.bits .or k a b = k.wrap ((a ||| b : Nat) : Int) := by
  simp only [Go.bits, BitVec.toNat_or, ofInt_nat _ _ ha, ofInt_nat _ _ hb]
theorem bits_xor_nat {k : IntKind} {a b : Nat} (ha : a < 2 ^ k.bits) (hb : b < 2 ^ k.bits) : Go.bits .xor k a b = k.wrap ((a ^^^ b : Nat) : Int) := by
  simp only [Go.bits, BitVec.toNat_xor, ofInt_nat _ _ ha, ofInt_nat _ _ hb]

theorem fdiv_pow (v m : Nat) : Int.fdiv (v : Int) (2 ^ m) = ((v >>> m : Nat) : Int) := by
  have h : ((2 : Int) ^ m) = ((2 ^ m : Nat) : Int) := by simp
  rw [h, Int.fdiv_eq_ediv_of_nonneg _ (Int.natCast_nonneg _), Nat.shiftRight_eq_div_pow]
  simp

theorem and_mask (v k : Nat) : v &&& (2 ^ k - 1) = v % 2 ^ k := by
  rw [Nat.and_two_pow_sub_one_eq_mod]

/-- one bit of a byte, as the program takes it -/
theorem bit_out {x : Nat} (hx : x < 256) {s : Nat} : Go.bits .and .u8 (Int.fdiv (x : Int) (2 ^ s)) (1 : Int) = ((x.testBit s).toNat : Int) := by
  rw [fdiv_pow]
  have h1 : x >>> s < 2 ^ IntKind.u8.bits := by
    have : x >>> s ≤ x := Nat.shiftRight_le x s
    simp [IntKind.bits]; omega
  have := bits_and_nat (k := .u8) (a := x >>> s) (b := 1) h1 (by simp [IntKind.bits])
  rw [show ((1 : Nat) : Int) = (1 : Int) from rfl] at this
  rw [this]
  have h2 : x >>> s &&& 1 = (x.testBit s).toNat := by
    rw [Nat.and_one_is_mod, Nat.testBit_eq_decide_div_mod_eq, Nat.shiftRight_eq_div_pow]
    rcases Nat.mod_two_eq_zero_or_one (x / 2 ^ s) with h | h <;> simp [h]
  rw [h2, wr8 (by omega)]
  cases x.testBit s <;> decide

theorem or_low (v : Nat) (b : Bool) : 2 * v ||| b.toNat = 2 * v + b.toNat := by
  have := Nat.two_pow_add_eq_or_of_lt (i := 1) (b := b.toNat) (by cases b <;> decide) v
  simpa using this.symm
theorem bit64 {v : Nat} (hv : v < 2 ^ 63) (i : Nat) : Go.bits .and .i64 (Int.fdiv (v : Int) (2 ^ i)) (1 : Int) = ((v.testBit i).toNat : Int) := by
  rw [fdiv_pow]
  have h63 : (2 : Nat) ^ 63 = 9223372036854775808 := by decide
  have h1 : v >>> i < 2 ^ IntKind.i64.bits := by
    have : v >>> i ≤ v := Nat.shiftRight_le v i
    simp only [IntKind.bits]
    omega
  have := bits_and_nat (k := .i64) (a := v >>> i) (b := 1) h1 (by simp [IntKind.bits])
  rw [show ((1 : Nat) : Int) = (1 : Int) from rfl] at this
  rw [this]
  have h2 : v >>> i &&& 1 = (v.testBit i).toNat := by
    rw [Nat.and_one_is_mod, Nat.testBit_eq_decide_div_mod_eq, Nat.shiftRight_eq_div_pow]
    rcases Nat.mod_two_eq_zero_or_one (v / 2 ^ i) with h | h <;> simp [h]
  rw [h2]
  cases v.testBit i <;> decide

theorem xor_byte {x : Nat} (hx : x < 256) : Go.bits .xor .u8 (x : Int) 255 = ((x ^^^ 255 : Nat) : Int) ∧ x ^^^ 255 < 256 ∧ (x ^^^ 255) ^^^ 255 = x := by
  have h : x ^^^ 255 < 2 ^ 8 := Nat.xor_lt_two_pow (by omega) (by decide)
  have := bits_xor_nat (k := .u8) (a := x) (b := 255) (by simp only [IntKind.bits]; omega) (by simp [IntKind.bits])
  rw [show ((255 : Nat) : Int) = (255 : Int) from rfl] at this
  refine ⟨by rw [this, wr8 (by omega) (by omega)], by omega, ?_⟩
  rw [Nat.xor_assoc, Nat.xor_self, Nat.xor_zero]

/-- a byte with one bit more -/
theorem or_bit {x k : Nat} (hx : x < 256) (hk : k ≤ 7) : Go.bits .or .u8 (x : Int) (IntKind.wrap .u8 ((1 : Int) * 2 ^ (min (Int.toNat (k : Int)) 8))) = ((x ||| 2 ^ k : Nat) : Int) ∧ x ||| 2 ^ k < 256 := by
  have hm : min (Int.toNat (k : Int)) 8 = k := by rw [Int.toNat_natCast]; omega
  have hp : 2 ^ k ≤ 2 ^ 7 := pow_le_of hk
  have h7 : (2 : Nat) ^ 7 = 128 := by decide
  have hp0 : 0 < 2 ^ k := Nat.two_pow_pos k
  have e1 : ((1 : Int) * 2 ^ k) = ((2 ^ k : Nat) : Int) := by simp
  have hlt : x ||| 2 ^ k < 2 ^ 8 := Nat.or_lt_two_pow (by omega) (by omega)
  rw [hm, e1, wr8 (n := ((2 ^ k : Nat) : Int)) (by omega) (by omega), bits_or_nat (by simp only [IntKind.bits]; omega) (by simp only [IntKind.bits]; omega)]
  exact ⟨wr8 (by omega) (by omega), by omega⟩

theorem tdiv_nat (a b : Nat) : Int.tdiv (a : Int) (b : Int) = ((a / b : Nat) : Int) := rfl
theorem tmod_nat (a b : Nat) : Int.tmod (a : Int) (b : Int) = ((a % b : Nat) : Int) := rfl
theorem tdiv8 (a : Nat) : Int.tdiv (a : Int) (8 : Int) = ((a / 8 : Nat) : Int) := rfl
theorem tmod8 (a : Nat) : Int.tmod (a : Int) (8 : Int) = ((a % 8 : Nat) : Int) := rfl


/-- the last bits of a byte -/
theorem low_u8 {x n : Nat} (hx : x < 256) (hn : n ≤ 7) : Go.bits .and .u8 (x : Int) (IntKind.wrap .u8 ((IntKind.wrap .u8 ((1 : Int) * 2 ^ (min (Int.toNat (n : Int)) 8))) - (1 : Int))) = ((x % 2 ^ n : Nat) : Int) := by
  have hm : min (Int.toNat (n : Int)) 8 = n := by rw [Int.toNat_natCast]; omega
  have hp : 2 ^ n ≤ 2 ^ 7 := pow_le_of hn
  have hp0 : 0 < 2 ^ n := Nat.two_pow_pos n
  have h7 : (2 : Nat) ^ 7 = 128 := by decide
  have e1 : ((1 : Int) * 2 ^ n) = ((2 ^ n : Nat) : Int) := by simp
  have e2 : ((2 ^ n : Nat) : Int) - 1 = ((2 ^ n - 1 : Nat) : Int) := by omega
  rw [hm, e1, wr8 (n := ((2 ^ n : Nat) : Int)) (by omega) (by omega), e2, wr8 (n := ((2 ^ n - 1 : Nat) : Int)) (by omega) (by omega)]
  rw [bits_and_nat (by simp [IntKind.bits]; omega) (by simp [IntKind.bits]; omega), and_mask]
  have : x % 2 ^ n < 2 ^ n := Nat.mod_lt _ hp0
  exact wr8 (by omega) (by omega)

/-- the byte that a round of bits gives -/
theorem put_byte {x v m k free : Nat} (hx : x < 256) (hv : v < 2 ^ 63) (hk : k ≤ free) (hf : free ≤ 8) (hkm : k ≤ m) (hm : m ≤ 63) :
    Go.bits .or .u8 (x : Int) (IntKind.wrap .u8 ((IntKind.wrap .u8 (Go.bits .and .i64 (Int.fdiv (v : Int) (2 ^ (min (Int.toNat ((m - k : Nat) : Int)) 64))) (IntKind.wrap .i64 ((IntKind.wrap .i64 ((1 : Int) * 2 ^ (min (Int.toNat (k : Int)) 64))) - (1 : Int))))) * 2 ^ (min (Int.toNat ((free - k : Nat) : Int)) 8))) =
      ((x ||| (((v >>> (m - k)) &&& (2 ^ k - 1)) <<< (free - k)) : Nat) : Int) := by
  have h1 : min (Int.toNat ((m - k : Nat) : Int)) 64 = m - k := by rw [Int.toNat_natCast]; omega
  have h2 : min (Int.toNat (k : Int)) 64 = k := by rw [Int.toNat_natCast]; omega
  have h3 : min (Int.toNat ((free - k : Nat) : Int)) 8 = free - k := by rw [Int.toNat_natCast]; omega
  have hp : 2 ^ k ≤ 2 ^ 8 := pow_le_of (by omega)
  have hp0 : 0 < 2 ^ k := Nat.two_pow_pos k
  have h8 : (2 : Nat) ^ 8 = 256 := by decide
  have h63 : (2 : Nat) ^ 63 = 9223372036854775808 := by decide
  have h64 : (2 : Nat) ^ 64 = 18446744073709551616 := by decide
  have hs : v >>> (m - k) ≤ v := Nat.shiftRight_le v _
  have e1 : ((1 : Int) * 2 ^ k) = ((2 ^ k : Nat) : Int) := by simp
  have e2 : ((2 ^ k : Nat) : Int) - 1 = ((2 ^ k - 1 : Nat) : Int) := by omega
  rw [h1, h2, h3, fdiv_pow, e1, wr64 (n := ((2 ^ k : Nat) : Int)) (by omega) (by omega), e2, wr64 (n := ((2 ^ k - 1 : Nat) : Int)) (by omega) (by omega)]
  rw [bits_and_nat (k := .i64) (by simp only [IntKind.bits]; omega) (by simp only [IntKind.bits]; omega)]
  have hy : v >>> (m - k) &&& (2 ^ k - 1) < 2 ^ k := by rw [and_mask]; exact Nat.mod_lt _ hp0
  generalize v >>> (m - k) &&& (2 ^ k - 1) = y at hy
  rw [wr64 (n := (y : Int)) (by omega) (by omega), wr8 (n := (y : Int)) (by omega) (by omega)]
  have e3 : ((y : Int) * 2 ^ (free - k)) = ((y <<< (free - k) : Nat) : Int) := by rw [Nat.shiftLeft_eq]; simp
  have hz : y <<< (free - k) < 2 ^ 8 := by
    rw [Nat.shiftLeft_eq]
    calc y * 2 ^ (free - k) < 2 ^ k * 2 ^ (free - k) := Nat.mul_lt_mul_of_pos_right hy (Nat.two_pow_pos _)
      _ = 2 ^ (k + (free - k)) := (Nat.pow_add 2 k (free - k)).symm
      _ ≤ 2 ^ 8 := pow_le_of (by omega)
  rw [e3]
  generalize y <<< (free - k) = z at hz
  rw [wr8 (n := (z : Int)) (by omega) (by omega), bits_or_nat (k := .u8) (by simp only [IntKind.bits]; omega) (by simp only [IntKind.bits]; omega)]
  have : x ||| z < 2 ^ 8 := Nat.or_lt_two_pow (by omega) hz
  rw [wr8 (by omega) (by omega)]
end Go.Sx

/- Bo: what the functions of package box and of the document's answer do, told as contracts: parts, gaps, meeting. Conditions: those of each theorem, on its arguments. -/
namespace Go.Proofs.Ytamobmjfdiecbaa
open Go Go.Sx
attribute [local irreducible] jn lv ld st nw asI asB asP asS asY asM asF asA asT lp rn ru rq cl dw dr bnd bn2 nz nn hd hr so eqW

structure Bx where
  x : Int
  y : Int
  r : Int

def Bx.cells (b : Bx) : List Value := [.int .i64 b.x, .int .i64 b.y, .int .i64 b.r]
def Bx.v (b : Bx) : Value := .agg b.cells.toArray
def vv (x y : Int) : Value := .agg #[.int .i64 x, .int .i64 y]

def within (n : Int) : Bool := decide (-1152921504606846976 ≤ n) && decide (n ≤ 1152921504606846976)
def Bx.right (b : Bx) : Bool := within b.x && within b.y && decide (1 ≤ b.r) && decide (b.r ≤ 1099511627776)
def Bx.rightE (b : Bx) : Int := if b.right then 0 else 60
def Bx.at (b : Bx) (k : Bool) : Int := if k then b.y else b.x
def adiff (p q : Int) : Int := if q - p > p - q then q - p else p - q
def gap (a b : Bx) (k : Bool) : Int := adiff (a.at k) (b.at k) - a.r - b.r

theorem within_iff {n : Int} : within n = true ↔ -1152921504606846976 ≤ n ∧ n ≤ 1152921504606846976 := by simp [within]
theorem right_iff {b : Bx} : b.right = true ↔ (-1152921504606846976 ≤ b.x ∧ b.x ≤ 1152921504606846976) ∧ (-1152921504606846976 ≤ b.y ∧ b.y ≤ 1152921504606846976) ∧ 1 ≤ b.r ∧ b.r ≤ 1099511627776 := by
  simp [Bx.right, within, and_assoc]

theorem within_k {n : Int} {w : World} {K : Value → World → Prop} (hK : K (.bool (within n)) w) : cl Try.prog 61 #[.int .i64 n] w K := by
  apply F61_calls
  unfold F61
  refine jn_mk (cond_split (fun h => asB_i rfl ?_) (fun h => asB_i rfl ?_))
  · have : within n = decide (n ≤ 1152921504606846976) := by unfold within; rw [h]; rfl
    rw [← this]; exact hK
  · have : within n = false := by unfold within; rw [h]; rfl
    rw [← this]; exact hK

theorem rwithin_k {n : Int} {w : World} {K : Value → World → Prop} (hK : K (.bool (within n)) w) : cl Try.prog 71 #[.int .i64 n] w K := by
  apply F71_calls
  unfold F71
  refine jn_mk (cond_split (fun h => asB_i rfl ?_) (fun h => asB_i rfl ?_))
  · have : within n = decide (n ≤ 1152921504606846976) := by unfold within; rw [show decide (-1152921504606846976 ≤ n) = true from h]; rfl
    rw [← this]; exact hK
  · have : within n = false := by unfold within; rw [show decide (-1152921504606846976 ≤ n) = false from h]; rfl
    rw [← this]; exact hK

theorem right_k {b : Bx} {w : World} {K : Value → World → Prop} (hK : ∀ w', Ext no w w' → K (.int .i64 b.rightE) w') : cl Try.prog 38 #[b.v] w K := by
  apply F38_calls
  unfold F38
  have hS := St.start w
  repeat (first | (refine asI_i rfl ?_) | (refine asB_i rfl ?_) | (refine asP_i rfl ?_) | (refine asS_i rfl ?_) | (refine asY_i rfl ?_) | (refine asM_i rfl ?_) | (refine asA_i rfl rfl ?_) | (refine asT_i rfl rfl ?_) | (refine lv_i ?_) | (refine St.nw hS ?_; clear hS; intro _ _ hS) | (refine St.dw hS ?_; clear hS; intro _ hS _) | (refine hS.ld0 0 rfl rfl ?_) | (refine hS.ld 0 rfl rfl ?_) | (refine hS.ld0 1 rfl rfl ?_) | (refine hS.ld 1 rfl rfl ?_) | (refine hS.ld0 2 rfl rfl ?_) | (refine hS.ld 2 rfl rfl ?_) | (refine hS.ld0 3 rfl rfl ?_) | (refine hS.ld 3 rfl rfl ?_) | (refine hS.ld0 4 rfl rfl ?_) | (refine hS.ld 4 rfl rfl ?_) | (refine hS.ld0 5 rfl rfl ?_) | (refine hS.ld 5 rfl rfl ?_) | (refine hS.ld0 6 rfl rfl ?_) | (refine hS.ld 6 rfl rfl ?_) | (refine hS.ld0 7 rfl rfl ?_) | (refine hS.ld 7 rfl rfl ?_) | (refine hS.hd0 0 rfl rfl ?_) | (refine hS.hd 0 rfl rfl ?_) | (refine hS.hd0 1 rfl rfl ?_) | (refine hS.hd 1 rfl rfl ?_) | (refine hS.hd0 2 rfl rfl ?_) | (refine hS.hd 2 rfl rfl ?_) | (refine hS.hd0 3 rfl rfl ?_) | (refine hS.hd 3 rfl rfl ?_) | (refine hS.hd0 4 rfl rfl ?_) | (refine hS.hd 4 rfl rfl ?_) | (refine hS.hd0 5 rfl rfl ?_) | (refine hS.hd 5 rfl rfl ?_) | (refine hS.hd0 6 rfl rfl ?_) | (refine hS.hd 6 rfl rfl ?_) | (refine hS.hd0 7 rfl rfl ?_) | (refine hS.hd 7 rfl rfl ?_) | (refine hS.st0 0 rfl rfl rfl ?_; clear hS; intro _ hS) | (refine hS.st 0 rfl rfl rfl ?_; clear hS; intro _ hS) | (refine hS.st0 1 rfl rfl rfl ?_; clear hS; intro _ hS) | (refine hS.st 1 rfl rfl rfl ?_; clear hS; intro _ hS) | (refine hS.st0 2 rfl rfl rfl ?_; clear hS; intro _ hS) | (refine hS.st 2 rfl rfl rfl ?_; clear hS; intro _ hS) | (refine hS.st0 3 rfl rfl rfl ?_; clear hS; intro _ hS) | (refine hS.st 3 rfl rfl rfl ?_; clear hS; intro _ hS) | (refine hS.st0 4 rfl rfl rfl ?_; clear hS; intro _ hS) | (refine hS.st 4 rfl rfl rfl ?_; clear hS; intro _ hS) | (refine hS.st0 5 rfl rfl rfl ?_; clear hS; intro _ hS) | (refine hS.st 5 rfl rfl rfl ?_; clear hS; intro _ hS) | (refine hS.st0 6 rfl rfl rfl ?_; clear hS; intro _ hS) | (refine hS.st 6 rfl rfl rfl ?_; clear hS; intro _ hS) | (refine hS.st0 7 rfl rfl rfl ?_; clear hS; intro _ hS) | (refine hS.st 7 rfl rfl rfl ?_; clear hS; intro _ hS) | (refine bnd_mk (by decide) (by decide) ?_) | (refine so_i rfl ?_))
  refine jn_of (fun s w' => s = [.bool (!b.right)] ∧ Ext no w w') ?_ ?_
  · rintro _ w' ⟨rfl, hx⟩
    refine asB_i rfl (cond_split (fun h => lv_i ?_) (fun h => lv_i ?_))
    · have : b.rightE = 60 := by simp only [Bx.rightE]; rw [if_neg (by simpa using h)]
      rw [← this]; exact hK w' hx
    · have : b.rightE = 0 := by simp only [Bx.rightE]; rw [if_pos (by simpa using h)]
      rw [← this]; exact hK w' hx
  · intro J hJ
    repeat (first | (refine asI_i rfl ?_) | (refine asB_i rfl ?_) | (refine asP_i rfl ?_) | (refine asS_i rfl ?_) | (refine asY_i rfl ?_) | (refine asM_i rfl ?_) | (refine asA_i rfl rfl ?_) | (refine asT_i rfl rfl ?_) | (refine lv_i ?_) | (refine St.nw hS ?_; clear hS; intro _ _ hS) | (refine St.dw hS ?_; clear hS; intro _ hS _) | (refine hS.ld0 0 rfl rfl ?_) | (refine hS.ld 0 rfl rfl ?_) | (refine hS.ld0 1 rfl rfl ?_) | (refine hS.ld 1 rfl rfl ?_) | (refine hS.ld0 2 rfl rfl ?_) | (refine hS.ld 2 rfl rfl ?_) | (refine hS.ld0 3 rfl rfl ?_) | (refine hS.ld 3 rfl rfl ?_) | (refine hS.ld0 4 rfl rfl ?_) | (refine hS.ld 4 rfl rfl ?_) | (refine hS.ld0 5 rfl rfl ?_) | (refine hS.ld 5 rfl rfl ?_) | (refine hS.ld0 6 rfl rfl ?_) | (refine hS.ld 6 rfl rfl ?_) | (refine hS.ld0 7 rfl rfl ?_) | (refine hS.ld 7 rfl rfl ?_) | (refine hS.hd0 0 rfl rfl ?_) | (refine hS.hd 0 rfl rfl ?_) | (refine hS.hd0 1 rfl rfl ?_) | (refine hS.hd 1 rfl rfl ?_) | (refine hS.hd0 2 rfl rfl ?_) | (refine hS.hd 2 rfl rfl ?_) | (refine hS.hd0 3 rfl rfl ?_) | (refine hS.hd 3 rfl rfl ?_) | (refine hS.hd0 4 rfl rfl ?_) | (refine hS.hd 4 rfl rfl ?_) | (refine hS.hd0 5 rfl rfl ?_) | (refine hS.hd 5 rfl rfl ?_) | (refine hS.hd0 6 rfl rfl ?_) | (refine hS.hd 6 rfl rfl ?_) | (refine hS.hd0 7 rfl rfl ?_) | (refine hS.hd 7 rfl rfl ?_) | (refine hS.st0 0 rfl rfl rfl ?_; clear hS; intro _ hS) | (refine hS.st 0 rfl rfl rfl ?_; clear hS; intro _ hS) | (refine hS.st0 1 rfl rfl rfl ?_; clear hS; intro _ hS) | (refine hS.st 1 rfl rfl rfl ?_; clear hS; intro _ hS) | (refine hS.st0 2 rfl rfl rfl ?_; clear hS; intro _ hS) | (refine hS.st 2 rfl rfl rfl ?_; clear hS; intro _ hS) | (refine hS.st0 3 rfl rfl rfl ?_; clear hS; intro _ hS) | (refine hS.st 3 rfl rfl rfl ?_; clear hS; intro _ hS) | (refine hS.st0 4 rfl rfl rfl ?_; clear hS; intro _ hS) | (refine hS.st 4 rfl rfl rfl ?_; clear hS; intro _ hS) | (refine hS.st0 5 rfl rfl rfl ?_; clear hS; intro _ hS) | (refine hS.st 5 rfl rfl rfl ?_; clear hS; intro _ hS) | (refine hS.st0 6 rfl rfl rfl ?_; clear hS; intro _ hS) | (refine hS.st 6 rfl rfl rfl ?_; clear hS; intro _ hS) | (refine hS.st0 7 rfl rfl rfl ?_; clear hS; intro _ hS) | (refine hS.st 7 rfl rfl rfl ?_; clear hS; intro _ hS) | (refine bnd_mk (by decide) (by decide) ?_) | (refine so_i rfl ?_))
    refine within_k ?_
    repeat (first | (refine asI_i rfl ?_) | (refine asB_i rfl ?_) | (refine asP_i rfl ?_) | (refine asS_i rfl ?_) | (refine asY_i rfl ?_) | (refine asM_i rfl ?_) | (refine asA_i rfl rfl ?_) | (refine asT_i rfl rfl ?_) | (refine lv_i ?_) | (refine St.nw hS ?_; clear hS; intro _ _ hS) | (refine St.dw hS ?_; clear hS; intro _ hS _) | (refine hS.ld0 0 rfl rfl ?_) | (refine hS.ld 0 rfl rfl ?_) | (refine hS.ld0 1 rfl rfl ?_) | (refine hS.ld 1 rfl rfl ?_) | (refine hS.ld0 2 rfl rfl ?_) | (refine hS.ld 2 rfl rfl ?_) | (refine hS.ld0 3 rfl rfl ?_) | (refine hS.ld 3 rfl rfl ?_) | (refine hS.ld0 4 rfl rfl ?_) | (refine hS.ld 4 rfl rfl ?_) | (refine hS.ld0 5 rfl rfl ?_) | (refine hS.ld 5 rfl rfl ?_) | (refine hS.ld0 6 rfl rfl ?_) | (refine hS.ld 6 rfl rfl ?_) | (refine hS.ld0 7 rfl rfl ?_) | (refine hS.ld 7 rfl rfl ?_) | (refine hS.hd0 0 rfl rfl ?_) | (refine hS.hd 0 rfl rfl ?_) | (refine hS.hd0 1 rfl rfl ?_) | (refine hS.hd 1 rfl rfl ?_) | (refine hS.hd0 2 rfl rfl ?_) | (refine hS.hd 2 rfl rfl ?_) | (refine hS.hd0 3 rfl rfl ?_) | (refine hS.hd 3 rfl rfl ?_) | (refine hS.hd0 4 rfl rfl ?_) | (refine hS.hd 4 rfl rfl ?_) | (refine hS.hd0 5 rfl rfl ?_) | (refine hS.hd 5 rfl rfl ?_) | (refine hS.hd0 6 rfl rfl ?_) | (refine hS.hd 6 rfl rfl ?_) | (refine hS.hd0 7 rfl rfl ?_) | (refine hS.hd 7 rfl rfl ?_) | (refine hS.st0 0 rfl rfl rfl ?_; clear hS; intro _ hS) | (refine hS.st 0 rfl rfl rfl ?_; clear hS; intro _ hS) | (refine hS.st0 1 rfl rfl rfl ?_; clear hS; intro _ hS) | (refine hS.st 1 rfl rfl rfl ?_; clear hS; intro _ hS) | (refine hS.st0 2 rfl rfl rfl ?_; clear hS; intro _ hS) | (refine hS.st 2 rfl rfl rfl ?_; clear hS; intro _ hS) | (refine hS.st0 3 rfl rfl rfl ?_; clear hS; intro _ hS) | (refine hS.st 3 rfl rfl rfl ?_; clear hS; intro _ hS) | (refine hS.st0 4 rfl rfl rfl ?_; clear hS; intro _ hS) | (refine hS.st 4 rfl rfl rfl ?_; clear hS; intro _ hS) | (refine hS.st0 5 rfl rfl rfl ?_; clear hS; intro _ hS) | (refine hS.st 5 rfl rfl rfl ?_; clear hS; intro _ hS) | (refine hS.st0 6 rfl rfl rfl ?_; clear hS; intro _ hS) | (refine hS.st 6 rfl rfl rfl ?_; clear hS; intro _ hS) | (refine hS.st0 7 rfl rfl rfl ?_; clear hS; intro _ hS) | (refine hS.st 7 rfl rfl rfl ?_; clear hS; intro _ hS) | (refine bnd_mk (by decide) (by decide) ?_) | (refine so_i rfl ?_))
    refine cond_split (fun h => hJ _ _ ⟨?_, hS.ext⟩) (fun h => ?_)
    · have h' : within b.x = false := by simpa using h
      simp [Bx.right, h']
    have h1 : within b.x = true := by simpa using h
    repeat (first | (refine asI_i rfl ?_) | (refine asB_i rfl ?_) | (refine asP_i rfl ?_) | (refine asS_i rfl ?_) | (refine asY_i rfl ?_) | (refine asM_i rfl ?_) | (refine asA_i rfl rfl ?_) | (refine asT_i rfl rfl ?_) | (refine lv_i ?_) | (refine St.nw hS ?_; clear hS; intro _ _ hS) | (refine St.dw hS ?_; clear hS; intro _ hS _) | (refine hS.ld0 0 rfl rfl ?_) | (refine hS.ld 0 rfl rfl ?_) | (refine hS.ld0 1 rfl rfl ?_) | (refine hS.ld 1 rfl rfl ?_) | (refine hS.ld0 2 rfl rfl ?_) | (refine hS.ld 2 rfl rfl ?_) | (refine hS.ld0 3 rfl rfl ?_) | (refine hS.ld 3 rfl rfl ?_) | (refine hS.ld0 4 rfl rfl ?_) | (refine hS.ld 4 rfl rfl ?_) | (refine hS.ld0 5 rfl rfl ?_) | (refine hS.ld 5 rfl rfl ?_) | (refine hS.ld0 6 rfl rfl ?_) | (refine hS.ld 6 rfl rfl ?_) | (refine hS.ld0 7 rfl rfl ?_) | (refine hS.ld 7 rfl rfl ?_) | (refine hS.hd0 0 rfl rfl ?_) | (refine hS.hd 0 rfl rfl ?_) | (refine hS.hd0 1 rfl rfl ?_) | (refine hS.hd 1 rfl rfl ?_) | (refine hS.hd0 2 rfl rfl ?_) | (refine hS.hd 2 rfl rfl ?_) | (refine hS.hd0 3 rfl rfl ?_) | (refine hS.hd 3 rfl rfl ?_) | (refine hS.hd0 4 rfl rfl ?_) | (refine hS.hd 4 rfl rfl ?_) | (refine hS.hd0 5 rfl rfl ?_) | (refine hS.hd 5 rfl rfl ?_) | (refine hS.hd0 6 rfl rfl ?_) | (refine hS.hd 6 rfl rfl ?_) | (refine hS.hd0 7 rfl rfl ?_) | (refine hS.hd 7 rfl rfl ?_) | (refine hS.st0 0 rfl rfl rfl ?_; clear hS; intro _ hS) | (refine hS.st 0 rfl rfl rfl ?_; clear hS; intro _ hS) | (refine hS.st0 1 rfl rfl rfl ?_; clear hS; intro _ hS) | (refine hS.st 1 rfl rfl rfl ?_; clear hS; intro _ hS) | (refine hS.st0 2 rfl rfl rfl ?_; clear hS; intro _ hS) | (refine hS.st 2 rfl rfl rfl ?_; clear hS; intro _ hS) | (refine hS.st0 3 rfl rfl rfl ?_; clear hS; intro _ hS) | (refine hS.st 3 rfl rfl rfl ?_; clear hS; intro _ hS) | (refine hS.st0 4 rfl rfl rfl ?_; clear hS; intro _ hS) | (refine hS.st 4 rfl rfl rfl ?_; clear hS; intro _ hS) | (refine hS.st0 5 rfl rfl rfl ?_; clear hS; intro _ hS) | (refine hS.st 5 rfl rfl rfl ?_; clear hS; intro _ hS) | (refine hS.st0 6 rfl rfl rfl ?_; clear hS; intro _ hS) | (refine hS.st 6 rfl rfl rfl ?_; clear hS; intro _ hS) | (refine hS.st0 7 rfl rfl rfl ?_; clear hS; intro _ hS) | (refine hS.st 7 rfl rfl rfl ?_; clear hS; intro _ hS) | (refine bnd_mk (by decide) (by decide) ?_) | (refine so_i rfl ?_))
    refine within_k ?_
    repeat (first | (refine asI_i rfl ?_) | (refine asB_i rfl ?_) | (refine asP_i rfl ?_) | (refine asS_i rfl ?_) | (refine asY_i rfl ?_) | (refine asM_i rfl ?_) | (refine asA_i rfl rfl ?_) | (refine asT_i rfl rfl ?_) | (refine lv_i ?_) | (refine St.nw hS ?_; clear hS; intro _ _ hS) | (refine St.dw hS ?_; clear hS; intro _ hS _) | (refine hS.ld0 0 rfl rfl ?_) | (refine hS.ld 0 rfl rfl ?_) | (refine hS.ld0 1 rfl rfl ?_) | (refine hS.ld 1 rfl rfl ?_) | (refine hS.ld0 2 rfl rfl ?_) | (refine hS.ld 2 rfl rfl ?_) | (refine hS.ld0 3 rfl rfl ?_) | (refine hS.ld 3 rfl rfl ?_) | (refine hS.ld0 4 rfl rfl ?_) | (refine hS.ld 4 rfl rfl ?_) | (refine hS.ld0 5 rfl rfl ?_) | (refine hS.ld 5 rfl rfl ?_) | (refine hS.ld0 6 rfl rfl ?_) | (refine hS.ld 6 rfl rfl ?_) | (refine hS.ld0 7 rfl rfl ?_) | (refine hS.ld 7 rfl rfl ?_) | (refine hS.hd0 0 rfl rfl ?_) | (refine hS.hd 0 rfl rfl ?_) | (refine hS.hd0 1 rfl rfl ?_) | (refine hS.hd 1 rfl rfl ?_) | (refine hS.hd0 2 rfl rfl ?_) | (refine hS.hd 2 rfl rfl ?_) | (refine hS.hd0 3 rfl rfl ?_) | (refine hS.hd 3 rfl rfl ?_) | (refine hS.hd0 4 rfl rfl ?_) | (refine hS.hd 4 rfl rfl ?_) | (refine hS.hd0 5 rfl rfl ?_) | (refine hS.hd 5 rfl rfl ?_) | (refine hS.hd0 6 rfl rfl ?_) | (refine hS.hd 6 rfl rfl ?_) | (refine hS.hd0 7 rfl rfl ?_) | (refine hS.hd 7 rfl rfl ?_) | (refine hS.st0 0 rfl rfl rfl ?_; clear hS; intro _ hS) | (refine hS.st 0 rfl rfl rfl ?_; clear hS; intro _ hS) | (refine hS.st0 1 rfl rfl rfl ?_; clear hS; intro _ hS) | (refine hS.st 1 rfl rfl rfl ?_; clear hS; intro _ hS) | (refine hS.st0 2 rfl rfl rfl ?_; clear hS; intro _ hS) | (refine hS.st 2 rfl rfl rfl ?_; clear hS; intro _ hS) | (refine hS.st0 3 rfl rfl rfl ?_; clear hS; intro _ hS) | (refine hS.st 3 rfl rfl rfl ?_; clear hS; intro _ hS) | (refine hS.st0 4 rfl rfl rfl ?_; clear hS; intro _ hS) | (refine hS.st 4 rfl rfl rfl ?_; clear hS; intro _ hS) | (refine hS.st0 5 rfl rfl rfl ?_; clear hS; intro _ hS) | (refine hS.st 5 rfl rfl rfl ?_; clear hS; intro _ hS) | (refine hS.st0 6 rfl rfl rfl ?_; clear hS; intro _ hS) | (refine hS.st 6 rfl rfl rfl ?_; clear hS; intro _ hS) | (refine hS.st0 7 rfl rfl rfl ?_; clear hS; intro _ hS) | (refine hS.st 7 rfl rfl rfl ?_; clear hS; intro _ hS) | (refine bnd_mk (by decide) (by decide) ?_) | (refine so_i rfl ?_))
    refine cond_split (fun h => hJ _ _ ⟨?_, hS.ext⟩) (fun h => ?_)
    · have h' : within b.y = false := by simpa using h
      simp [Bx.right, h']
    have h2 : within b.y = true := by simpa using h
    repeat (first | (refine asI_i rfl ?_) | (refine asB_i rfl ?_) | (refine asP_i rfl ?_) | (refine asS_i rfl ?_) | (refine asY_i rfl ?_) | (refine asM_i rfl ?_) | (refine asA_i rfl rfl ?_) | (refine asT_i rfl rfl ?_) | (refine lv_i ?_) | (refine St.nw hS ?_; clear hS; intro _ _ hS) | (refine St.dw hS ?_; clear hS; intro _ hS _) | (refine hS.ld0 0 rfl rfl ?_) | (refine hS.ld 0 rfl rfl ?_) | (refine hS.ld0 1 rfl rfl ?_) | (refine hS.ld 1 rfl rfl ?_) | (refine hS.ld0 2 rfl rfl ?_) | (refine hS.ld 2 rfl rfl ?_) | (refine hS.ld0 3 rfl rfl ?_) | (refine hS.ld 3 rfl rfl ?_) | (refine hS.ld0 4 rfl rfl ?_) | (refine hS.ld 4 rfl rfl ?_) | (refine hS.ld0 5 rfl rfl ?_) | (refine hS.ld 5 rfl rfl ?_) | (refine hS.ld0 6 rfl rfl ?_) | (refine hS.ld 6 rfl rfl ?_) | (refine hS.ld0 7 rfl rfl ?_) | (refine hS.ld 7 rfl rfl ?_) | (refine hS.hd0 0 rfl rfl ?_) | (refine hS.hd 0 rfl rfl ?_) | (refine hS.hd0 1 rfl rfl ?_) | (refine hS.hd 1 rfl rfl ?_) | (refine hS.hd0 2 rfl rfl ?_) | (refine hS.hd 2 rfl rfl ?_) | (refine hS.hd0 3 rfl rfl ?_) | (refine hS.hd 3 rfl rfl ?_) | (refine hS.hd0 4 rfl rfl ?_) | (refine hS.hd 4 rfl rfl ?_) | (refine hS.hd0 5 rfl rfl ?_) | (refine hS.hd 5 rfl rfl ?_) | (refine hS.hd0 6 rfl rfl ?_) | (refine hS.hd 6 rfl rfl ?_) | (refine hS.hd0 7 rfl rfl ?_) | (refine hS.hd 7 rfl rfl ?_) | (refine hS.st0 0 rfl rfl rfl ?_; clear hS; intro _ hS) | (refine hS.st 0 rfl rfl rfl ?_; clear hS; intro _ hS) | (refine hS.st0 1 rfl rfl rfl ?_; clear hS; intro _ hS) | (refine hS.st 1 rfl rfl rfl ?_; clear hS; intro _ hS) | (refine hS.st0 2 rfl rfl rfl ?_; clear hS; intro _ hS) | (refine hS.st 2 rfl rfl rfl ?_; clear hS; intro _ hS) | (refine hS.st0 3 rfl rfl rfl ?_; clear hS; intro _ hS) | (refine hS.st 3 rfl rfl rfl ?_; clear hS; intro _ hS) | (refine hS.st0 4 rfl rfl rfl ?_; clear hS; intro _ hS) | (refine hS.st 4 rfl rfl rfl ?_; clear hS; intro _ hS) | (refine hS.st0 5 rfl rfl rfl ?_; clear hS; intro _ hS) | (refine hS.st 5 rfl rfl rfl ?_; clear hS; intro _ hS) | (refine hS.st0 6 rfl rfl rfl ?_; clear hS; intro _ hS) | (refine hS.st 6 rfl rfl rfl ?_; clear hS; intro _ hS) | (refine hS.st0 7 rfl rfl rfl ?_; clear hS; intro _ hS) | (refine hS.st 7 rfl rfl rfl ?_; clear hS; intro _ hS) | (refine bnd_mk (by decide) (by decide) ?_) | (refine so_i rfl ?_))
    refine cond_split (fun h => hJ _ _ ⟨?_, hS.ext⟩) (fun h => ?_)
    · have h' : ¬ (1 ≤ b.r) := by simpa using h
      simp [Bx.right, h']
    have h3 : 1 ≤ b.r := by simpa using h
    repeat (first | (refine asI_i rfl ?_) | (refine asB_i rfl ?_) | (refine asP_i rfl ?_) | (refine asS_i rfl ?_) | (refine asY_i rfl ?_) | (refine asM_i rfl ?_) | (refine asA_i rfl rfl ?_) | (refine asT_i rfl rfl ?_) | (refine lv_i ?_) | (refine St.nw hS ?_; clear hS; intro _ _ hS) | (refine St.dw hS ?_; clear hS; intro _ hS _) | (refine hS.ld0 0 rfl rfl ?_) | (refine hS.ld 0 rfl rfl ?_) | (refine hS.ld0 1 rfl rfl ?_) | (refine hS.ld 1 rfl rfl ?_) | (refine hS.ld0 2 rfl rfl ?_) | (refine hS.ld 2 rfl rfl ?_) | (refine hS.ld0 3 rfl rfl ?_) | (refine hS.ld 3 rfl rfl ?_) | (refine hS.ld0 4 rfl rfl ?_) | (refine hS.ld 4 rfl rfl ?_) | (refine hS.ld0 5 rfl rfl ?_) | (refine hS.ld 5 rfl rfl ?_) | (refine hS.ld0 6 rfl rfl ?_) | (refine hS.ld 6 rfl rfl ?_) | (refine hS.ld0 7 rfl rfl ?_) | (refine hS.ld 7 rfl rfl ?_) | (refine hS.hd0 0 rfl rfl ?_) | (refine hS.hd 0 rfl rfl ?_) | (refine hS.hd0 1 rfl rfl ?_) | (refine hS.hd 1 rfl rfl ?_) | (refine hS.hd0 2 rfl rfl ?_) | (refine hS.hd 2 rfl rfl ?_) | (refine hS.hd0 3 rfl rfl ?_) | (refine hS.hd 3 rfl rfl ?_) | (refine hS.hd0 4 rfl rfl ?_) | (refine hS.hd 4 rfl rfl ?_) | (refine hS.hd0 5 rfl rfl ?_) | (refine hS.hd 5 rfl rfl ?_) | (refine hS.hd0 6 rfl rfl ?_) | (refine hS.hd 6 rfl rfl ?_) | (refine hS.hd0 7 rfl rfl ?_) | (refine hS.hd 7 rfl rfl ?_) | (refine hS.st0 0 rfl rfl rfl ?_; clear hS; intro _ hS) | (refine hS.st 0 rfl rfl rfl ?_; clear hS; intro _ hS) | (refine hS.st0 1 rfl rfl rfl ?_; clear hS; intro _ hS) | (refine hS.st 1 rfl rfl rfl ?_; clear hS; intro _ hS) | (refine hS.st0 2 rfl rfl rfl ?_; clear hS; intro _ hS) | (refine hS.st 2 rfl rfl rfl ?_; clear hS; intro _ hS) | (refine hS.st0 3 rfl rfl rfl ?_; clear hS; intro _ hS) | (refine hS.st 3 rfl rfl rfl ?_; clear hS; intro _ hS) | (refine hS.st0 4 rfl rfl rfl ?_; clear hS; intro _ hS) | (refine hS.st 4 rfl rfl rfl ?_; clear hS; intro _ hS) | (refine hS.st0 5 rfl rfl rfl ?_; clear hS; intro _ hS) | (refine hS.st 5 rfl rfl rfl ?_; clear hS; intro _ hS) | (refine hS.st0 6 rfl rfl rfl ?_; clear hS; intro _ hS) | (refine hS.st 6 rfl rfl rfl ?_; clear hS; intro _ hS) | (refine hS.st0 7 rfl rfl rfl ?_; clear hS; intro _ hS) | (refine hS.st 7 rfl rfl rfl ?_; clear hS; intro _ hS) | (refine bnd_mk (by decide) (by decide) ?_) | (refine so_i rfl ?_))
    refine hJ _ _ ⟨?_, hS.ext⟩
    have e : (!b.right) = decide (b.r > 1099511627776) := by
      simp only [Bx.right, h1, h2, decide_eq_true h3, Bool.true_and]
      rw [← decide_not]
      congr 1
      apply propext
      omega
    rw [e]

theorem rright_k {b : Bx} {w : World} {K : Value → World → Prop} (hK : ∀ w', Ext no w w' → K (.bool b.right) w') : cl Try.prog 50 #[b.v] w K := by
  apply F50_calls
  unfold F50
  have hS := St.start w
  repeat (first | (refine asI_i rfl ?_) | (refine asB_i rfl ?_) | (refine asP_i rfl ?_) | (refine asS_i rfl ?_) | (refine asY_i rfl ?_) | (refine asM_i rfl ?_) | (refine asA_i rfl rfl ?_) | (refine asT_i rfl rfl ?_) | (refine lv_i ?_) | (refine St.nw hS ?_; clear hS; intro _ _ hS) | (refine St.dw hS ?_; clear hS; intro _ hS _) | (refine hS.ld0 0 rfl rfl ?_) | (refine hS.ld 0 rfl rfl ?_) | (refine hS.ld0 1 rfl rfl ?_) | (refine hS.ld 1 rfl rfl ?_) | (refine hS.ld0 2 rfl rfl ?_) | (refine hS.ld 2 rfl rfl ?_) | (refine hS.ld0 3 rfl rfl ?_) | (refine hS.ld 3 rfl rfl ?_) | (refine hS.ld0 4 rfl rfl ?_) | (refine hS.ld 4 rfl rfl ?_) | (refine hS.ld0 5 rfl rfl ?_) | (refine hS.ld 5 rfl rfl ?_) | (refine hS.ld0 6 rfl rfl ?_) | (refine hS.ld 6 rfl rfl ?_) | (refine hS.ld0 7 rfl rfl ?_) | (refine hS.ld 7 rfl rfl ?_) | (refine hS.hd0 0 rfl rfl ?_) | (refine hS.hd 0 rfl rfl ?_) | (refine hS.hd0 1 rfl rfl ?_) | (refine hS.hd 1 rfl rfl ?_) | (refine hS.hd0 2 rfl rfl ?_) | (refine hS.hd 2 rfl rfl ?_) | (refine hS.hd0 3 rfl rfl ?_) | (refine hS.hd 3 rfl rfl ?_) | (refine hS.hd0 4 rfl rfl ?_) | (refine hS.hd 4 rfl rfl ?_) | (refine hS.hd0 5 rfl rfl ?_) | (refine hS.hd 5 rfl rfl ?_) | (refine hS.hd0 6 rfl rfl ?_) | (refine hS.hd 6 rfl rfl ?_) | (refine hS.hd0 7 rfl rfl ?_) | (refine hS.hd 7 rfl rfl ?_) | (refine hS.st0 0 rfl rfl rfl ?_; clear hS; intro _ hS) | (refine hS.st 0 rfl rfl rfl ?_; clear hS; intro _ hS) | (refine hS.st0 1 rfl rfl rfl ?_; clear hS; intro _ hS) | (refine hS.st 1 rfl rfl rfl ?_; clear hS; intro _ hS) | (refine hS.st0 2 rfl rfl rfl ?_; clear hS; intro _ hS) | (refine hS.st 2 rfl rfl rfl ?_; clear hS; intro _ hS) | (refine hS.st0 3 rfl rfl rfl ?_; clear hS; intro _ hS) | (refine hS.st 3 rfl rfl rfl ?_; clear hS; intro _ hS) | (refine hS.st0 4 rfl rfl rfl ?_; clear hS; intro _ hS) | (refine hS.st 4 rfl rfl rfl ?_; clear hS; intro _ hS) | (refine hS.st0 5 rfl rfl rfl ?_; clear hS; intro _ hS) | (refine hS.st 5 rfl rfl rfl ?_; clear hS; intro _ hS) | (refine hS.st0 6 rfl rfl rfl ?_; clear hS; intro _ hS) | (refine hS.st 6 rfl rfl rfl ?_; clear hS; intro _ hS) | (refine hS.st0 7 rfl rfl rfl ?_; clear hS; intro _ hS) | (refine hS.st 7 rfl rfl rfl ?_; clear hS; intro _ hS) | (refine bnd_mk (by decide) (by decide) ?_) | (refine so_i rfl ?_))
  refine rwithin_k ?_
  repeat (first | (refine asI_i rfl ?_) | (refine asB_i rfl ?_) | (refine asP_i rfl ?_) | (refine asS_i rfl ?_) | (refine asY_i rfl ?_) | (refine asM_i rfl ?_) | (refine asA_i rfl rfl ?_) | (refine asT_i rfl rfl ?_) | (refine lv_i ?_) | (refine St.nw hS ?_; clear hS; intro _ _ hS) | (refine St.dw hS ?_; clear hS; intro _ hS _) | (refine hS.ld0 0 rfl rfl ?_) | (refine hS.ld 0 rfl rfl ?_) | (refine hS.ld0 1 rfl rfl ?_) | (refine hS.ld 1 rfl rfl ?_) | (refine hS.ld0 2 rfl rfl ?_) | (refine hS.ld 2 rfl rfl ?_) | (refine hS.ld0 3 rfl rfl ?_) | (refine hS.ld 3 rfl rfl ?_) | (refine hS.ld0 4 rfl rfl ?_) | (refine hS.ld 4 rfl rfl ?_) | (refine hS.ld0 5 rfl rfl ?_) | (refine hS.ld 5 rfl rfl ?_) | (refine hS.ld0 6 rfl rfl ?_) | (refine hS.ld 6 rfl rfl ?_) | (refine hS.ld0 7 rfl rfl ?_) | (refine hS.ld 7 rfl rfl ?_) | (refine hS.hd0 0 rfl rfl ?_) | (refine hS.hd 0 rfl rfl ?_) | (refine hS.hd0 1 rfl rfl ?_) | (refine hS.hd 1 rfl rfl ?_) | (refine hS.hd0 2 rfl rfl ?_) | (refine hS.hd 2 rfl rfl ?_) | (refine hS.hd0 3 rfl rfl ?_) | (refine hS.hd 3 rfl rfl ?_) | (refine hS.hd0 4 rfl rfl ?_) | (refine hS.hd 4 rfl rfl ?_) | (refine hS.hd0 5 rfl rfl ?_) | (refine hS.hd 5 rfl rfl ?_) | (refine hS.hd0 6 rfl rfl ?_) | (refine hS.hd 6 rfl rfl ?_) | (refine hS.hd0 7 rfl rfl ?_) | (refine hS.hd 7 rfl rfl ?_) | (refine hS.st0 0 rfl rfl rfl ?_; clear hS; intro _ hS) | (refine hS.st 0 rfl rfl rfl ?_; clear hS; intro _ hS) | (refine hS.st0 1 rfl rfl rfl ?_; clear hS; intro _ hS) | (refine hS.st 1 rfl rfl rfl ?_; clear hS; intro _ hS) | (refine hS.st0 2 rfl rfl rfl ?_; clear hS; intro _ hS) | (refine hS.st 2 rfl rfl rfl ?_; clear hS; intro _ hS) | (refine hS.st0 3 rfl rfl rfl ?_; clear hS; intro _ hS) | (refine hS.st 3 rfl rfl rfl ?_; clear hS; intro _ hS) | (refine hS.st0 4 rfl rfl rfl ?_; clear hS; intro _ hS) | (refine hS.st 4 rfl rfl rfl ?_; clear hS; intro _ hS) | (refine hS.st0 5 rfl rfl rfl ?_; clear hS; intro _ hS) | (refine hS.st 5 rfl rfl rfl ?_; clear hS; intro _ hS) | (refine hS.st0 6 rfl rfl rfl ?_; clear hS; intro _ hS) | (refine hS.st 6 rfl rfl rfl ?_; clear hS; intro _ hS) | (refine hS.st0 7 rfl rfl rfl ?_; clear hS; intro _ hS) | (refine hS.st 7 rfl rfl rfl ?_; clear hS; intro _ hS) | (refine bnd_mk (by decide) (by decide) ?_) | (refine so_i rfl ?_))
  refine rwithin_k ?_
  repeat (first | (refine asI_i rfl ?_) | (refine asB_i rfl ?_) | (refine asP_i rfl ?_) | (refine asS_i rfl ?_) | (refine asY_i rfl ?_) | (refine asM_i rfl ?_) | (refine asA_i rfl rfl ?_) | (refine asT_i rfl rfl ?_) | (refine lv_i ?_) | (refine St.nw hS ?_; clear hS; intro _ _ hS) | (refine St.dw hS ?_; clear hS; intro _ hS _) | (refine hS.ld0 0 rfl rfl ?_) | (refine hS.ld 0 rfl rfl ?_) | (refine hS.ld0 1 rfl rfl ?_) | (refine hS.ld 1 rfl rfl ?_) | (refine hS.ld0 2 rfl rfl ?_) | (refine hS.ld 2 rfl rfl ?_) | (refine hS.ld0 3 rfl rfl ?_) | (refine hS.ld 3 rfl rfl ?_) | (refine hS.ld0 4 rfl rfl ?_) | (refine hS.ld 4 rfl rfl ?_) | (refine hS.ld0 5 rfl rfl ?_) | (refine hS.ld 5 rfl rfl ?_) | (refine hS.ld0 6 rfl rfl ?_) | (refine hS.ld 6 rfl rfl ?_) | (refine hS.ld0 7 rfl rfl ?_) | (refine hS.ld 7 rfl rfl ?_) | (refine hS.hd0 0 rfl rfl ?_) | (refine hS.hd 0 rfl rfl ?_) | (refine hS.hd0 1 rfl rfl ?_) | (refine hS.hd 1 rfl rfl ?_) | (refine hS.hd0 2 rfl rfl ?_) | (refine hS.hd 2 rfl rfl ?_) | (refine hS.hd0 3 rfl rfl ?_) | (refine hS.hd 3 rfl rfl ?_) | (refine hS.hd0 4 rfl rfl ?_) | (refine hS.hd 4 rfl rfl ?_) | (refine hS.hd0 5 rfl rfl ?_) | (refine hS.hd 5 rfl rfl ?_) | (refine hS.hd0 6 rfl rfl ?_) | (refine hS.hd 6 rfl rfl ?_) | (refine hS.hd0 7 rfl rfl ?_) | (refine hS.hd 7 rfl rfl ?_) | (refine hS.st0 0 rfl rfl rfl ?_; clear hS; intro _ hS) | (refine hS.st 0 rfl rfl rfl ?_; clear hS; intro _ hS) | (refine hS.st0 1 rfl rfl rfl ?_; clear hS; intro _ hS) | (refine hS.st 1 rfl rfl rfl ?_; clear hS; intro _ hS) | (refine hS.st0 2 rfl rfl rfl ?_; clear hS; intro _ hS) | (refine hS.st 2 rfl rfl rfl ?_; clear hS; intro _ hS) | (refine hS.st0 3 rfl rfl rfl ?_; clear hS; intro _ hS) | (refine hS.st 3 rfl rfl rfl ?_; clear hS; intro _ hS) | (refine hS.st0 4 rfl rfl rfl ?_; clear hS; intro _ hS) | (refine hS.st 4 rfl rfl rfl ?_; clear hS; intro _ hS) | (refine hS.st0 5 rfl rfl rfl ?_; clear hS; intro _ hS) | (refine hS.st 5 rfl rfl rfl ?_; clear hS; intro _ hS) | (refine hS.st0 6 rfl rfl rfl ?_; clear hS; intro _ hS) | (refine hS.st 6 rfl rfl rfl ?_; clear hS; intro _ hS) | (refine hS.st0 7 rfl rfl rfl ?_; clear hS; intro _ hS) | (refine hS.st 7 rfl rfl rfl ?_; clear hS; intro _ hS) | (refine bnd_mk (by decide) (by decide) ?_) | (refine so_i rfl ?_))
  refine jn_mk (cond_split (fun h1 => cond_split (fun h2 => ?_) (fun h2 => ?_)) (fun h1 => ?_))
  · repeat (first | (refine asI_i rfl ?_) | (refine asB_i rfl ?_) | (refine asP_i rfl ?_) | (refine asS_i rfl ?_) | (refine asY_i rfl ?_) | (refine asM_i rfl ?_) | (refine asA_i rfl rfl ?_) | (refine asT_i rfl rfl ?_) | (refine lv_i ?_) | (refine St.nw hS ?_; clear hS; intro _ _ hS) | (refine St.dw hS ?_; clear hS; intro _ hS _) | (refine hS.ld0 0 rfl rfl ?_) | (refine hS.ld 0 rfl rfl ?_) | (refine hS.ld0 1 rfl rfl ?_) | (refine hS.ld 1 rfl rfl ?_) | (refine hS.ld0 2 rfl rfl ?_) | (refine hS.ld 2 rfl rfl ?_) | (refine hS.ld0 3 rfl rfl ?_) | (refine hS.ld 3 rfl rfl ?_) | (refine hS.ld0 4 rfl rfl ?_) | (refine hS.ld 4 rfl rfl ?_) | (refine hS.ld0 5 rfl rfl ?_) | (refine hS.ld 5 rfl rfl ?_) | (refine hS.ld0 6 rfl rfl ?_) | (refine hS.ld 6 rfl rfl ?_) | (refine hS.ld0 7 rfl rfl ?_) | (refine hS.ld 7 rfl rfl ?_) | (refine hS.hd0 0 rfl rfl ?_) | (refine hS.hd 0 rfl rfl ?_) | (refine hS.hd0 1 rfl rfl ?_) | (refine hS.hd 1 rfl rfl ?_) | (refine hS.hd0 2 rfl rfl ?_) | (refine hS.hd 2 rfl rfl ?_) | (refine hS.hd0 3 rfl rfl ?_) | (refine hS.hd 3 rfl rfl ?_) | (refine hS.hd0 4 rfl rfl ?_) | (refine hS.hd 4 rfl rfl ?_) | (refine hS.hd0 5 rfl rfl ?_) | (refine hS.hd 5 rfl rfl ?_) | (refine hS.hd0 6 rfl rfl ?_) | (refine hS.hd 6 rfl rfl ?_) | (refine hS.hd0 7 rfl rfl ?_) | (refine hS.hd 7 rfl rfl ?_) | (refine hS.st0 0 rfl rfl rfl ?_; clear hS; intro _ hS) | (refine hS.st 0 rfl rfl rfl ?_; clear hS; intro _ hS) | (refine hS.st0 1 rfl rfl rfl ?_; clear hS; intro _ hS) | (refine hS.st 1 rfl rfl rfl ?_; clear hS; intro _ hS) | (refine hS.st0 2 rfl rfl rfl ?_; clear hS; intro _ hS) | (refine hS.st 2 rfl rfl rfl ?_; clear hS; intro _ hS) | (refine hS.st0 3 rfl rfl rfl ?_; clear hS; intro _ hS) | (refine hS.st 3 rfl rfl rfl ?_; clear hS; intro _ hS) | (refine hS.st0 4 rfl rfl rfl ?_; clear hS; intro _ hS) | (refine hS.st 4 rfl rfl rfl ?_; clear hS; intro _ hS) | (refine hS.st0 5 rfl rfl rfl ?_; clear hS; intro _ hS) | (refine hS.st 5 rfl rfl rfl ?_; clear hS; intro _ hS) | (refine hS.st0 6 rfl rfl rfl ?_; clear hS; intro _ hS) | (refine hS.st 6 rfl rfl rfl ?_; clear hS; intro _ hS) | (refine hS.st0 7 rfl rfl rfl ?_; clear hS; intro _ hS) | (refine hS.st 7 rfl rfl rfl ?_; clear hS; intro _ hS) | (refine bnd_mk (by decide) (by decide) ?_) | (refine so_i rfl ?_))
    refine cond_split (fun h3 => ?_) (fun h3 => ?_)
    · repeat (first | (refine asI_i rfl ?_) | (refine asB_i rfl ?_) | (refine asP_i rfl ?_) | (refine asS_i rfl ?_) | (refine asY_i rfl ?_) | (refine asM_i rfl ?_) | (refine asA_i rfl rfl ?_) | (refine asT_i rfl rfl ?_) | (refine lv_i ?_) | (refine St.nw hS ?_; clear hS; intro _ _ hS) | (refine St.dw hS ?_; clear hS; intro _ hS _) | (refine hS.ld0 0 rfl rfl ?_) | (refine hS.ld 0 rfl rfl ?_) | (refine hS.ld0 1 rfl rfl ?_) | (refine hS.ld 1 rfl rfl ?_) | (refine hS.ld0 2 rfl rfl ?_) | (refine hS.ld 2 rfl rfl ?_) | (refine hS.ld0 3 rfl rfl ?_) | (refine hS.ld 3 rfl rfl ?_) | (refine hS.ld0 4 rfl rfl ?_) | (refine hS.ld 4 rfl rfl ?_) | (refine hS.ld0 5 rfl rfl ?_) | (refine hS.ld 5 rfl rfl ?_) | (refine hS.ld0 6 rfl rfl ?_) | (refine hS.ld 6 rfl rfl ?_) | (refine hS.ld0 7 rfl rfl ?_) | (refine hS.ld 7 rfl rfl ?_) | (refine hS.hd0 0 rfl rfl ?_) | (refine hS.hd 0 rfl rfl ?_) | (refine hS.hd0 1 rfl rfl ?_) | (refine hS.hd 1 rfl rfl ?_) | (refine hS.hd0 2 rfl rfl ?_) | (refine hS.hd 2 rfl rfl ?_) | (refine hS.hd0 3 rfl rfl ?_) | (refine hS.hd 3 rfl rfl ?_) | (refine hS.hd0 4 rfl rfl ?_) | (refine hS.hd 4 rfl rfl ?_) | (refine hS.hd0 5 rfl rfl ?_) | (refine hS.hd 5 rfl rfl ?_) | (refine hS.hd0 6 rfl rfl ?_) | (refine hS.hd 6 rfl rfl ?_) | (refine hS.hd0 7 rfl rfl ?_) | (refine hS.hd 7 rfl rfl ?_) | (refine hS.st0 0 rfl rfl rfl ?_; clear hS; intro _ hS) | (refine hS.st 0 rfl rfl rfl ?_; clear hS; intro _ hS) | (refine hS.st0 1 rfl rfl rfl ?_; clear hS; intro _ hS) | (refine hS.st 1 rfl rfl rfl ?_; clear hS; intro _ hS) | (refine hS.st0 2 rfl rfl rfl ?_; clear hS; intro _ hS) | (refine hS.st 2 rfl rfl rfl ?_; clear hS; intro _ hS) | (refine hS.st0 3 rfl rfl rfl ?_; clear hS; intro _ hS) | (refine hS.st 3 rfl rfl rfl ?_; clear hS; intro _ hS) | (refine hS.st0 4 rfl rfl rfl ?_; clear hS; intro _ hS) | (refine hS.st 4 rfl rfl rfl ?_; clear hS; intro _ hS) | (refine hS.st0 5 rfl rfl rfl ?_; clear hS; intro _ hS) | (refine hS.st 5 rfl rfl rfl ?_; clear hS; intro _ hS) | (refine hS.st0 6 rfl rfl rfl ?_; clear hS; intro _ hS) | (refine hS.st 6 rfl rfl rfl ?_; clear hS; intro _ hS) | (refine hS.st0 7 rfl rfl rfl ?_; clear hS; intro _ hS) | (refine hS.st 7 rfl rfl rfl ?_; clear hS; intro _ hS) | (refine bnd_mk (by decide) (by decide) ?_) | (refine so_i rfl ?_))
      have e : decide (b.r ≤ 1099511627776) = b.right := by
        have h3' : decide (1 ≤ b.r) = true := h3
        simp only [Bx.right, h1, h2, h3', Bool.true_and]
      rw [e]
      exact hK _ hS.ext
    · repeat (first | (refine asI_i rfl ?_) | (refine asB_i rfl ?_) | (refine asP_i rfl ?_) | (refine asS_i rfl ?_) | (refine asY_i rfl ?_) | (refine asM_i rfl ?_) | (refine asA_i rfl rfl ?_) | (refine asT_i rfl rfl ?_) | (refine lv_i ?_) | (refine St.nw hS ?_; clear hS; intro _ _ hS) | (refine St.dw hS ?_; clear hS; intro _ hS _) | (refine hS.ld0 0 rfl rfl ?_) | (refine hS.ld 0 rfl rfl ?_) | (refine hS.ld0 1 rfl rfl ?_) | (refine hS.ld 1 rfl rfl ?_) | (refine hS.ld0 2 rfl rfl ?_) | (refine hS.ld 2 rfl rfl ?_) | (refine hS.ld0 3 rfl rfl ?_) | (refine hS.ld 3 rfl rfl ?_) | (refine hS.ld0 4 rfl rfl ?_) | (refine hS.ld 4 rfl rfl ?_) | (refine hS.ld0 5 rfl rfl ?_) | (refine hS.ld 5 rfl rfl ?_) | (refine hS.ld0 6 rfl rfl ?_) | (refine hS.ld 6 rfl rfl ?_) | (refine hS.ld0 7 rfl rfl ?_) | (refine hS.ld 7 rfl rfl ?_) | (refine hS.hd0 0 rfl rfl ?_) | (refine hS.hd 0 rfl rfl ?_) | (refine hS.hd0 1 rfl rfl ?_) | (refine hS.hd 1 rfl rfl ?_) | (refine hS.hd0 2 rfl rfl ?_) | (refine hS.hd 2 rfl rfl ?_) | (refine hS.hd0 3 rfl rfl ?_) | (refine hS.hd 3 rfl rfl ?_) | (refine hS.hd0 4 rfl rfl ?_) | (refine hS.hd 4 rfl rfl ?_) | (refine hS.hd0 5 rfl rfl ?_) | (refine hS.hd 5 rfl rfl ?_) | (refine hS.hd0 6 rfl rfl ?_) | (refine hS.hd 6 rfl rfl ?_) | (refine hS.hd0 7 rfl rfl ?_) | (refine hS.hd 7 rfl rfl ?_) | (refine hS.st0 0 rfl rfl rfl ?_; clear hS; intro _ hS) | (refine hS.st 0 rfl rfl rfl ?_; clear hS; intro _ hS) | (refine hS.st0 1 rfl rfl rfl ?_; clear hS; intro _ hS) | (refine hS.st 1 rfl rfl rfl ?_; clear hS; intro _ hS) | (refine hS.st0 2 rfl rfl rfl ?_; clear hS; intro _ hS) | (refine hS.st 2 rfl rfl rfl ?_; clear hS; intro _ hS) | (refine hS.st0 3 rfl rfl rfl ?_; clear hS; intro _ hS) | (refine hS.st 3 rfl rfl rfl ?_; clear hS; intro _ hS) | (refine hS.st0 4 rfl rfl rfl ?_; clear hS; intro _ hS) | (refine hS.st 4 rfl rfl rfl ?_; clear hS; intro _ hS) | (refine hS.st0 5 rfl rfl rfl ?_; clear hS; intro _ hS) | (refine hS.st 5 rfl rfl rfl ?_; clear hS; intro _ hS) | (refine hS.st0 6 rfl rfl rfl ?_; clear hS; intro _ hS) | (refine hS.st 6 rfl rfl rfl ?_; clear hS; intro _ hS) | (refine hS.st0 7 rfl rfl rfl ?_; clear hS; intro _ hS) | (refine hS.st 7 rfl rfl rfl ?_; clear hS; intro _ hS) | (refine bnd_mk (by decide) (by decide) ?_) | (refine so_i rfl ?_))
      have e : b.right = false := by
        have h3' : decide (1 ≤ b.r) = false := h3
        simp only [Bx.right, h3', Bool.and_false, Bool.false_and]
      rw [← e]
      exact hK _ hS.ext
  · repeat (first | (refine asI_i rfl ?_) | (refine asB_i rfl ?_) | (refine asP_i rfl ?_) | (refine asS_i rfl ?_) | (refine asY_i rfl ?_) | (refine asM_i rfl ?_) | (refine asA_i rfl rfl ?_) | (refine asT_i rfl rfl ?_) | (refine lv_i ?_) | (refine St.nw hS ?_; clear hS; intro _ _ hS) | (refine St.dw hS ?_; clear hS; intro _ hS _) | (refine hS.ld0 0 rfl rfl ?_) | (refine hS.ld 0 rfl rfl ?_) | (refine hS.ld0 1 rfl rfl ?_) | (refine hS.ld 1 rfl rfl ?_) | (refine hS.ld0 2 rfl rfl ?_) | (refine hS.ld 2 rfl rfl ?_) | (refine hS.ld0 3 rfl rfl ?_) | (refine hS.ld 3 rfl rfl ?_) | (refine hS.ld0 4 rfl rfl ?_) | (refine hS.ld 4 rfl rfl ?_) | (refine hS.ld0 5 rfl rfl ?_) | (refine hS.ld 5 rfl rfl ?_) | (refine hS.ld0 6 rfl rfl ?_) | (refine hS.ld 6 rfl rfl ?_) | (refine hS.ld0 7 rfl rfl ?_) | (refine hS.ld 7 rfl rfl ?_) | (refine hS.hd0 0 rfl rfl ?_) | (refine hS.hd 0 rfl rfl ?_) | (refine hS.hd0 1 rfl rfl ?_) | (refine hS.hd 1 rfl rfl ?_) | (refine hS.hd0 2 rfl rfl ?_) | (refine hS.hd 2 rfl rfl ?_) | (refine hS.hd0 3 rfl rfl ?_) | (refine hS.hd 3 rfl rfl ?_) | (refine hS.hd0 4 rfl rfl ?_) | (refine hS.hd 4 rfl rfl ?_) | (refine hS.hd0 5 rfl rfl ?_) | (refine hS.hd 5 rfl rfl ?_) | (refine hS.hd0 6 rfl rfl ?_) | (refine hS.hd 6 rfl rfl ?_) | (refine hS.hd0 7 rfl rfl ?_) | (refine hS.hd 7 rfl rfl ?_) | (refine hS.st0 0 rfl rfl rfl ?_; clear hS; intro _ hS) | (refine hS.st 0 rfl rfl rfl ?_; clear hS; intro _ hS) | (refine hS.st0 1 rfl rfl rfl ?_; clear hS; intro _ hS) | (refine hS.st 1 rfl rfl rfl ?_; clear hS; intro _ hS) | (refine hS.st0 2 rfl rfl rfl ?_; clear hS; intro _ hS) | (refine hS.st 2 rfl rfl rfl ?_; clear hS; intro _ hS) | (refine hS.st0 3 rfl rfl rfl ?_; clear hS; intro _ hS) | (refine hS.st 3 rfl rfl rfl ?_; clear hS; intro _ hS) | (refine hS.st0 4 rfl rfl rfl ?_; clear hS; intro _ hS) | (refine hS.st 4 rfl rfl rfl ?_; clear hS; intro _ hS) | (refine hS.st0 5 rfl rfl rfl ?_; clear hS; intro _ hS) | (refine hS.st 5 rfl rfl rfl ?_; clear hS; intro _ hS) | (refine hS.st0 6 rfl rfl rfl ?_; clear hS; intro _ hS) | (refine hS.st 6 rfl rfl rfl ?_; clear hS; intro _ hS) | (refine hS.st0 7 rfl rfl rfl ?_; clear hS; intro _ hS) | (refine hS.st 7 rfl rfl rfl ?_; clear hS; intro _ hS) | (refine bnd_mk (by decide) (by decide) ?_) | (refine so_i rfl ?_))
    have e : b.right = false := by simp only [Bx.right, h2, Bool.and_false, Bool.false_and]
    rw [← e]
    exact hK _ hS.ext
  · repeat (first | (refine asI_i rfl ?_) | (refine asB_i rfl ?_) | (refine asP_i rfl ?_) | (refine asS_i rfl ?_) | (refine asY_i rfl ?_) | (refine asM_i rfl ?_) | (refine asA_i rfl rfl ?_) | (refine asT_i rfl rfl ?_) | (refine lv_i ?_) | (refine St.nw hS ?_; clear hS; intro _ _ hS) | (refine St.dw hS ?_; clear hS; intro _ hS _) | (refine hS.ld0 0 rfl rfl ?_) | (refine hS.ld 0 rfl rfl ?_) | (refine hS.ld0 1 rfl rfl ?_) | (refine hS.ld 1 rfl rfl ?_) | (refine hS.ld0 2 rfl rfl ?_) | (refine hS.ld 2 rfl rfl ?_) | (refine hS.ld0 3 rfl rfl ?_) | (refine hS.ld 3 rfl rfl ?_) | (refine hS.ld0 4 rfl rfl ?_) | (refine hS.ld 4 rfl rfl ?_) | (refine hS.ld0 5 rfl rfl ?_) | (refine hS.ld 5 rfl rfl ?_) | (refine hS.ld0 6 rfl rfl ?_) | (refine hS.ld 6 rfl rfl ?_) | (refine hS.ld0 7 rfl rfl ?_) | (refine hS.ld 7 rfl rfl ?_) | (refine hS.hd0 0 rfl rfl ?_) | (refine hS.hd 0 rfl rfl ?_) | (refine hS.hd0 1 rfl rfl ?_) | (refine hS.hd 1 rfl rfl ?_) | (refine hS.hd0 2 rfl rfl ?_) | (refine hS.hd 2 rfl rfl ?_) | (refine hS.hd0 3 rfl rfl ?_) | (refine hS.hd 3 rfl rfl ?_) | (refine hS.hd0 4 rfl rfl ?_) | (refine hS.hd 4 rfl rfl ?_) | (refine hS.hd0 5 rfl rfl ?_) | (refine hS.hd 5 rfl rfl ?_) | (refine hS.hd0 6 rfl rfl ?_) | (refine hS.hd 6 rfl rfl ?_) | (refine hS.hd0 7 rfl rfl ?_) | (refine hS.hd 7 rfl rfl ?_) | (refine hS.st0 0 rfl rfl rfl ?_; clear hS; intro _ hS) | (refine hS.st 0 rfl rfl rfl ?_; clear hS; intro _ hS) | (refine hS.st0 1 rfl rfl rfl ?_; clear hS; intro _ hS) | (refine hS.st 1 rfl rfl rfl ?_; clear hS; intro _ hS) | (refine hS.st0 2 rfl rfl rfl ?_; clear hS; intro _ hS) | (refine hS.st 2 rfl rfl rfl ?_; clear hS; intro _ hS) | (refine hS.st0 3 rfl rfl rfl ?_; clear hS; intro _ hS) | (refine hS.st 3 rfl rfl rfl ?_; clear hS; intro _ hS) | (refine hS.st0 4 rfl rfl rfl ?_; clear hS; intro _ hS) | (refine hS.st 4 rfl rfl rfl ?_; clear hS; intro _ hS) | (refine hS.st0 5 rfl rfl rfl ?_; clear hS; intro _ hS) | (refine hS.st 5 rfl rfl rfl ?_; clear hS; intro _ hS) | (refine hS.st0 6 rfl rfl rfl ?_; clear hS; intro _ hS) | (refine hS.st 6 rfl rfl rfl ?_; clear hS; intro _ hS) | (refine hS.st0 7 rfl rfl rfl ?_; clear hS; intro _ hS) | (refine hS.st 7 rfl rfl rfl ?_; clear hS; intro _ hS) | (refine bnd_mk (by decide) (by decide) ?_) | (refine so_i rfl ?_))
    have e : b.right = false := by simp only [Bx.right, h1, Bool.false_and]
    rw [← e]
    exact hK _ hS.ext

theorem parts_k {x y : Int} {w : World} {K : Value → World → Prop} (hK : ∀ w', Ext no w w' → K (vv x y) w') : cl Try.prog 83 #[vv x y] w K := by
  apply F83_calls
  unfold F83
  have hS := St.start w
  repeat (first | (refine asI_i rfl ?_) | (refine asB_i rfl ?_) | (refine asP_i rfl ?_) | (refine asS_i rfl ?_) | (refine asY_i rfl ?_) | (refine asM_i rfl ?_) | (refine asA_i rfl rfl ?_) | (refine asT_i rfl rfl ?_) | (refine lv_i ?_) | (refine St.nw hS ?_; clear hS; intro _ _ hS) | (refine St.dw hS ?_; clear hS; intro _ hS _) | (refine hS.ld0 0 rfl rfl ?_) | (refine hS.ld 0 rfl rfl ?_) | (refine hS.ld0 1 rfl rfl ?_) | (refine hS.ld 1 rfl rfl ?_) | (refine hS.ld0 2 rfl rfl ?_) | (refine hS.ld 2 rfl rfl ?_) | (refine hS.ld0 3 rfl rfl ?_) | (refine hS.ld 3 rfl rfl ?_) | (refine hS.ld0 4 rfl rfl ?_) | (refine hS.ld 4 rfl rfl ?_) | (refine hS.ld0 5 rfl rfl ?_) | (refine hS.ld 5 rfl rfl ?_) | (refine hS.ld0 6 rfl rfl ?_) | (refine hS.ld 6 rfl rfl ?_) | (refine hS.ld0 7 rfl rfl ?_) | (refine hS.ld 7 rfl rfl ?_) | (refine hS.hd0 0 rfl rfl ?_) | (refine hS.hd 0 rfl rfl ?_) | (refine hS.hd0 1 rfl rfl ?_) | (refine hS.hd 1 rfl rfl ?_) | (refine hS.hd0 2 rfl rfl ?_) | (refine hS.hd 2 rfl rfl ?_) | (refine hS.hd0 3 rfl rfl ?_) | (refine hS.hd 3 rfl rfl ?_) | (refine hS.hd0 4 rfl rfl ?_) | (refine hS.hd 4 rfl rfl ?_) | (refine hS.hd0 5 rfl rfl ?_) | (refine hS.hd 5 rfl rfl ?_) | (refine hS.hd0 6 rfl rfl ?_) | (refine hS.hd 6 rfl rfl ?_) | (refine hS.hd0 7 rfl rfl ?_) | (refine hS.hd 7 rfl rfl ?_) | (refine hS.st0 0 rfl rfl rfl ?_; clear hS; intro _ hS) | (refine hS.st 0 rfl rfl rfl ?_; clear hS; intro _ hS) | (refine hS.st0 1 rfl rfl rfl ?_; clear hS; intro _ hS) | (refine hS.st 1 rfl rfl rfl ?_; clear hS; intro _ hS) | (refine hS.st0 2 rfl rfl rfl ?_; clear hS; intro _ hS) | (refine hS.st 2 rfl rfl rfl ?_; clear hS; intro _ hS) | (refine hS.st0 3 rfl rfl rfl ?_; clear hS; intro _ hS) | (refine hS.st 3 rfl rfl rfl ?_; clear hS; intro _ hS) | (refine hS.st0 4 rfl rfl rfl ?_; clear hS; intro _ hS) | (refine hS.st 4 rfl rfl rfl ?_; clear hS; intro _ hS) | (refine hS.st0 5 rfl rfl rfl ?_; clear hS; intro _ hS) | (refine hS.st 5 rfl rfl rfl ?_; clear hS; intro _ hS) | (refine hS.st0 6 rfl rfl rfl ?_; clear hS; intro _ hS) | (refine hS.st 6 rfl rfl rfl ?_; clear hS; intro _ hS) | (refine hS.st0 7 rfl rfl rfl ?_; clear hS; intro _ hS) | (refine hS.st 7 rfl rfl rfl ?_; clear hS; intro _ hS) | (refine bnd_mk (by decide) (by decide) ?_) | (refine so_i rfl ?_))
  exact hK _ hS.ext

theorem rpart_k {b : Bx} {axis : Int} {w : World} {K : Value → World → Prop} (hK : ∀ w', Ext no w w' → K (.int .i64 (b.at (axis != 0))) w') : cl Try.prog 113 #[vv b.x b.y, .int .i64 axis] w K := by
  apply F113_calls
  unfold F113
  have hS := St.start w
  repeat (first | (refine asI_i rfl ?_) | (refine asB_i rfl ?_) | (refine asP_i rfl ?_) | (refine asS_i rfl ?_) | (refine asY_i rfl ?_) | (refine asM_i rfl ?_) | (refine asA_i rfl rfl ?_) | (refine asT_i rfl rfl ?_) | (refine lv_i ?_) | (refine St.nw hS ?_; clear hS; intro _ _ hS) | (refine St.dw hS ?_; clear hS; intro _ hS _) | (refine hS.ld0 0 rfl rfl ?_) | (refine hS.ld 0 rfl rfl ?_) | (refine hS.ld0 1 rfl rfl ?_) | (refine hS.ld 1 rfl rfl ?_) | (refine hS.ld0 2 rfl rfl ?_) | (refine hS.ld 2 rfl rfl ?_) | (refine hS.ld0 3 rfl rfl ?_) | (refine hS.ld 3 rfl rfl ?_) | (refine hS.ld0 4 rfl rfl ?_) | (refine hS.ld 4 rfl rfl ?_) | (refine hS.ld0 5 rfl rfl ?_) | (refine hS.ld 5 rfl rfl ?_) | (refine hS.ld0 6 rfl rfl ?_) | (refine hS.ld 6 rfl rfl ?_) | (refine hS.ld0 7 rfl rfl ?_) | (refine hS.ld 7 rfl rfl ?_) | (refine hS.hd0 0 rfl rfl ?_) | (refine hS.hd 0 rfl rfl ?_) | (refine hS.hd0 1 rfl rfl ?_) | (refine hS.hd 1 rfl rfl ?_) | (refine hS.hd0 2 rfl rfl ?_) | (refine hS.hd 2 rfl rfl ?_) | (refine hS.hd0 3 rfl rfl ?_) | (refine hS.hd 3 rfl rfl ?_) | (refine hS.hd0 4 rfl rfl ?_) | (refine hS.hd 4 rfl rfl ?_) | (refine hS.hd0 5 rfl rfl ?_) | (refine hS.hd 5 rfl rfl ?_) | (refine hS.hd0 6 rfl rfl ?_) | (refine hS.hd 6 rfl rfl ?_) | (refine hS.hd0 7 rfl rfl ?_) | (refine hS.hd 7 rfl rfl ?_) | (refine hS.st0 0 rfl rfl rfl ?_; clear hS; intro _ hS) | (refine hS.st 0 rfl rfl rfl ?_; clear hS; intro _ hS) | (refine hS.st0 1 rfl rfl rfl ?_; clear hS; intro _ hS) | (refine hS.st 1 rfl rfl rfl ?_; clear hS; intro _ hS) | (refine hS.st0 2 rfl rfl rfl ?_; clear hS; intro _ hS) | (refine hS.st 2 rfl rfl rfl ?_; clear hS; intro _ hS) | (refine hS.st0 3 rfl rfl rfl ?_; clear hS; intro _ hS) | (refine hS.st 3 rfl rfl rfl ?_; clear hS; intro _ hS) | (refine hS.st0 4 rfl rfl rfl ?_; clear hS; intro _ hS) | (refine hS.st 4 rfl rfl rfl ?_; clear hS; intro _ hS) | (refine hS.st0 5 rfl rfl rfl ?_; clear hS; intro _ hS) | (refine hS.st 5 rfl rfl rfl ?_; clear hS; intro _ hS) | (refine hS.st0 6 rfl rfl rfl ?_; clear hS; intro _ hS) | (refine hS.st 6 rfl rfl rfl ?_; clear hS; intro _ hS) | (refine hS.st0 7 rfl rfl rfl ?_; clear hS; intro _ hS) | (refine hS.st 7 rfl rfl rfl ?_; clear hS; intro _ hS) | (refine bnd_mk (by decide) (by decide) ?_) | (refine so_i rfl ?_))
  refine cond_split (fun h => ?_) (fun h => ?_)
  · repeat (first | (refine asI_i rfl ?_) | (refine asB_i rfl ?_) | (refine asP_i rfl ?_) | (refine asS_i rfl ?_) | (refine asY_i rfl ?_) | (refine asM_i rfl ?_) | (refine asA_i rfl rfl ?_) | (refine asT_i rfl rfl ?_) | (refine lv_i ?_) | (refine St.nw hS ?_; clear hS; intro _ _ hS) | (refine St.dw hS ?_; clear hS; intro _ hS _) | (refine hS.ld0 0 rfl rfl ?_) | (refine hS.ld 0 rfl rfl ?_) | (refine hS.ld0 1 rfl rfl ?_) | (refine hS.ld 1 rfl rfl ?_) | (refine hS.ld0 2 rfl rfl ?_) | (refine hS.ld 2 rfl rfl ?_) | (refine hS.ld0 3 rfl rfl ?_) | (refine hS.ld 3 rfl rfl ?_) | (refine hS.ld0 4 rfl rfl ?_) | (refine hS.ld 4 rfl rfl ?_) | (refine hS.ld0 5 rfl rfl ?_) | (refine hS.ld 5 rfl rfl ?_) | (refine hS.ld0 6 rfl rfl ?_) | (refine hS.ld 6 rfl rfl ?_) | (refine hS.ld0 7 rfl rfl ?_) | (refine hS.ld 7 rfl rfl ?_) | (refine hS.hd0 0 rfl rfl ?_) | (refine hS.hd 0 rfl rfl ?_) | (refine hS.hd0 1 rfl rfl ?_) | (refine hS.hd 1 rfl rfl ?_) | (refine hS.hd0 2 rfl rfl ?_) | (refine hS.hd 2 rfl rfl ?_) | (refine hS.hd0 3 rfl rfl ?_) | (refine hS.hd 3 rfl rfl ?_) | (refine hS.hd0 4 rfl rfl ?_) | (refine hS.hd 4 rfl rfl ?_) | (refine hS.hd0 5 rfl rfl ?_) | (refine hS.hd 5 rfl rfl ?_) | (refine hS.hd0 6 rfl rfl ?_) | (refine hS.hd 6 rfl rfl ?_) | (refine hS.hd0 7 rfl rfl ?_) | (refine hS.hd 7 rfl rfl ?_) | (refine hS.st0 0 rfl rfl rfl ?_; clear hS; intro _ hS) | (refine hS.st 0 rfl rfl rfl ?_; clear hS; intro _ hS) | (refine hS.st0 1 rfl rfl rfl ?_; clear hS; intro _ hS) | (refine hS.st 1 rfl rfl rfl ?_; clear hS; intro _ hS) | (refine hS.st0 2 rfl rfl rfl ?_; clear hS; intro _ hS) | (refine hS.st 2 rfl rfl rfl ?_; clear hS; intro _ hS) | (refine hS.st0 3 rfl rfl rfl ?_; clear hS; intro _ hS) | (refine hS.st 3 rfl rfl rfl ?_; clear hS; intro _ hS) | (refine hS.st0 4 rfl rfl rfl ?_; clear hS; intro _ hS) | (refine hS.st 4 rfl rfl rfl ?_; clear hS; intro _ hS) | (refine hS.st0 5 rfl rfl rfl ?_; clear hS; intro _ hS) | (refine hS.st 5 rfl rfl rfl ?_; clear hS; intro _ hS) | (refine hS.st0 6 rfl rfl rfl ?_; clear hS; intro _ hS) | (refine hS.st 6 rfl rfl rfl ?_; clear hS; intro _ hS) | (refine hS.st0 7 rfl rfl rfl ?_; clear hS; intro _ hS) | (refine hS.st 7 rfl rfl rfl ?_; clear hS; intro _ hS) | (refine bnd_mk (by decide) (by decide) ?_) | (refine so_i rfl ?_))
    have : b.at (axis != 0) = b.x := by
      have : axis = 0 := by simpa using h
      subst this
      rfl
    rw [← this]
    exact hK _ hS.ext
  · repeat (first | (refine asI_i rfl ?_) | (refine asB_i rfl ?_) | (refine asP_i rfl ?_) | (refine asS_i rfl ?_) | (refine asY_i rfl ?_) | (refine asM_i rfl ?_) | (refine asA_i rfl rfl ?_) | (refine asT_i rfl rfl ?_) | (refine lv_i ?_) | (refine St.nw hS ?_; clear hS; intro _ _ hS) | (refine St.dw hS ?_; clear hS; intro _ hS _) | (refine hS.ld0 0 rfl rfl ?_) | (refine hS.ld 0 rfl rfl ?_) | (refine hS.ld0 1 rfl rfl ?_) | (refine hS.ld 1 rfl rfl ?_) | (refine hS.ld0 2 rfl rfl ?_) | (refine hS.ld 2 rfl rfl ?_) | (refine hS.ld0 3 rfl rfl ?_) | (refine hS.ld 3 rfl rfl ?_) | (refine hS.ld0 4 rfl rfl ?_) | (refine hS.ld 4 rfl rfl ?_) | (refine hS.ld0 5 rfl rfl ?_) | (refine hS.ld 5 rfl rfl ?_) | (refine hS.ld0 6 rfl rfl ?_) | (refine hS.ld 6 rfl rfl ?_) | (refine hS.ld0 7 rfl rfl ?_) | (refine hS.ld 7 rfl rfl ?_) | (refine hS.hd0 0 rfl rfl ?_) | (refine hS.hd 0 rfl rfl ?_) | (refine hS.hd0 1 rfl rfl ?_) | (refine hS.hd 1 rfl rfl ?_) | (refine hS.hd0 2 rfl rfl ?_) | (refine hS.hd 2 rfl rfl ?_) | (refine hS.hd0 3 rfl rfl ?_) | (refine hS.hd 3 rfl rfl ?_) | (refine hS.hd0 4 rfl rfl ?_) | (refine hS.hd 4 rfl rfl ?_) | (refine hS.hd0 5 rfl rfl ?_) | (refine hS.hd 5 rfl rfl ?_) | (refine hS.hd0 6 rfl rfl ?_) | (refine hS.hd 6 rfl rfl ?_) | (refine hS.hd0 7 rfl rfl ?_) | (refine hS.hd 7 rfl rfl ?_) | (refine hS.st0 0 rfl rfl rfl ?_; clear hS; intro _ hS) | (refine hS.st 0 rfl rfl rfl ?_; clear hS; intro _ hS) | (refine hS.st0 1 rfl rfl rfl ?_; clear hS; intro _ hS) | (refine hS.st 1 rfl rfl rfl ?_; clear hS; intro _ hS) | (refine hS.st0 2 rfl rfl rfl ?_; clear hS; intro _ hS) | (refine hS.st 2 rfl rfl rfl ?_; clear hS; intro _ hS) | (refine hS.st0 3 rfl rfl rfl ?_; clear hS; intro _ hS) | (refine hS.st 3 rfl rfl rfl ?_; clear hS; intro _ hS) | (refine hS.st0 4 rfl rfl rfl ?_; clear hS; intro _ hS) | (refine hS.st 4 rfl rfl rfl ?_; clear hS; intro _ hS) | (refine hS.st0 5 rfl rfl rfl ?_; clear hS; intro _ hS) | (refine hS.st 5 rfl rfl rfl ?_; clear hS; intro _ hS) | (refine hS.st0 6 rfl rfl rfl ?_; clear hS; intro _ hS) | (refine hS.st 6 rfl rfl rfl ?_; clear hS; intro _ hS) | (refine hS.st0 7 rfl rfl rfl ?_; clear hS; intro _ hS) | (refine hS.st 7 rfl rfl rfl ?_; clear hS; intro _ hS) | (refine bnd_mk (by decide) (by decide) ?_) | (refine so_i rfl ?_))
    have : b.at (axis != 0) = b.y := by
      have h' : (axis != 0) = true := by simpa using h
      rw [h']
      rfl
    rw [← this]
    exact hK _ hS.ext

/-- what may be: of boxes that may be, the parts are small -/
theorem right_at {b : Bx} (h : b.right = true) (k : Bool) : -1152921504606846976 ≤ b.at k ∧ b.at k ≤ 1152921504606846976 := by
  obtain ⟨h1, h2, _⟩ := right_iff.1 h
  cases k
  · exact h1
  · exact h2

theorem rgap_k {a b : Bx} (ha : a.right = true) (hb : b.right = true) {axis : Int} {w : World} {K : Value → World → Prop} (hK : ∀ w', Ext no w w' → K (.int .i64 (gap a b (axis != 0))) w') : cl Try.prog 105 #[a.v, b.v, .int .i64 axis] w K := by
  apply F105_calls
  unfold F105
  have hS := St.start w
  repeat (first | (refine asI_i rfl ?_) | (refine asB_i rfl ?_) | (refine asP_i rfl ?_) | (refine asS_i rfl ?_) | (refine asY_i rfl ?_) | (refine asM_i rfl ?_) | (refine asA_i rfl rfl ?_) | (refine asT_i rfl rfl ?_) | (refine lv_i ?_) | (refine St.nw hS ?_; clear hS; intro _ _ hS) | (refine St.dw hS ?_; clear hS; intro _ hS _) | (refine hS.ld0 0 rfl rfl ?_) | (refine hS.ld 0 rfl rfl ?_) | (refine hS.ld0 1 rfl rfl ?_) | (refine hS.ld 1 rfl rfl ?_) | (refine hS.ld0 2 rfl rfl ?_) | (refine hS.ld 2 rfl rfl ?_) | (refine hS.ld0 3 rfl rfl ?_) | (refine hS.ld 3 rfl rfl ?_) | (refine hS.ld0 4 rfl rfl ?_) | (refine hS.ld 4 rfl rfl ?_) | (refine hS.ld0 5 rfl rfl ?_) | (refine hS.ld 5 rfl rfl ?_) | (refine hS.ld0 6 rfl rfl ?_) | (refine hS.ld 6 rfl rfl ?_) | (refine hS.ld0 7 rfl rfl ?_) | (refine hS.ld 7 rfl rfl ?_) | (refine hS.hd0 0 rfl rfl ?_) | (refine hS.hd 0 rfl rfl ?_) | (refine hS.hd0 1 rfl rfl ?_) | (refine hS.hd 1 rfl rfl ?_) | (refine hS.hd0 2 rfl rfl ?_) | (refine hS.hd 2 rfl rfl ?_) | (refine hS.hd0 3 rfl rfl ?_) | (refine hS.hd 3 rfl rfl ?_) | (refine hS.hd0 4 rfl rfl ?_) | (refine hS.hd 4 rfl rfl ?_) | (refine hS.hd0 5 rfl rfl ?_) | (refine hS.hd 5 rfl rfl ?_) | (refine hS.hd0 6 rfl rfl ?_) | (refine hS.hd 6 rfl rfl ?_) | (refine hS.hd0 7 rfl rfl ?_) | (refine hS.hd 7 rfl rfl ?_) | (refine hS.st0 0 rfl rfl rfl ?_; clear hS; intro _ hS) | (refine hS.st 0 rfl rfl rfl ?_; clear hS; intro _ hS) | (refine hS.st0 1 rfl rfl rfl ?_; clear hS; intro _ hS) | (refine hS.st 1 rfl rfl rfl ?_; clear hS; intro _ hS) | (refine hS.st0 2 rfl rfl rfl ?_; clear hS; intro _ hS) | (refine hS.st 2 rfl rfl rfl ?_; clear hS; intro _ hS) | (refine hS.st0 3 rfl rfl rfl ?_; clear hS; intro _ hS) | (refine hS.st 3 rfl rfl rfl ?_; clear hS; intro _ hS) | (refine hS.st0 4 rfl rfl rfl ?_; clear hS; intro _ hS) | (refine hS.st 4 rfl rfl rfl ?_; clear hS; intro _ hS) | (refine hS.st0 5 rfl rfl rfl ?_; clear hS; intro _ hS) | (refine hS.st 5 rfl rfl rfl ?_; clear hS; intro _ hS) | (refine hS.st0 6 rfl rfl rfl ?_; clear hS; intro _ hS) | (refine hS.st 6 rfl rfl rfl ?_; clear hS; intro _ hS) | (refine hS.st0 7 rfl rfl rfl ?_; clear hS; intro _ hS) | (refine hS.st 7 rfl rfl rfl ?_; clear hS; intro _ hS) | (refine bnd_mk (by decide) (by decide) ?_) | (refine so_i rfl ?_))
  refine rpart_k (b := a) ?_
  intro w2 x2
  have hS := hS.to x2
  repeat (first | (refine asI_i rfl ?_) | (refine asB_i rfl ?_) | (refine asP_i rfl ?_) | (refine asS_i rfl ?_) | (refine asY_i rfl ?_) | (refine asM_i rfl ?_) | (refine asA_i rfl rfl ?_) | (refine asT_i rfl rfl ?_) | (refine lv_i ?_) | (refine St.nw hS ?_; clear hS; intro _ _ hS) | (refine St.dw hS ?_; clear hS; intro _ hS _) | (refine hS.ld0 0 rfl rfl ?_) | (refine hS.ld 0 rfl rfl ?_) | (refine hS.ld0 1 rfl rfl ?_) | (refine hS.ld 1 rfl rfl ?_) | (refine hS.ld0 2 rfl rfl ?_) | (refine hS.ld 2 rfl rfl ?_) | (refine hS.ld0 3 rfl rfl ?_) | (refine hS.ld 3 rfl rfl ?_) | (refine hS.ld0 4 rfl rfl ?_) | (refine hS.ld 4 rfl rfl ?_) | (refine hS.ld0 5 rfl rfl ?_) | (refine hS.ld 5 rfl rfl ?_) | (refine hS.ld0 6 rfl rfl ?_) | (refine hS.ld 6 rfl rfl ?_) | (refine hS.ld0 7 rfl rfl ?_) | (refine hS.ld 7 rfl rfl ?_) | (refine hS.hd0 0 rfl rfl ?_) | (refine hS.hd 0 rfl rfl ?_) | (refine hS.hd0 1 rfl rfl ?_) | (refine hS.hd 1 rfl rfl ?_) | (refine hS.hd0 2 rfl rfl ?_) | (refine hS.hd 2 rfl rfl ?_) | (refine hS.hd0 3 rfl rfl ?_) | (refine hS.hd 3 rfl rfl ?_) | (refine hS.hd0 4 rfl rfl ?_) | (refine hS.hd 4 rfl rfl ?_) | (refine hS.hd0 5 rfl rfl ?_) | (refine hS.hd 5 rfl rfl ?_) | (refine hS.hd0 6 rfl rfl ?_) | (refine hS.hd 6 rfl rfl ?_) | (refine hS.hd0 7 rfl rfl ?_) | (refine hS.hd 7 rfl rfl ?_) | (refine hS.st0 0 rfl rfl rfl ?_; clear hS; intro _ hS) | (refine hS.st 0 rfl rfl rfl ?_; clear hS; intro _ hS) | (refine hS.st0 1 rfl rfl rfl ?_; clear hS; intro _ hS) | (refine hS.st 1 rfl rfl rfl ?_; clear hS; intro _ hS) | (refine hS.st0 2 rfl rfl rfl ?_; clear hS; intro _ hS) | (refine hS.st 2 rfl rfl rfl ?_; clear hS; intro _ hS) | (refine hS.st0 3 rfl rfl rfl ?_; clear hS; intro _ hS) | (refine hS.st 3 rfl rfl rfl ?_; clear hS; intro _ hS) | (refine hS.st0 4 rfl rfl rfl ?_; clear hS; intro _ hS) | (refine hS.st 4 rfl rfl rfl ?_; clear hS; intro _ hS) | (refine hS.st0 5 rfl rfl rfl ?_; clear hS; intro _ hS) | (refine hS.st 5 rfl rfl rfl ?_; clear hS; intro _ hS) | (refine hS.st0 6 rfl rfl rfl ?_; clear hS; intro _ hS) | (refine hS.st 6 rfl rfl rfl ?_; clear hS; intro _ hS) | (refine hS.st0 7 rfl rfl rfl ?_; clear hS; intro _ hS) | (refine hS.st 7 rfl rfl rfl ?_; clear hS; intro _ hS) | (refine bnd_mk (by decide) (by decide) ?_) | (refine so_i rfl ?_))
  refine rpart_k (b := b) ?_
  intro w3 x3
  have hS := hS.to x3
  repeat (first | (refine asI_i rfl ?_) | (refine asB_i rfl ?_) | (refine asP_i rfl ?_) | (refine asS_i rfl ?_) | (refine asY_i rfl ?_) | (refine asM_i rfl ?_) | (refine asA_i rfl rfl ?_) | (refine asT_i rfl rfl ?_) | (refine lv_i ?_) | (refine St.nw hS ?_; clear hS; intro _ _ hS) | (refine St.dw hS ?_; clear hS; intro _ hS _) | (refine hS.ld0 0 rfl rfl ?_) | (refine hS.ld 0 rfl rfl ?_) | (refine hS.ld0 1 rfl rfl ?_) | (refine hS.ld 1 rfl rfl ?_) | (refine hS.ld0 2 rfl rfl ?_) | (refine hS.ld 2 rfl rfl ?_) | (refine hS.ld0 3 rfl rfl ?_) | (refine hS.ld 3 rfl rfl ?_) | (refine hS.ld0 4 rfl rfl ?_) | (refine hS.ld 4 rfl rfl ?_) | (refine hS.ld0 5 rfl rfl ?_) | (refine hS.ld 5 rfl rfl ?_) | (refine hS.ld0 6 rfl rfl ?_) | (refine hS.ld 6 rfl rfl ?_) | (refine hS.ld0 7 rfl rfl ?_) | (refine hS.ld 7 rfl rfl ?_) | (refine hS.hd0 0 rfl rfl ?_) | (refine hS.hd 0 rfl rfl ?_) | (refine hS.hd0 1 rfl rfl ?_) | (refine hS.hd 1 rfl rfl ?_) | (refine hS.hd0 2 rfl rfl ?_) | (refine hS.hd 2 rfl rfl ?_) | (refine hS.hd0 3 rfl rfl ?_) | (refine hS.hd 3 rfl rfl ?_) | (refine hS.hd0 4 rfl rfl ?_) | (refine hS.hd 4 rfl rfl ?_) | (refine hS.hd0 5 rfl rfl ?_) | (refine hS.hd 5 rfl rfl ?_) | (refine hS.hd0 6 rfl rfl ?_) | (refine hS.hd 6 rfl rfl ?_) | (refine hS.hd0 7 rfl rfl ?_) | (refine hS.hd 7 rfl rfl ?_) | (refine hS.st0 0 rfl rfl rfl ?_; clear hS; intro _ hS) | (refine hS.st 0 rfl rfl rfl ?_; clear hS; intro _ hS) | (refine hS.st0 1 rfl rfl rfl ?_; clear hS; intro _ hS) | (refine hS.st 1 rfl rfl rfl ?_; clear hS; intro _ hS) | (refine hS.st0 2 rfl rfl rfl ?_; clear hS; intro _ hS) | (refine hS.st 2 rfl rfl rfl ?_; clear hS; intro _ hS) | (refine hS.st0 3 rfl rfl rfl ?_; clear hS; intro _ hS) | (refine hS.st 3 rfl rfl rfl ?_; clear hS; intro _ hS) | (refine hS.st0 4 rfl rfl rfl ?_; clear hS; intro _ hS) | (refine hS.st 4 rfl rfl rfl ?_; clear hS; intro _ hS) | (refine hS.st0 5 rfl rfl rfl ?_; clear hS; intro _ hS) | (refine hS.st 5 rfl rfl rfl ?_; clear hS; intro _ hS) | (refine hS.st0 6 rfl rfl rfl ?_; clear hS; intro _ hS) | (refine hS.st 6 rfl rfl rfl ?_; clear hS; intro _ hS) | (refine hS.st0 7 rfl rfl rfl ?_; clear hS; intro _ hS) | (refine hS.st 7 rfl rfl rfl ?_; clear hS; intro _ hS) | (refine bnd_mk (by decide) (by decide) ?_) | (refine so_i rfl ?_))
  have h1 := right_at ha (axis != 0)
  have h2 := right_at hb (axis != 0)
  have h3 := (right_iff.1 ha).2.2
  have h4 := (right_iff.1 hb).2.2
  have := hK _ hS.ext
  unfold gap adiff at this
  generalize a.at (axis != 0) = p at *
  generalize b.at (axis != 0) = q at *
  have e : (if q > p then q else p) - (if q < p then q else p) = if q - p > p - q then q - p else p - q := by
    split <;> split <;> split <;> omega
  have hd : 0 ≤ (if q - p > p - q then q - p else p - q) ∧ (if q - p > p - q then q - p else p - q) ≤ 2305843009213693952 := by split <;> omega
  rw [e]
  generalize (if q - p > p - q then q - p else p - q) = D at *
  rw [wr64 (n := D) (by omega) (by omega), wr64 (n := D - a.r) (by omega) (by omega), wr64 (by omega) (by omega)]
  exact this

theorem adiff_le {p q : Int} (hp : -1152921504606846976 ≤ p ∧ p ≤ 1152921504606846976) (hq : -1152921504606846976 ≤ q ∧ q ≤ 1152921504606846976) : 0 ≤ adiff p q ∧ adiff p q ≤ 2305843009213693952 := by
  unfold adiff; split <;> omega

theorem gap_le {a b : Bx} (ha : a.right = true) (hb : b.right = true) (k : Bool) : -2199023255552 ≤ gap a b k ∧ gap a b k ≤ 2305843009213693952 := by
  have := adiff_le (right_at ha k) (right_at hb k)
  have h3 := (right_iff.1 ha).2.2
  have h4 := (right_iff.1 hb).2.2
  unfold gap
  omega

/-- the closure in gaps -/
theorem one_k {a b : Bx} (ha : a.right = true) (hb : b.right = true) {w0 w : World} {rx ry ra rb : Nat} {L : List (Nat × List Value × TypeId)}
    (hS : St w0 w ((rx, [.int .i64 a.x, .int .i64 a.y], 129) :: (ry, [.int .i64 b.x, .int .i64 b.y], 129) :: (rb, b.cells, 25) :: (ra, a.cells, 25) :: L)) (k : Bool) {K : Value → World → Prop}
    (hK : ∀ w', Ext no w w' → K (.int .i64 (gap a b k)) w') :
    cl Try.prog 84 #[.int .i64 (if k then 1 else 0), .pointer (some ⟨rx, 0, none⟩), .pointer (some ⟨ry, 0, none⟩), .pointer (some ⟨ra, 0, none⟩), .pointer (some ⟨rb, 0, none⟩)] w K := by
  have h1 := right_at ha k
  have h2 := right_at hb k
  have h3 := (right_iff.1 ha).2.2
  have h4 := (right_iff.1 hb).2.2
  have hg := adiff_le h1 h2
  have e : ∀ w', Ext no w w' → K (.int .i64 (IntKind.wrap .i64 (IntKind.wrap .i64 ((if (IntKind.wrap .i64 (b.at k - a.at k)) > (IntKind.wrap .i64 (a.at k - b.at k)) then (IntKind.wrap .i64 (b.at k - a.at k)) else (IntKind.wrap .i64 (a.at k - b.at k))) - a.r) - b.r))) w' := by
    intro w' x'
    rw [wr64 (n := b.at k - a.at k) (by omega) (by omega), wr64 (n := a.at k - b.at k) (by omega) (by omega)]
    have := hK w' x'
    unfold gap at this
    unfold adiff at hg this
    generalize (if b.at k - a.at k > a.at k - b.at k then b.at k - a.at k else a.at k - b.at k) = D at *
    rw [wr64 (n := D - a.r) (by omega) (by omega), wr64 (n := D - a.r - b.r) (by omega) (by omega)]
    exact this
  apply F84_calls
  unfold F84
  refine lv_i (St.dw hS ?_)
  clear hS
  intro w' hS x
  cases k
  · refine dr_i (bnd_mk (by decide) (by decide) (hS.ld0 0 rfl rfl (asI_i rfl (dr_i (bnd_mk (by decide) (by decide) (hS.ld0 1 rfl rfl (asI_i rfl ?_)))))))
    refine dr_i (bnd_mk (by decide) (by decide) (hS.ld0 1 rfl rfl (asI_i rfl (dr_i (bnd_mk (by decide) (by decide) (hS.ld0 0 rfl rfl (asI_i rfl ?_)))))))
    refine dr_i (hS.ld 3 rfl rfl (asI_i rfl (dr_i (hS.ld 2 rfl rfl (asI_i rfl (lv_i (e _ x)))))))
  · refine dr_i (bnd_mk (by decide) (by decide) (hS.ld 0 rfl rfl (asI_i rfl (dr_i (bnd_mk (by decide) (by decide) (hS.ld 1 rfl rfl (asI_i rfl ?_)))))))
    refine dr_i (bnd_mk (by decide) (by decide) (hS.ld 1 rfl rfl (asI_i rfl (dr_i (bnd_mk (by decide) (by decide) (hS.ld 0 rfl rfl (asI_i rfl ?_)))))))
    refine dr_i (hS.ld 3 rfl rfl (asI_i rfl (dr_i (hS.ld 2 rfl rfl (asI_i rfl (lv_i (e _ x)))))))

theorem gaps_k {a b : Bx} (ha : a.right = true) (hb : b.right = true) {w : World} {K : Value → World → Prop}
    (hK : ∀ w', Ext no w w' → K (vv (gap a b false) (gap a b true)) w') : cl Try.prog 72 #[a.v, b.v] w K := by
  apply F72_calls
  unfold F72
  have hS := St.start w
  refine St.nw hS ?_
  clear hS
  intro ra wa hS
  refine St.nw hS ?_
  clear hS
  intro rb wb hS
  refine St.nw hS ?_
  clear hS
  intro ro wo hS
  refine jn_of (fun s w' => ∃ rx ry, s = [.pointer (some ⟨rx, 0, none⟩), .pointer (some ⟨ry, 0, none⟩)] ∧ St w w' [(rx, [.int .i64 a.x, .int .i64 a.y], 129), (ry, [.int .i64 b.x, .int .i64 b.y], 129), (ro, [.int .i64 0, .int .i64 0], 129), (rb, b.cells, 25), (ra, a.cells, 25)]) ?_ ?_
  · clear hS
    rintro _ w' ⟨rx, ry, rfl, hS⟩
    have hT : ∀ {w'}, St w w' [(rx, [.int .i64 a.x, .int .i64 a.y], 129), (ry, [.int .i64 b.x, .int .i64 b.y], 129), (ro, [.int .i64 0, .int .i64 0], 129), (rb, b.cells, 25), (ra, a.cells, 25)] →
        St w w' [(rx, [.int .i64 a.x, .int .i64 a.y], 129), (ry, [.int .i64 b.x, .int .i64 b.y], 129), (rb, b.cells, 25), (ra, a.cells, 25)] := fun h =>
      ⟨h.ext, fun c hc => h.kn c (by simp only [List.mem_cons] at hc ⊢; rcases hc with h | h | h | h | h <;> simp [h]), h.nd.sublist (by simp)⟩
    repeat (first | (refine asI_i rfl ?_) | (refine asB_i rfl ?_) | (refine asP_i rfl ?_) | (refine asS_i rfl ?_) | (refine asY_i rfl ?_) | (refine asM_i rfl ?_) | (refine asA_i rfl rfl ?_) | (refine asT_i rfl rfl ?_) | (refine lv_i ?_))
    refine one_k ha hb (hT hS) false ?_
    intro w1 x1
    have hS := hS.to x1
    refine asI_i rfl (one_k ha hb (hT hS) true ?_)
    intro w2 x2
    have hS := hS.to x2
    repeat (first | (refine asI_i rfl ?_) | (refine asB_i rfl ?_) | (refine asP_i rfl ?_) | (refine asS_i rfl ?_) | (refine asY_i rfl ?_) | (refine asM_i rfl ?_) | (refine asA_i rfl rfl ?_) | (refine asT_i rfl rfl ?_) | (refine lv_i ?_) | (refine St.nw hS ?_; clear hS; intro _ _ hS) | (refine St.dw hS ?_; clear hS; intro _ hS _) | (refine hS.ld0 0 rfl rfl ?_) | (refine hS.ld 0 rfl rfl ?_) | (refine hS.ld0 1 rfl rfl ?_) | (refine hS.ld 1 rfl rfl ?_) | (refine hS.ld0 2 rfl rfl ?_) | (refine hS.ld 2 rfl rfl ?_) | (refine hS.ld0 3 rfl rfl ?_) | (refine hS.ld 3 rfl rfl ?_) | (refine hS.ld0 4 rfl rfl ?_) | (refine hS.ld 4 rfl rfl ?_) | (refine hS.ld0 5 rfl rfl ?_) | (refine hS.ld 5 rfl rfl ?_) | (refine hS.ld0 6 rfl rfl ?_) | (refine hS.ld 6 rfl rfl ?_) | (refine hS.ld0 7 rfl rfl ?_) | (refine hS.ld 7 rfl rfl ?_) | (refine hS.hd0 0 rfl rfl ?_) | (refine hS.hd 0 rfl rfl ?_) | (refine hS.hd0 1 rfl rfl ?_) | (refine hS.hd 1 rfl rfl ?_) | (refine hS.hd0 2 rfl rfl ?_) | (refine hS.hd 2 rfl rfl ?_) | (refine hS.hd0 3 rfl rfl ?_) | (refine hS.hd 3 rfl rfl ?_) | (refine hS.hd0 4 rfl rfl ?_) | (refine hS.hd 4 rfl rfl ?_) | (refine hS.hd0 5 rfl rfl ?_) | (refine hS.hd 5 rfl rfl ?_) | (refine hS.hd0 6 rfl rfl ?_) | (refine hS.hd 6 rfl rfl ?_) | (refine hS.hd0 7 rfl rfl ?_) | (refine hS.hd 7 rfl rfl ?_) | (refine hS.st0 0 rfl rfl rfl ?_; clear hS; intro _ hS) | (refine hS.st 0 rfl rfl rfl ?_; clear hS; intro _ hS) | (refine hS.st0 1 rfl rfl rfl ?_; clear hS; intro _ hS) | (refine hS.st 1 rfl rfl rfl ?_; clear hS; intro _ hS) | (refine hS.st0 2 rfl rfl rfl ?_; clear hS; intro _ hS) | (refine hS.st 2 rfl rfl rfl ?_; clear hS; intro _ hS) | (refine hS.st0 3 rfl rfl rfl ?_; clear hS; intro _ hS) | (refine hS.st 3 rfl rfl rfl ?_; clear hS; intro _ hS) | (refine hS.st0 4 rfl rfl rfl ?_; clear hS; intro _ hS) | (refine hS.st 4 rfl rfl rfl ?_; clear hS; intro _ hS) | (refine hS.st0 5 rfl rfl rfl ?_; clear hS; intro _ hS) | (refine hS.st 5 rfl rfl rfl ?_; clear hS; intro _ hS) | (refine hS.st0 6 rfl rfl rfl ?_; clear hS; intro _ hS) | (refine hS.st 6 rfl rfl rfl ?_; clear hS; intro _ hS) | (refine hS.st0 7 rfl rfl rfl ?_; clear hS; intro _ hS) | (refine hS.st 7 rfl rfl rfl ?_; clear hS; intro _ hS) | (refine bnd_mk (by decide) (by decide) ?_) | (refine so_i rfl ?_))
    exact hK _ hS.ext
  · intro J hJ
    repeat' (first | (refine parts_k ?_; intro _ x; replace hS := hS.to x; clear x) | (refine asI_i rfl ?_) | (refine asB_i rfl ?_) | (refine asP_i rfl ?_) | (refine asS_i rfl ?_) | (refine asY_i rfl ?_) | (refine asM_i rfl ?_) | (refine asA_i rfl rfl ?_) | (refine asT_i rfl rfl ?_) | (refine lv_i ?_) | (refine St.nw hS ?_; clear hS; intro _ _ hS) | (refine St.dw hS ?_; clear hS; intro _ hS _) | (refine hS.ld0 0 rfl rfl ?_) | (refine hS.ld 0 rfl rfl ?_) | (refine hS.ld0 1 rfl rfl ?_) | (refine hS.ld 1 rfl rfl ?_) | (refine hS.ld0 2 rfl rfl ?_) | (refine hS.ld 2 rfl rfl ?_) | (refine hS.ld0 3 rfl rfl ?_) | (refine hS.ld 3 rfl rfl ?_) | (refine hS.ld0 4 rfl rfl ?_) | (refine hS.ld 4 rfl rfl ?_) | (refine hS.ld0 5 rfl rfl ?_) | (refine hS.ld 5 rfl rfl ?_) | (refine hS.ld0 6 rfl rfl ?_) | (refine hS.ld 6 rfl rfl ?_) | (refine hS.ld0 7 rfl rfl ?_) | (refine hS.ld 7 rfl rfl ?_) | (refine hS.hd0 0 rfl rfl ?_) | (refine hS.hd 0 rfl rfl ?_) | (refine hS.hd0 1 rfl rfl ?_) | (refine hS.hd 1 rfl rfl ?_) | (refine hS.hd0 2 rfl rfl ?_) | (refine hS.hd 2 rfl rfl ?_) | (refine hS.hd0 3 rfl rfl ?_) | (refine hS.hd 3 rfl rfl ?_) | (refine hS.hd0 4 rfl rfl ?_) | (refine hS.hd 4 rfl rfl ?_) | (refine hS.hd0 5 rfl rfl ?_) | (refine hS.hd 5 rfl rfl ?_) | (refine hS.hd0 6 rfl rfl ?_) | (refine hS.hd 6 rfl rfl ?_) | (refine hS.hd0 7 rfl rfl ?_) | (refine hS.hd 7 rfl rfl ?_) | (refine hS.st0 0 rfl rfl rfl ?_; clear hS; intro _ hS) | (refine hS.st 0 rfl rfl rfl ?_; clear hS; intro _ hS) | (refine hS.st0 1 rfl rfl rfl ?_; clear hS; intro _ hS) | (refine hS.st 1 rfl rfl rfl ?_; clear hS; intro _ hS) | (refine hS.st0 2 rfl rfl rfl ?_; clear hS; intro _ hS) | (refine hS.st 2 rfl rfl rfl ?_; clear hS; intro _ hS) | (refine hS.st0 3 rfl rfl rfl ?_; clear hS; intro _ hS) | (refine hS.st 3 rfl rfl rfl ?_; clear hS; intro _ hS) | (refine hS.st0 4 rfl rfl rfl ?_; clear hS; intro _ hS) | (refine hS.st 4 rfl rfl rfl ?_; clear hS; intro _ hS) | (refine hS.st0 5 rfl rfl rfl ?_; clear hS; intro _ hS) | (refine hS.st 5 rfl rfl rfl ?_; clear hS; intro _ hS) | (refine hS.st0 6 rfl rfl rfl ?_; clear hS; intro _ hS) | (refine hS.st 6 rfl rfl rfl ?_; clear hS; intro _ hS) | (refine hS.st0 7 rfl rfl rfl ?_; clear hS; intro _ hS) | (refine hS.st 7 rfl rfl rfl ?_; clear hS; intro _ hS) | (refine bnd_mk (by decide) (by decide) ?_) | (refine so_i rfl ?_) | (refine And.intro ?_ ?_))
    all_goals first | exact hJ _ _ ⟨_, _, rfl, hS⟩ | exact hJ _ _ ⟨_, _, rfl, hS.swap⟩

/-- what is told of two boxes -/
def gapV (a b : Bx) : Int × Int × Int := if a.right = true ∧ b.right = true then (gap a b false, gap a b true, 0) else (0, 0, 60)
def t3 (p : Int × Int × Int) : Value := .tuple #[.int .i64 p.1, .int .i64 p.2.1, .int .i64 p.2.2]

theorem rightE_ne {b : Bx} : (b.rightE != 0) = !b.right := by
  unfold Bx.rightE
  cases b.right <;> rfl

theorem gap_k {a b : Bx} {w : World} {K : Value → World → Prop} (hK : ∀ w', Ext no w w' → K (t3 (gapV a b)) w') : cl Try.prog 51 #[a.v, b.v] w K := by
  apply F51_calls
  unfold F51
  have hS := St.start w
  refine St.nw hS ?_
  clear hS
  intro ra wa hS
  refine St.nw hS ?_
  clear hS
  intro rb wb hS
  repeat (first | (refine asI_i rfl ?_) | (refine asB_i rfl ?_) | (refine asP_i rfl ?_) | (refine asS_i rfl ?_) | (refine asY_i rfl ?_) | (refine asM_i rfl ?_) | (refine asA_i rfl rfl ?_) | (refine asT_i rfl rfl ?_) | (refine lv_i ?_))
  refine jn_of (fun s w' => s = [.bool (!(a.right && b.right))] ∧ St w w' [(rb, b.cells, 25), (ra, a.cells, 25)]) ?_ ?_
  · clear hS
    rintro _ w' ⟨rfl, hS⟩
    refine asB_i rfl (cond_split (fun h => ?_) (fun h => ?_))
    · repeat (first | (refine asI_i rfl ?_) | (refine asB_i rfl ?_) | (refine asP_i rfl ?_) | (refine asS_i rfl ?_) | (refine asY_i rfl ?_) | (refine asM_i rfl ?_) | (refine asA_i rfl rfl ?_) | (refine asT_i rfl rfl ?_) | (refine lv_i ?_))
      have : gapV a b = (0, 0, 60) := by
        unfold gapV
        rw [if_neg]
        rintro ⟨h1, h2⟩
        rw [h1, h2] at h
        cases h
      have hk := hK _ hS.ext
      rw [this] at hk
      exact hk
    · have h' : a.right = true ∧ b.right = true := by simpa using h
      have hv : gapV a b = (gap a b false, gap a b true, 0) := by unfold gapV; rw [if_pos h']
      repeat (first | (refine gaps_k h'.1 h'.2 ?_; intro _ x; replace hS := hS.to x; clear x) | (refine asI_i rfl ?_) | (refine asB_i rfl ?_) | (refine asP_i rfl ?_) | (refine asS_i rfl ?_) | (refine asY_i rfl ?_) | (refine asM_i rfl ?_) | (refine asA_i rfl rfl ?_) | (refine asT_i rfl rfl ?_) | (refine lv_i ?_) | (refine St.nw hS ?_; clear hS; intro _ _ hS) | (refine St.dw hS ?_; clear hS; intro _ hS _) | (refine hS.ld0 0 rfl rfl ?_) | (refine hS.ld 0 rfl rfl ?_) | (refine hS.ld0 1 rfl rfl ?_) | (refine hS.ld 1 rfl rfl ?_) | (refine hS.ld0 2 rfl rfl ?_) | (refine hS.ld 2 rfl rfl ?_) | (refine hS.ld0 3 rfl rfl ?_) | (refine hS.ld 3 rfl rfl ?_) | (refine hS.ld0 4 rfl rfl ?_) | (refine hS.ld 4 rfl rfl ?_) | (refine hS.ld0 5 rfl rfl ?_) | (refine hS.ld 5 rfl rfl ?_) | (refine hS.ld0 6 rfl rfl ?_) | (refine hS.ld 6 rfl rfl ?_) | (refine hS.ld0 7 rfl rfl ?_) | (refine hS.ld 7 rfl rfl ?_) | (refine hS.hd0 0 rfl rfl ?_) | (refine hS.hd 0 rfl rfl ?_) | (refine hS.hd0 1 rfl rfl ?_) | (refine hS.hd 1 rfl rfl ?_) | (refine hS.hd0 2 rfl rfl ?_) | (refine hS.hd 2 rfl rfl ?_) | (refine hS.hd0 3 rfl rfl ?_) | (refine hS.hd 3 rfl rfl ?_) | (refine hS.hd0 4 rfl rfl ?_) | (refine hS.hd 4 rfl rfl ?_) | (refine hS.hd0 5 rfl rfl ?_) | (refine hS.hd 5 rfl rfl ?_) | (refine hS.hd0 6 rfl rfl ?_) | (refine hS.hd 6 rfl rfl ?_) | (refine hS.hd0 7 rfl rfl ?_) | (refine hS.hd 7 rfl rfl ?_) | (refine hS.st0 0 rfl rfl rfl ?_; clear hS; intro _ hS) | (refine hS.st 0 rfl rfl rfl ?_; clear hS; intro _ hS) | (refine hS.st0 1 rfl rfl rfl ?_; clear hS; intro _ hS) | (refine hS.st 1 rfl rfl rfl ?_; clear hS; intro _ hS) | (refine hS.st0 2 rfl rfl rfl ?_; clear hS; intro _ hS) | (refine hS.st 2 rfl rfl rfl ?_; clear hS; intro _ hS) | (refine hS.st0 3 rfl rfl rfl ?_; clear hS; intro _ hS) | (refine hS.st 3 rfl rfl rfl ?_; clear hS; intro _ hS) | (refine hS.st0 4 rfl rfl rfl ?_; clear hS; intro _ hS) | (refine hS.st 4 rfl rfl rfl ?_; clear hS; intro _ hS) | (refine hS.st0 5 rfl rfl rfl ?_; clear hS; intro _ hS) | (refine hS.st 5 rfl rfl rfl ?_; clear hS; intro _ hS) | (refine hS.st0 6 rfl rfl rfl ?_; clear hS; intro _ hS) | (refine hS.st 6 rfl rfl rfl ?_; clear hS; intro _ hS) | (refine hS.st0 7 rfl rfl rfl ?_; clear hS; intro _ hS) | (refine hS.st 7 rfl rfl rfl ?_; clear hS; intro _ hS) | (refine bnd_mk (by decide) (by decide) ?_) | (refine so_i rfl ?_))
      have hk := hK _ hS.ext
      rw [hv] at hk
      exact hk
  · intro J hJ
    repeat (first | (refine right_k ?_; intro _ x; replace hS := hS.to x; clear x) | (refine asI_i rfl ?_) | (refine asB_i rfl ?_) | (refine asP_i rfl ?_) | (refine asS_i rfl ?_) | (refine asY_i rfl ?_) | (refine asM_i rfl ?_) | (refine asA_i rfl rfl ?_) | (refine asT_i rfl rfl ?_) | (refine lv_i ?_) | (refine St.nw hS ?_; clear hS; intro _ _ hS) | (refine St.dw hS ?_; clear hS; intro _ hS _) | (refine hS.ld0 0 rfl rfl ?_) | (refine hS.ld 0 rfl rfl ?_) | (refine hS.ld0 1 rfl rfl ?_) | (refine hS.ld 1 rfl rfl ?_) | (refine hS.ld0 2 rfl rfl ?_) | (refine hS.ld 2 rfl rfl ?_) | (refine hS.ld0 3 rfl rfl ?_) | (refine hS.ld 3 rfl rfl ?_) | (refine hS.ld0 4 rfl rfl ?_) | (refine hS.ld 4 rfl rfl ?_) | (refine hS.ld0 5 rfl rfl ?_) | (refine hS.ld 5 rfl rfl ?_) | (refine hS.ld0 6 rfl rfl ?_) | (refine hS.ld 6 rfl rfl ?_) | (refine hS.ld0 7 rfl rfl ?_) | (refine hS.ld 7 rfl rfl ?_) | (refine hS.hd0 0 rfl rfl ?_) | (refine hS.hd 0 rfl rfl ?_) | (refine hS.hd0 1 rfl rfl ?_) | (refine hS.hd 1 rfl rfl ?_) | (refine hS.hd0 2 rfl rfl ?_) | (refine hS.hd 2 rfl rfl ?_) | (refine hS.hd0 3 rfl rfl ?_) | (refine hS.hd 3 rfl rfl ?_) | (refine hS.hd0 4 rfl rfl ?_) | (refine hS.hd 4 rfl rfl ?_) | (refine hS.hd0 5 rfl rfl ?_) | (refine hS.hd 5 rfl rfl ?_) | (refine hS.hd0 6 rfl rfl ?_) | (refine hS.hd 6 rfl rfl ?_) | (refine hS.hd0 7 rfl rfl ?_) | (refine hS.hd 7 rfl rfl ?_) | (refine hS.st0 0 rfl rfl rfl ?_; clear hS; intro _ hS) | (refine hS.st 0 rfl rfl rfl ?_; clear hS; intro _ hS) | (refine hS.st0 1 rfl rfl rfl ?_; clear hS; intro _ hS) | (refine hS.st 1 rfl rfl rfl ?_; clear hS; intro _ hS) | (refine hS.st0 2 rfl rfl rfl ?_; clear hS; intro _ hS) | (refine hS.st 2 rfl rfl rfl ?_; clear hS; intro _ hS) | (refine hS.st0 3 rfl rfl rfl ?_; clear hS; intro _ hS) | (refine hS.st 3 rfl rfl rfl ?_; clear hS; intro _ hS) | (refine hS.st0 4 rfl rfl rfl ?_; clear hS; intro _ hS) | (refine hS.st 4 rfl rfl rfl ?_; clear hS; intro _ hS) | (refine hS.st0 5 rfl rfl rfl ?_; clear hS; intro _ hS) | (refine hS.st 5 rfl rfl rfl ?_; clear hS; intro _ hS) | (refine hS.st0 6 rfl rfl rfl ?_; clear hS; intro _ hS) | (refine hS.st 6 rfl rfl rfl ?_; clear hS; intro _ hS) | (refine hS.st0 7 rfl rfl rfl ?_; clear hS; intro _ hS) | (refine hS.st 7 rfl rfl rfl ?_; clear hS; intro _ hS) | (refine bnd_mk (by decide) (by decide) ?_) | (refine so_i rfl ?_))
    refine cond_split (fun h => hJ _ _ ⟨?_, hS⟩) (fun h => ?_)
    · rw [rightE_ne] at h
      have : a.right = false := by simpa using h
      simp [this]
    · rw [rightE_ne] at h
      have h1 : a.right = true := by simpa using h
      repeat (first | (refine right_k ?_; intro _ x; replace hS := hS.to x; clear x) | (refine asI_i rfl ?_) | (refine asB_i rfl ?_) | (refine asP_i rfl ?_) | (refine asS_i rfl ?_) | (refine asY_i rfl ?_) | (refine asM_i rfl ?_) | (refine asA_i rfl rfl ?_) | (refine asT_i rfl rfl ?_) | (refine lv_i ?_) | (refine St.nw hS ?_; clear hS; intro _ _ hS) | (refine St.dw hS ?_; clear hS; intro _ hS _) | (refine hS.ld0 0 rfl rfl ?_) | (refine hS.ld 0 rfl rfl ?_) | (refine hS.ld0 1 rfl rfl ?_) | (refine hS.ld 1 rfl rfl ?_) | (refine hS.ld0 2 rfl rfl ?_) | (refine hS.ld 2 rfl rfl ?_) | (refine hS.ld0 3 rfl rfl ?_) | (refine hS.ld 3 rfl rfl ?_) | (refine hS.ld0 4 rfl rfl ?_) | (refine hS.ld 4 rfl rfl ?_) | (refine hS.ld0 5 rfl rfl ?_) | (refine hS.ld 5 rfl rfl ?_) | (refine hS.ld0 6 rfl rfl ?_) | (refine hS.ld 6 rfl rfl ?_) | (refine hS.ld0 7 rfl rfl ?_) | (refine hS.ld 7 rfl rfl ?_) | (refine hS.hd0 0 rfl rfl ?_) | (refine hS.hd 0 rfl rfl ?_) | (refine hS.hd0 1 rfl rfl ?_) | (refine hS.hd 1 rfl rfl ?_) | (refine hS.hd0 2 rfl rfl ?_) | (refine hS.hd 2 rfl rfl ?_) | (refine hS.hd0 3 rfl rfl ?_) | (refine hS.hd 3 rfl rfl ?_) | (refine hS.hd0 4 rfl rfl ?_) | (refine hS.hd 4 rfl rfl ?_) | (refine hS.hd0 5 rfl rfl ?_) | (refine hS.hd 5 rfl rfl ?_) | (refine hS.hd0 6 rfl rfl ?_) | (refine hS.hd 6 rfl rfl ?_) | (refine hS.hd0 7 rfl rfl ?_) | (refine hS.hd 7 rfl rfl ?_) | (refine hS.st0 0 rfl rfl rfl ?_; clear hS; intro _ hS) | (refine hS.st 0 rfl rfl rfl ?_; clear hS; intro _ hS) | (refine hS.st0 1 rfl rfl rfl ?_; clear hS; intro _ hS) | (refine hS.st 1 rfl rfl rfl ?_; clear hS; intro _ hS) | (refine hS.st0 2 rfl rfl rfl ?_; clear hS; intro _ hS) | (refine hS.st 2 rfl rfl rfl ?_; clear hS; intro _ hS) | (refine hS.st0 3 rfl rfl rfl ?_; clear hS; intro _ hS) | (refine hS.st 3 rfl rfl rfl ?_; clear hS; intro _ hS) | (refine hS.st0 4 rfl rfl rfl ?_; clear hS; intro _ hS) | (refine hS.st 4 rfl rfl rfl ?_; clear hS; intro _ hS) | (refine hS.st0 5 rfl rfl rfl ?_; clear hS; intro _ hS) | (refine hS.st 5 rfl rfl rfl ?_; clear hS; intro _ hS) | (refine hS.st0 6 rfl rfl rfl ?_; clear hS; intro _ hS) | (refine hS.st 6 rfl rfl rfl ?_; clear hS; intro _ hS) | (refine hS.st0 7 rfl rfl rfl ?_; clear hS; intro _ hS) | (refine hS.st 7 rfl rfl rfl ?_; clear hS; intro _ hS) | (refine bnd_mk (by decide) (by decide) ?_) | (refine so_i rfl ?_))
      refine hJ _ _ ⟨?_, hS⟩
      rw [rightE_ne, h1]
      rfl

/-- whether two meet -/
def meetV (a b : Bx) : Bool × Int := (decide ((gapV a b).1 < 0) && decide ((gapV a b).2.1 < 0), (gapV a b).2.2)
def t2 (p : Bool × Int) : Value := .tuple #[.bool p.1, .int .i64 p.2]

theorem meet_k {a b : Bx} {w : World} {K : Value → World → Prop} (hK : ∀ w', Ext no w w' → K (t2 (meetV a b)) w') : cl Try.prog 28 #[a.v, b.v] w K := by
  apply F28_calls
  unfold F28
  have hS := St.start w
  repeat (first | (refine gap_k ?_; intro _ x; replace hS := hS.to x; clear x) | (refine asI_i rfl ?_) | (refine asB_i rfl ?_) | (refine asP_i rfl ?_) | (refine asS_i rfl ?_) | (refine asY_i rfl ?_) | (refine asM_i rfl ?_) | (refine asA_i rfl rfl ?_) | (refine asT_i rfl rfl ?_) | (refine lv_i ?_) | (refine St.nw hS ?_; clear hS; intro _ _ hS) | (refine St.dw hS ?_; clear hS; intro _ hS _) | (refine hS.ld0 0 rfl rfl ?_) | (refine hS.ld 0 rfl rfl ?_) | (refine hS.ld0 1 rfl rfl ?_) | (refine hS.ld 1 rfl rfl ?_) | (refine hS.ld0 2 rfl rfl ?_) | (refine hS.ld 2 rfl rfl ?_) | (refine hS.ld0 3 rfl rfl ?_) | (refine hS.ld 3 rfl rfl ?_) | (refine hS.ld0 4 rfl rfl ?_) | (refine hS.ld 4 rfl rfl ?_) | (refine hS.ld0 5 rfl rfl ?_) | (refine hS.ld 5 rfl rfl ?_) | (refine hS.ld0 6 rfl rfl ?_) | (refine hS.ld 6 rfl rfl ?_) | (refine hS.ld0 7 rfl rfl ?_) | (refine hS.ld 7 rfl rfl ?_) | (refine hS.hd0 0 rfl rfl ?_) | (refine hS.hd 0 rfl rfl ?_) | (refine hS.hd0 1 rfl rfl ?_) | (refine hS.hd 1 rfl rfl ?_) | (refine hS.hd0 2 rfl rfl ?_) | (refine hS.hd 2 rfl rfl ?_) | (refine hS.hd0 3 rfl rfl ?_) | (refine hS.hd 3 rfl rfl ?_) | (refine hS.hd0 4 rfl rfl ?_) | (refine hS.hd 4 rfl rfl ?_) | (refine hS.hd0 5 rfl rfl ?_) | (refine hS.hd 5 rfl rfl ?_) | (refine hS.hd0 6 rfl rfl ?_) | (refine hS.hd 6 rfl rfl ?_) | (refine hS.hd0 7 rfl rfl ?_) | (refine hS.hd 7 rfl rfl ?_) | (refine hS.st0 0 rfl rfl rfl ?_; clear hS; intro _ hS) | (refine hS.st 0 rfl rfl rfl ?_; clear hS; intro _ hS) | (refine hS.st0 1 rfl rfl rfl ?_; clear hS; intro _ hS) | (refine hS.st 1 rfl rfl rfl ?_; clear hS; intro _ hS) | (refine hS.st0 2 rfl rfl rfl ?_; clear hS; intro _ hS) | (refine hS.st 2 rfl rfl rfl ?_; clear hS; intro _ hS) | (refine hS.st0 3 rfl rfl rfl ?_; clear hS; intro _ hS) | (refine hS.st 3 rfl rfl rfl ?_; clear hS; intro _ hS) | (refine hS.st0 4 rfl rfl rfl ?_; clear hS; intro _ hS) | (refine hS.st 4 rfl rfl rfl ?_; clear hS; intro _ hS) | (refine hS.st0 5 rfl rfl rfl ?_; clear hS; intro _ hS) | (refine hS.st 5 rfl rfl rfl ?_; clear hS; intro _ hS) | (refine hS.st0 6 rfl rfl rfl ?_; clear hS; intro _ hS) | (refine hS.st 6 rfl rfl rfl ?_; clear hS; intro _ hS) | (refine hS.st0 7 rfl rfl rfl ?_; clear hS; intro _ hS) | (refine hS.st 7 rfl rfl rfl ?_; clear hS; intro _ hS) | (refine bnd_mk (by decide) (by decide) ?_) | (refine so_i rfl ?_))
  refine jn_mk (cond_split (fun h => ?_) (fun h => ?_))
  · repeat (first | (refine asI_i rfl ?_) | (refine asB_i rfl ?_) | (refine asP_i rfl ?_) | (refine asS_i rfl ?_) | (refine asY_i rfl ?_) | (refine asM_i rfl ?_) | (refine asA_i rfl rfl ?_) | (refine asT_i rfl rfl ?_) | (refine lv_i ?_))
    have hk := hK _ hS.ext
    unfold t2 meetV at hk
    rw [h] at hk
    exact hk
  · repeat (first | (refine asI_i rfl ?_) | (refine asB_i rfl ?_) | (refine asP_i rfl ?_) | (refine asS_i rfl ?_) | (refine asY_i rfl ?_) | (refine asM_i rfl ?_) | (refine asA_i rfl rfl ?_) | (refine asT_i rfl rfl ?_) | (refine lv_i ?_))
    have hk := hK _ hS.ext
    unfold t2 meetV at hk
    rw [h] at hk
    exact hk

theorem rgapv_k {a b : Bx} {w : World} {K : Value → World → Prop} (hK : ∀ w', Ext no w w' → K (t3 (gapV a b)) w') : cl Try.prog 88 #[a.v, b.v] w K := by
  apply F88_calls
  unfold F88
  have hS := St.start w
  refine St.nw hS ?_
  clear hS
  intro ra wa hS
  refine St.nw hS ?_
  clear hS
  intro rb wb hS
  repeat (first | (refine rright_k ?_; intro _ x; replace hS := hS.to x; clear x) | (refine asI_i rfl ?_) | (refine asB_i rfl ?_) | (refine asP_i rfl ?_) | (refine asS_i rfl ?_) | (refine asY_i rfl ?_) | (refine asM_i rfl ?_) | (refine asA_i rfl rfl ?_) | (refine asT_i rfl rfl ?_) | (refine lv_i ?_) | (refine St.nw hS ?_; clear hS; intro _ _ hS) | (refine St.dw hS ?_; clear hS; intro _ hS _) | (refine hS.ld0 0 rfl rfl ?_) | (refine hS.ld 0 rfl rfl ?_) | (refine hS.ld0 1 rfl rfl ?_) | (refine hS.ld 1 rfl rfl ?_) | (refine hS.ld0 2 rfl rfl ?_) | (refine hS.ld 2 rfl rfl ?_) | (refine hS.ld0 3 rfl rfl ?_) | (refine hS.ld 3 rfl rfl ?_) | (refine hS.ld0 4 rfl rfl ?_) | (refine hS.ld 4 rfl rfl ?_) | (refine hS.ld0 5 rfl rfl ?_) | (refine hS.ld 5 rfl rfl ?_) | (refine hS.ld0 6 rfl rfl ?_) | (refine hS.ld 6 rfl rfl ?_) | (refine hS.ld0 7 rfl rfl ?_) | (refine hS.ld 7 rfl rfl ?_) | (refine hS.hd0 0 rfl rfl ?_) | (refine hS.hd 0 rfl rfl ?_) | (refine hS.hd0 1 rfl rfl ?_) | (refine hS.hd 1 rfl rfl ?_) | (refine hS.hd0 2 rfl rfl ?_) | (refine hS.hd 2 rfl rfl ?_) | (refine hS.hd0 3 rfl rfl ?_) | (refine hS.hd 3 rfl rfl ?_) | (refine hS.hd0 4 rfl rfl ?_) | (refine hS.hd 4 rfl rfl ?_) | (refine hS.hd0 5 rfl rfl ?_) | (refine hS.hd 5 rfl rfl ?_) | (refine hS.hd0 6 rfl rfl ?_) | (refine hS.hd 6 rfl rfl ?_) | (refine hS.hd0 7 rfl rfl ?_) | (refine hS.hd 7 rfl rfl ?_) | (refine hS.st0 0 rfl rfl rfl ?_; clear hS; intro _ hS) | (refine hS.st 0 rfl rfl rfl ?_; clear hS; intro _ hS) | (refine hS.st0 1 rfl rfl rfl ?_; clear hS; intro _ hS) | (refine hS.st 1 rfl rfl rfl ?_; clear hS; intro _ hS) | (refine hS.st0 2 rfl rfl rfl ?_; clear hS; intro _ hS) | (refine hS.st 2 rfl rfl rfl ?_; clear hS; intro _ hS) | (refine hS.st0 3 rfl rfl rfl ?_; clear hS; intro _ hS) | (refine hS.st 3 rfl rfl rfl ?_; clear hS; intro _ hS) | (refine hS.st0 4 rfl rfl rfl ?_; clear hS; intro _ hS) | (refine hS.st 4 rfl rfl rfl ?_; clear hS; intro _ hS) | (refine hS.st0 5 rfl rfl rfl ?_; clear hS; intro _ hS) | (refine hS.st 5 rfl rfl rfl ?_; clear hS; intro _ hS) | (refine hS.st0 6 rfl rfl rfl ?_; clear hS; intro _ hS) | (refine hS.st 6 rfl rfl rfl ?_; clear hS; intro _ hS) | (refine hS.st0 7 rfl rfl rfl ?_; clear hS; intro _ hS) | (refine hS.st 7 rfl rfl rfl ?_; clear hS; intro _ hS) | (refine bnd_mk (by decide) (by decide) ?_) | (refine so_i rfl ?_))
  refine jn_of (fun s w' => s = [.bool (!(a.right && b.right))] ∧ St w w' [(rb, b.cells, 25), (ra, a.cells, 25)]) ?_ ?_
  · clear hS
    rintro _ w' ⟨rfl, hS⟩
    refine asB_i rfl (cond_split (fun h => ?_) (fun h => ?_))
    · repeat (first | (refine asI_i rfl ?_) | (refine asB_i rfl ?_) | (refine asP_i rfl ?_) | (refine asS_i rfl ?_) | (refine asY_i rfl ?_) | (refine asM_i rfl ?_) | (refine asA_i rfl rfl ?_) | (refine asT_i rfl rfl ?_) | (refine lv_i ?_))
      have : gapV a b = (0, 0, 60) := by
        unfold gapV
        rw [if_neg]
        rintro ⟨h1, h2⟩
        rw [h1, h2] at h
        cases h
      have hk := hK _ hS.ext
      rw [this] at hk
      exact hk
    · have h' : a.right = true ∧ b.right = true := by simpa using h
      have hv : gapV a b = (gap a b false, gap a b true, 0) := by unfold gapV; rw [if_pos h']
      repeat (first | (refine rgap_k h'.1 h'.2 ?_; intro _ x; replace hS := hS.to x; clear x) | (refine asI_i rfl ?_) | (refine asB_i rfl ?_) | (refine asP_i rfl ?_) | (refine asS_i rfl ?_) | (refine asY_i rfl ?_) | (refine asM_i rfl ?_) | (refine asA_i rfl rfl ?_) | (refine asT_i rfl rfl ?_) | (refine lv_i ?_) | (refine St.nw hS ?_; clear hS; intro _ _ hS) | (refine St.dw hS ?_; clear hS; intro _ hS _) | (refine hS.ld0 0 rfl rfl ?_) | (refine hS.ld 0 rfl rfl ?_) | (refine hS.ld0 1 rfl rfl ?_) | (refine hS.ld 1 rfl rfl ?_) | (refine hS.ld0 2 rfl rfl ?_) | (refine hS.ld 2 rfl rfl ?_) | (refine hS.ld0 3 rfl rfl ?_) | (refine hS.ld 3 rfl rfl ?_) | (refine hS.ld0 4 rfl rfl ?_) | (refine hS.ld 4 rfl rfl ?_) | (refine hS.ld0 5 rfl rfl ?_) | (refine hS.ld 5 rfl rfl ?_) | (refine hS.ld0 6 rfl rfl ?_) | (refine hS.ld 6 rfl rfl ?_) | (refine hS.ld0 7 rfl rfl ?_) | (refine hS.ld 7 rfl rfl ?_) | (refine hS.hd0 0 rfl rfl ?_) | (refine hS.hd 0 rfl rfl ?_) | (refine hS.hd0 1 rfl rfl ?_) | (refine hS.hd 1 rfl rfl ?_) | (refine hS.hd0 2 rfl rfl ?_) | (refine hS.hd 2 rfl rfl ?_) | (refine hS.hd0 3 rfl rfl ?_) | (refine hS.hd 3 rfl rfl ?_) | (refine hS.hd0 4 rfl rfl ?_) | (refine hS.hd 4 rfl rfl ?_) | (refine hS.hd0 5 rfl rfl ?_) | (refine hS.hd 5 rfl rfl ?_) | (refine hS.hd0 6 rfl rfl ?_) | (refine hS.hd 6 rfl rfl ?_) | (refine hS.hd0 7 rfl rfl ?_) | (refine hS.hd 7 rfl rfl ?_) | (refine hS.st0 0 rfl rfl rfl ?_; clear hS; intro _ hS) | (refine hS.st 0 rfl rfl rfl ?_; clear hS; intro _ hS) | (refine hS.st0 1 rfl rfl rfl ?_; clear hS; intro _ hS) | (refine hS.st 1 rfl rfl rfl ?_; clear hS; intro _ hS) | (refine hS.st0 2 rfl rfl rfl ?_; clear hS; intro _ hS) | (refine hS.st 2 rfl rfl rfl ?_; clear hS; intro _ hS) | (refine hS.st0 3 rfl rfl rfl ?_; clear hS; intro _ hS) | (refine hS.st 3 rfl rfl rfl ?_; clear hS; intro _ hS) | (refine hS.st0 4 rfl rfl rfl ?_; clear hS; intro _ hS) | (refine hS.st 4 rfl rfl rfl ?_; clear hS; intro _ hS) | (refine hS.st0 5 rfl rfl rfl ?_; clear hS; intro _ hS) | (refine hS.st 5 rfl rfl rfl ?_; clear hS; intro _ hS) | (refine hS.st0 6 rfl rfl rfl ?_; clear hS; intro _ hS) | (refine hS.st 6 rfl rfl rfl ?_; clear hS; intro _ hS) | (refine hS.st0 7 rfl rfl rfl ?_; clear hS; intro _ hS) | (refine hS.st 7 rfl rfl rfl ?_; clear hS; intro _ hS) | (refine bnd_mk (by decide) (by decide) ?_) | (refine so_i rfl ?_))
      have hk := hK _ hS.ext
      rw [hv] at hk
      exact hk
  · intro J hJ
    refine cond_split (fun h => hJ _ _ ⟨?_, hS⟩) (fun h => hJ _ _ ⟨?_, hS⟩)
    · have : a.right = false := by simpa using h
      simp [this]
    · have : a.right = true := by simpa using h
      simp [this]

theorem gapV_bad {a b : Bx} (h : (gapV a b).2.2 ≠ 0) : (gapV a b).1 = 0 ∧ (gapV a b).2.1 = 0 := by
  unfold gapV at h ⊢
  split
  · rename_i hh
    rw [if_pos hh] at h
    exact absurd rfl h
  · exact ⟨rfl, rfl⟩

theorem rmeet_k {a b : Bx} {w : World} {K : Value → World → Prop} (hK : ∀ w', Ext no w w' → K (t2 (meetV a b)) w') : cl Try.prog 77 #[a.v, b.v] w K := by
  apply F77_calls
  unfold F77
  have hS := St.start w
  repeat (first | (refine rgapv_k ?_; intro _ x; replace hS := hS.to x; clear x) | (refine asI_i rfl ?_) | (refine asB_i rfl ?_) | (refine asP_i rfl ?_) | (refine asS_i rfl ?_) | (refine asY_i rfl ?_) | (refine asM_i rfl ?_) | (refine asA_i rfl rfl ?_) | (refine asT_i rfl rfl ?_) | (refine lv_i ?_) | (refine St.nw hS ?_; clear hS; intro _ _ hS) | (refine St.dw hS ?_; clear hS; intro _ hS _) | (refine hS.ld0 0 rfl rfl ?_) | (refine hS.ld 0 rfl rfl ?_) | (refine hS.ld0 1 rfl rfl ?_) | (refine hS.ld 1 rfl rfl ?_) | (refine hS.ld0 2 rfl rfl ?_) | (refine hS.ld 2 rfl rfl ?_) | (refine hS.ld0 3 rfl rfl ?_) | (refine hS.ld 3 rfl rfl ?_) | (refine hS.ld0 4 rfl rfl ?_) | (refine hS.ld 4 rfl rfl ?_) | (refine hS.ld0 5 rfl rfl ?_) | (refine hS.ld 5 rfl rfl ?_) | (refine hS.ld0 6 rfl rfl ?_) | (refine hS.ld 6 rfl rfl ?_) | (refine hS.ld0 7 rfl rfl ?_) | (refine hS.ld 7 rfl rfl ?_) | (refine hS.hd0 0 rfl rfl ?_) | (refine hS.hd 0 rfl rfl ?_) | (refine hS.hd0 1 rfl rfl ?_) | (refine hS.hd 1 rfl rfl ?_) | (refine hS.hd0 2 rfl rfl ?_) | (refine hS.hd 2 rfl rfl ?_) | (refine hS.hd0 3 rfl rfl ?_) | (refine hS.hd 3 rfl rfl ?_) | (refine hS.hd0 4 rfl rfl ?_) | (refine hS.hd 4 rfl rfl ?_) | (refine hS.hd0 5 rfl rfl ?_) | (refine hS.hd 5 rfl rfl ?_) | (refine hS.hd0 6 rfl rfl ?_) | (refine hS.hd 6 rfl rfl ?_) | (refine hS.hd0 7 rfl rfl ?_) | (refine hS.hd 7 rfl rfl ?_) | (refine hS.st0 0 rfl rfl rfl ?_; clear hS; intro _ hS) | (refine hS.st 0 rfl rfl rfl ?_; clear hS; intro _ hS) | (refine hS.st0 1 rfl rfl rfl ?_; clear hS; intro _ hS) | (refine hS.st 1 rfl rfl rfl ?_; clear hS; intro _ hS) | (refine hS.st0 2 rfl rfl rfl ?_; clear hS; intro _ hS) | (refine hS.st 2 rfl rfl rfl ?_; clear hS; intro _ hS) | (refine hS.st0 3 rfl rfl rfl ?_; clear hS; intro _ hS) | (refine hS.st 3 rfl rfl rfl ?_; clear hS; intro _ hS) | (refine hS.st0 4 rfl rfl rfl ?_; clear hS; intro _ hS) | (refine hS.st 4 rfl rfl rfl ?_; clear hS; intro _ hS) | (refine hS.st0 5 rfl rfl rfl ?_; clear hS; intro _ hS) | (refine hS.st 5 rfl rfl rfl ?_; clear hS; intro _ hS) | (refine hS.st0 6 rfl rfl rfl ?_; clear hS; intro _ hS) | (refine hS.st 6 rfl rfl rfl ?_; clear hS; intro _ hS) | (refine hS.st0 7 rfl rfl rfl ?_; clear hS; intro _ hS) | (refine hS.st 7 rfl rfl rfl ?_; clear hS; intro _ hS) | (refine bnd_mk (by decide) (by decide) ?_) | (refine so_i rfl ?_))
  refine jn_mk (cond_split (fun h0 => cond_split (fun h => ?_) (fun h => ?_)) (fun h0 => ?_))
  · repeat (first | (refine asI_i rfl ?_) | (refine asB_i rfl ?_) | (refine asP_i rfl ?_) | (refine asS_i rfl ?_) | (refine asY_i rfl ?_) | (refine asM_i rfl ?_) | (refine asA_i rfl rfl ?_) | (refine asT_i rfl rfl ?_) | (refine lv_i ?_))
    have hk := hK _ hS.ext
    unfold t2 meetV at hk
    rw [h] at hk
    exact hk
  · repeat (first | (refine asI_i rfl ?_) | (refine asB_i rfl ?_) | (refine asP_i rfl ?_) | (refine asS_i rfl ?_) | (refine asY_i rfl ?_) | (refine asM_i rfl ?_) | (refine asA_i rfl rfl ?_) | (refine asT_i rfl rfl ?_) | (refine lv_i ?_))
    have hk := hK _ hS.ext
    unfold t2 meetV at hk
    rw [h] at hk
    exact hk
  · repeat (first | (refine asI_i rfl ?_) | (refine asB_i rfl ?_) | (refine asP_i rfl ?_) | (refine asS_i rfl ?_) | (refine asY_i rfl ?_) | (refine asM_i rfl ?_) | (refine asA_i rfl rfl ?_) | (refine asT_i rfl rfl ?_) | (refine lv_i ?_))
    have hk := hK _ hS.ext
    unfold t2 meetV at hk
    have hb := gapV_bad (a := a) (b := b) (by simpa using h0)
    rw [hb.1] at hk
    exact hk

/-! ### Near -/
def nearV (px py qx qy r : Int) : Bool := decide (0 ≤ r) && decide (adiff px qx ≤ r) && decide (adiff py qy ≤ r)

def I64 (n : Int) : Prop := -9223372036854775808 ≤ n ∧ n ≤ 9223372036854775807

theorem wru64 {n : Int} : IntKind.wrap .u64 n = n % 18446744073709551616 := by simp [IntKind.wrap, IntKind.bits, IntKind.signed]

end Go.Proofs.Ytamobmjfdiecbaa

/- Fp: small whole numbers as floats of 64 bits: written and read back, added, subtracted, compared exactly. Conditions: their size. -/
namespace Go.Fp
open Ieee

/-- the word of a whole number -/
def F (n : Int) : Nat := double.write (.number (decide (n < 0)) n.natAbs 0)

theorem log_le {m : Nat} (h0 : m ≠ 0) (h : m < 2 ^ 53) : m.log2 ≤ 52 := by
  have := (Nat.log2_lt h0).2 h
  omega

theorem log_bound {m : Nat} (h0 : m ≠ 0) : 2 ^ m.log2 ≤ m ∧ m < 2 ^ (m.log2 + 1) := ⟨Nat.log2_self_le h0, Nat.lt_log2_self⟩

theorem kept_bound {m : Nat} (h0 : m ≠ 0) (h : m < 2 ^ 53) : 2 ^ 52 ≤ m * 2 ^ (52 - m.log2) ∧ m * 2 ^ (52 - m.log2) < 2 ^ 53 := by
  obtain ⟨h1, h2⟩ := log_bound h0
  have hl := log_le h0 h
  have e1 : 2 ^ m.log2 * 2 ^ (52 - m.log2) = 2 ^ 52 := by rw [← Nat.pow_add]; congr 1; omega
  have e2 : 2 ^ (m.log2 + 1) * 2 ^ (52 - m.log2) = 2 ^ 53 := by rw [← Nat.pow_add]; congr 1; omega
  constructor
  · rw [← e1]; exact Nat.mul_le_mul_right _ h1
  · rw [← e2]; exact Nat.mul_lt_mul_of_pos_right h2 (Nat.two_pow_pos _)

theorem log_mul {m k : Nat} (h0 : m ≠ 0) : (m * 2 ^ k).log2 = m.log2 + k := by
  obtain ⟨h1, h2⟩ := log_bound h0
  have hne : m * 2 ^ k ≠ 0 := Nat.mul_ne_zero h0 (Nat.ne_of_gt (Nat.two_pow_pos k))
  have a : m.log2 + k ≤ (m * 2 ^ k).log2 := (Nat.le_log2 hne).2 (by rw [Nat.pow_add]; exact Nat.mul_le_mul_right _ h1)
  have b : (m * 2 ^ k).log2 < m.log2 + k + 1 := (Nat.log2_lt hne).2 (by
    have : m.log2 + k + 1 = (m.log2 + 1) + k := by omega
    rw [this, Nat.pow_add]
    exact Nat.mul_lt_mul_of_pos_right h2 (Nat.two_pow_pos k))
  omega

theorem cut_exact {s : Bool} {a d : Nat} (hd : d ≤ (a * 2 ^ d).log2 + 2) : Toward.even.cut s (a * 2 ^ d) d = a := by
  unfold Toward.cut
  have hm : min d ((a * 2 ^ d).log2 + 2) = d := Nat.min_eq_left hd
  have hg : 1 <<< min d ((a * 2 ^ d).log2 + 2) = 2 ^ d := by rw [hm, Nat.shiftLeft_eq, Nat.one_mul]
  simp only [hg, Nat.mul_div_cancel _ (Nat.two_pow_pos d), Nat.mul_mod_left]
  simp

/-- the word of a number, whatever the place it is told at -/
theorem nearest_at {s : Bool} {m k : Nat} (h0 : m ≠ 0) (h : m < 2 ^ 53) :
    double.nearest s (m * 2 ^ k) (-(k : Int)) = double.word s ((m.log2 + 1022) * 2 ^ 52 + m * 2 ^ (52 - m.log2)) := by
  have hl := log_le h0 h
  have hne : m * 2 ^ k ≠ 0 := Nat.mul_ne_zero h0 (Nat.ne_of_gt (Nat.two_pow_pos k))
  have kb := kept_bound h0 h
  unfold Format.nearest
  rw [if_neg hne]
  have hlast : max (-(k : Int) + ((m * 2 ^ k).log2 : Int) - (double.fractionBits : Int)) double.leastPlace = (m.log2 : Int) - 52 := by
    rw [log_mul h0]
    simp only [double, Format.leastPlace]
    omega
  simp only [hlast]
  have hkept : Toward.even.cut s ((m * 2 ^ k) <<< (-(k : Int) - ((m.log2 : Int) - 52)).toNat) (((m.log2 : Int) - 52) - -(k : Int)).toNat = m * 2 ^ (52 - m.log2) := by
    by_cases hc : k ≤ 52 - m.log2
    · have e1 : (-(k : Int) - ((m.log2 : Int) - 52)).toNat = 52 - m.log2 - k := by omega
      have e2 : (((m.log2 : Int) - 52) - -(k : Int)).toNat = 0 := by omega
      have e3 : (m * 2 ^ k) <<< (52 - m.log2 - k) = m * 2 ^ (52 - m.log2) * 2 ^ 0 := by
        rw [Nat.shiftLeft_eq, Nat.mul_assoc, ← Nat.pow_add, Nat.pow_zero, Nat.mul_one]
        congr 2
        omega
      rw [e1, e2, e3, cut_exact (Nat.zero_le _)]
    · have e1 : (-(k : Int) - ((m.log2 : Int) - 52)).toNat = 0 := by omega
      have e2 : (((m.log2 : Int) - 52) - -(k : Int)).toNat = k - (52 - m.log2) := by omega
      have e4 : (m * 2 ^ k) <<< 0 = (m * 2 ^ (52 - m.log2)) * 2 ^ (k - (52 - m.log2)) := by
        rw [Nat.shiftLeft_eq, Nat.pow_zero, Nat.mul_one, Nat.mul_assoc, ← Nat.pow_add]
        congr 2
        omega
      rw [e1, e2, e4, cut_exact]
      have hne2 : m * 2 ^ (52 - m.log2) ≠ 0 := by omega
      rw [log_mul hne2]
      omega
  rw [hkept]
  have hplace : ((m.log2 : Int) - 52 - double.leastPlace).toNat = m.log2 + 1022 := by
    simp only [double, Format.leastPlace]
    omega
  rw [hplace]
  have hmin : min ((m.log2 + 1022) * double.binade + m * 2 ^ (52 - m.log2)) double.infRung = (m.log2 + 1022) * 2 ^ 52 + m * 2 ^ (52 - m.log2) := by
    simp only [double, Format.binade, Format.infRung]
    omega
  rw [hmin]

theorem F_zero : F 0 = 0 := by decide

theorem F_eq {n : Int} (h0 : n ≠ 0) (h : n.natAbs < 2 ^ 53) : F n = double.word (decide (n < 0)) ((n.natAbs.log2 + 1022) * 2 ^ 52 + n.natAbs * 2 ^ (52 - n.natAbs.log2)) := by
  have hm : n.natAbs ≠ 0 := by omega
  have := nearest_at (s := decide (n < 0)) (k := 0) hm h
  rw [Nat.pow_zero, Nat.mul_one] at this
  exact this

theorem read_word {s : Bool} {m : Nat} (h0 : m ≠ 0) (h : m < 2 ^ 53) : double.read (double.word s ((m.log2 + 1022) * 2 ^ 52 + m * 2 ^ (52 - m.log2))) = .number s (m * 2 ^ (52 - m.log2)) ((m.log2 : Int) - 52) := by
  have kb := kept_bound h0 h
  have hl := log_le h0 h
  generalize m * 2 ^ (52 - m.log2) = q at *
  have e52 : (2 : Nat) ^ 52 = 4503599627370496 := by decide
  have e53 : (2 : Nat) ^ 53 = 9007199254740992 := by decide
  have e63 : (2 : Nat) ^ 63 = 9223372036854775808 := by decide
  have hr : (m.log2 + 1022) * 2 ^ 52 + q < 2 ^ 63 := by omega
  have hw : double.word s ((m.log2 + 1022) * 2 ^ 52 + q) / double.signWeight % 2 = s.toNat ∧ double.word s ((m.log2 + 1022) * 2 ^ 52 + q) % double.signWeight = (m.log2 + 1022) * 2 ^ 52 + q := by
    have hs : double.signWeight = 2 ^ 63 := rfl
    rw [hs]
    cases s
    · simp only [Format.word, Bool.false_eq_true, if_false, Bool.toNat_false]
      omega
    · simp only [Format.word, if_true, hs, Bool.toNat_true]
      omega
  unfold Format.read
  simp only [hw.1, hw.2]
  have hb : double.binade = 2 ^ 52 := rfl
  have hi : double.infRung = 2047 * 2 ^ 52 := rfl
  have hp : double.leastPlace = -1074 := rfl
  rw [hb, hi, hp, if_neg (by omega), if_pos (by omega)]
  have hd : ((m.log2 + 1022) * 2 ^ 52 + q) / 2 ^ 52 = m.log2 + 1023 := by omega
  have hm : 2 ^ 52 + ((m.log2 + 1022) * 2 ^ 52 + q) % 2 ^ 52 = q := by omega
  rw [hd, hm]
  have hn : (s.toNat == 1) = s := by cases s <;> rfl
  have hpl : (-1074 : Int) + ((m.log2 + 1023 - 1 : Nat) : Int) = (m.log2 : Int) - 52 := by omega
  rw [hn, hpl]

/-- what a whole number's word stands for -/
theorem read_F {n : Int} (h : n.natAbs < 2 ^ 53) : ∃ k : Nat, double.read (F n) = .number (decide (n < 0)) (n.natAbs * 2 ^ k) (-(k : Int)) := by
  by_cases h0 : n = 0
  · subst h0
    have hr : double.read 0 = .number false 0 (-1074) := rfl
    obtain ⟨k, hk⟩ : ∃ k : Nat, -(k : Int) = -1074 := ⟨1074, rfl⟩
    have e : (0 : Int).natAbs * 2 ^ k = 0 := Nat.zero_mul _
    refine ⟨k, ?_⟩
    rw [F_zero, hr, e, hk]
    rfl
  · have hm : n.natAbs ≠ 0 := by omega
    have hl := log_le hm h
    refine ⟨52 - n.natAbs.log2, ?_⟩
    rw [F_eq h0 h, read_word hm h]
    have : ((n.natAbs.log2 : Int) - 52) = -((52 - n.natAbs.log2 : Nat) : Int) := by omega
    rw [this]

/-- any telling of a whole number is written as its word -/
theorem write_at {n : Int} {k : Nat} {s : Bool} (h : n.natAbs < 2 ^ 53) (hs : s = decide (n < 0)) : double.write (.number s (n.natAbs * 2 ^ k) (-(k : Int))) = F n := by
  subst hs
  show double.nearest _ _ _ = _
  by_cases h0 : n = 0
  · subst h0
    rw [F_zero]
    have : (0 : Int).natAbs * 2 ^ k = 0 := by simp
    rw [this]
    unfold Format.nearest
    rw [if_pos rfl]
    rfl
  · have hm : n.natAbs ≠ 0 := by omega
    rw [nearest_at hm h, F_eq h0 h]

theorem signed_at (n : Int) (k u : Nat) : signed (decide (n < 0)) (n.natAbs * 2 ^ k) u = n * ((2 ^ (k + u) : Nat) : Int) := by
  unfold signed
  rw [Nat.shiftLeft_eq, Nat.mul_assoc, ← Nat.pow_add]
  by_cases h : n < 0
  · rw [if_pos (by simpa using h), Int.natCast_mul, ← Int.neg_mul]
    congr 1
    omega
  · rw [if_neg (by simpa using h), Int.natCast_mul]
    congr 1
    omega

/-- sums of data told at places -/
theorem sum_at {a b : Int} {k l : Nat} {s t : Bool} (hs : a ≠ 0 → s = decide (a < 0)) (ht : b ≠ 0 → t = decide (b < 0)) (hst : a + b = 0 → (s && t) = false) (h : (a + b).natAbs < 2 ^ 53) :
    ((Datum.number s (a.natAbs * 2 ^ k) (-(k : Int))).sum (.number t (b.natAbs * 2 ^ l) (-(l : Int)))).map double.write = some (F (a + b)) := by
  have sg : ∀ (n : Int) (s : Bool) (k u : Nat), (n ≠ 0 → s = decide (n < 0)) → signed s (n.natAbs * 2 ^ k) u = n * ((2 ^ (k + u) : Nat) : Int) := by
    intro n s k u hn
    by_cases h0 : n = 0
    · subst h0
      unfold signed
      have : (0 : Int).natAbs * 2 ^ k = 0 := Nat.zero_mul _
      rw [this, Nat.zero_shiftLeft]
      simp
    · rw [hn h0]
      exact signed_at n k u
  obtain ⟨m, hm⟩ : ∃ m : Nat, min (-(k : Int)) (-(l : Int)) = -(m : Int) := ⟨max k l, by omega⟩
  simp only [Datum.sum, hm, Option.map_some]
  have hk : k ≤ m := by omega
  have hl : l ≤ m := by omega
  have e1 : (-(k : Int) - -(m : Int)).toNat = m - k := by omega
  have e2 : (-(l : Int) - -(m : Int)).toNat = m - l := by omega
  rw [e1, e2, sg a s k (m - k) hs, sg b t l (m - l) ht]
  have e3 : k + (m - k) = m := by omega
  have e4 : l + (m - l) = m := by omega
  rw [e3, e4, ← Int.add_mul]
  have hp : 0 < ((2 ^ m : Nat) : Int) := by
    have := Nat.two_pow_pos m
    omega
  generalize hc : a + b = c at *
  have ec : (c * ((2 ^ m : Nat) : Int)).natAbs = c.natAbs * 2 ^ m := by rw [Int.natAbs_mul, Int.natAbs_natCast]
  rw [ec]
  by_cases h0 : c = 0
  · have hz : c * ((2 ^ m : Nat) : Int) = 0 := by rw [h0, Int.zero_mul]
    rw [if_pos hz, hst h0]
    rw [write_at h (by rw [h0]; rfl)]
  · have hz : c * ((2 ^ m : Nat) : Int) ≠ 0 := Int.mul_ne_zero h0 (Int.ne_of_gt hp)
    rw [if_neg hz]
    have hlt : decide (c * ((2 ^ m : Nat) : Int) < 0) = decide (c < 0) := by
      congr 1
      apply propext
      constructor
      · intro hh
        by_cases hc0 : c < 0
        · exact hc0
        · have : 0 ≤ c * ((2 ^ m : Nat) : Int) := Int.mul_nonneg (by omega) (Int.le_of_lt hp)
          omega
      · intro hh
        exact Int.mul_neg_of_neg_of_pos hh hp
    rw [hlt, write_at h rfl]

theorem add_F {a b : Int} (ha : a.natAbs < 2 ^ 53) (hb : b.natAbs < 2 ^ 53) (h : (a + b).natAbs < 2 ^ 53) : double.add (F a) (F b) = some (F (a + b)) := by
  obtain ⟨k, hk⟩ := read_F ha
  obtain ⟨l, hl⟩ := read_F hb
  unfold Format.add
  rw [hk, hl]
  refine sum_at (fun _ => rfl) (fun _ => rfl) (fun h0 => ?_) h
  by_cases h1 : a < 0
  · have : ¬ b < 0 := by omega
    simp [this]
  · simp [h1]

theorem sub_F {a b : Int} (ha : a.natAbs < 2 ^ 53) (hb : b.natAbs < 2 ^ 53) (h : (a - b).natAbs < 2 ^ 53) : double.sub (F a) (F b) = some (F (a - b)) := by
  obtain ⟨k, hk⟩ := read_F ha
  obtain ⟨l, hl⟩ := read_F hb
  unfold Format.sub
  rw [hk, hl]
  have hn : b.natAbs = (-b).natAbs := (Int.natAbs_neg b).symm
  show ((Datum.number _ _ _).sum (.number (!decide (b < 0)) (b.natAbs * 2 ^ l) _)).map _ = _
  rw [hn]
  have e : a - b = a + -b := Int.sub_eq_add_neg
  rw [e]
  refine sum_at (fun _ => rfl) (fun h0 => ?_) (fun h0 => ?_) (by rw [← e]; exact h)
  · by_cases h1 : b < 0
    · rw [decide_eq_true h1, decide_eq_false (show ¬ -b < 0 by omega)]
      rfl
    · rw [decide_eq_false h1, decide_eq_true (show -b < 0 by omega)]
      rfl
  · by_cases h1 : a < 0
    · have : b < 0 := by omega
      simp [this]
    · simp [h1]

theorem toInt_at {n : Int} {k : Nat} : (Datum.number (decide (n < 0)) (n.natAbs * 2 ^ k) (-(k : Int))).toInt .zero = some n := by
  have hc : Toward.zero.cut (decide (n < 0)) ((n.natAbs * 2 ^ k) <<< (-(k : Int)).toNat) (-(-(k : Int))).toNat = n.natAbs := by
    have e1 : (-(k : Int)).toNat = 0 := by omega
    have e2 : (-(-(k : Int))).toNat = k := by omega
    rw [e1, e2, Nat.shiftLeft_eq, Nat.pow_zero, Nat.mul_one]
    unfold Toward.cut
    by_cases h0 : n.natAbs = 0
    · have : n.natAbs * 2 ^ k = 0 := by rw [h0, Nat.zero_mul]
      rw [this, h0]
      simp
    · have hm : min k ((n.natAbs * 2 ^ k).log2 + 2) = k := Nat.min_eq_left (by rw [log_mul h0]; omega)
      have hg : 1 <<< min k ((n.natAbs * 2 ^ k).log2 + 2) = 2 ^ k := by rw [hm, Nat.shiftLeft_eq, Nat.one_mul]
      simp only [hg, Nat.mul_div_cancel _ (Nat.two_pow_pos k)]
      simp
  unfold Datum.toInt Datum.integral
  simp only [hc]
  congr 1
  have := signed_at n 0 0
  simp only [Nat.pow_zero, Nat.mul_one, Nat.add_zero] at this
  rw [this]
  simp

theorem toInt_F {n : Int} (h : n.natAbs < 2 ^ 53) : (double.read (F n)).toInt .zero = some n := by
  obtain ⟨k, hk⟩ := read_F h
  rw [hk, toInt_at]

theorem order_F {a b : Int} (ha : a.natAbs < 2 ^ 53) (hb : b.natAbs < 2 ^ 53) : double.order (F a) (F b) = some (compare a b) := by
  obtain ⟨k, hk⟩ := read_F ha
  obtain ⟨l, hl⟩ := read_F hb
  unfold Format.order
  rw [hk, hl]
  obtain ⟨m, hm⟩ : ∃ m : Nat, min (-(k : Int)) (-(l : Int)) = -(m : Int) := ⟨max k l, by omega⟩
  simp only [Datum.order, hm]
  have e1 : (-(k : Int) - -(m : Int)).toNat = m - k := by omega
  have e2 : (-(l : Int) - -(m : Int)).toNat = m - l := by omega
  rw [e1, e2, signed_at, signed_at, show k + (m - k) = m by omega, show l + (m - l) = m by omega]
  have hp : 0 < ((2 ^ m : Nat) : Int) := by
    have := Nat.two_pow_pos m
    omega
  congr 1
  simp only [compare, compareOfLessAndEq]
  have h1 : (a * ((2 ^ m : Nat) : Int) < b * ((2 ^ m : Nat) : Int)) = (a < b) := propext ⟨fun h => Int.lt_of_mul_lt_mul_right h (Int.le_of_lt hp), fun h => Int.mul_lt_mul_of_pos_right h hp⟩
  have h2 : (a * ((2 ^ m : Nat) : Int) = b * ((2 ^ m : Nat) : Int)) = (a = b) := propext ⟨fun h => Int.eq_of_mul_eq_mul_right (Int.ne_of_gt hp) h, fun h => by rw [h]⟩
  simp only [h1, h2]

theorem mul_F {a b : Int} (ha : a.natAbs < 2 ^ 53) (hb : b.natAbs < 2 ^ 53) (h : (a * b).natAbs < 2 ^ 53) (h0 : a * b = 0 → (decide (a < 0) ^^ decide (b < 0)) = false) : double.mul (F a) (F b) = some (F (a * b)) := by
  obtain ⟨k, hk⟩ := read_F ha
  obtain ⟨l, hl⟩ := read_F hb
  unfold Format.mul
  rw [hk, hl]
  simp only [Datum.product, Option.map_some]
  have e1 : a.natAbs * 2 ^ k * (b.natAbs * 2 ^ l) = (a * b).natAbs * 2 ^ (k + l) := by
    rw [Int.natAbs_mul, Nat.pow_add]
    simp only [Nat.mul_assoc, Nat.mul_left_comm]
  have e2 : -(k : Int) + -(l : Int) = -((k + l : Nat) : Int) := by omega
  rw [e1, e2, write_at h]
  by_cases hz : a * b = 0
  · rw [h0 hz, hz]
    rfl
  · have hane : a ≠ 0 := fun e => hz (by rw [e, Int.zero_mul])
    have hbne : b ≠ 0 := fun e => hz (by rw [e, Int.mul_zero])
    by_cases h1 : a < 0
    · by_cases h2 : b < 0
      · have : 0 < a * b := Int.mul_pos_of_neg_of_neg h1 h2
        rw [decide_eq_true h1, decide_eq_true h2, decide_eq_false (by omega)]
        rfl
      · have : a * b < 0 := Int.mul_neg_of_neg_of_pos h1 (by omega)
        rw [decide_eq_true h1, decide_eq_false h2, decide_eq_true this]
        rfl
    · by_cases h2 : b < 0
      · have : a * b < 0 := Int.mul_neg_of_pos_of_neg (by omega) h2
        rw [decide_eq_false h1, decide_eq_true h2, decide_eq_true this]
        rfl
      · have : 0 < a * b := Int.mul_pos (by omega) (by omega)
        rw [decide_eq_false h1, decide_eq_false h2, decide_eq_false (by omega)]
        rfl
end Go.Fp

/- Fn: floats of 64 bits that stand for small whole numbers, -0 for 0 too: sums, differences, products, order. Conditions: their size. -/
namespace Go.Fp
open Ieee

/-- the word stands for a whole number -/
def N (x : Nat) (n : Int) : Prop := n.natAbs < 2 ^ 53 ∧ (x = F n ∨ (n = 0 ∧ x = 9223372036854775808))

theorem N_F {n : Int} (h : n.natAbs < 2 ^ 53) : N (F n) n := ⟨h, .inl rfl⟩
theorem N_lit {x : Nat} {n : Int} (h : n.natAbs < 2 ^ 53) (e : F n = x) : N x n := ⟨h, .inl e.symm⟩

theorem N.read {x : Nat} {n : Int} (h : N x n) : ∃ (s : Bool) (k : Nat), double.read x = .number s (n.natAbs * 2 ^ k) (-(k : Int)) ∧ (n ≠ 0 → s = decide (n < 0)) := by
  obtain ⟨hn, rfl | ⟨rfl, rfl⟩⟩ := h
  · obtain ⟨k, hk⟩ := read_F hn
    exact ⟨_, k, hk, fun _ => rfl⟩
  · have hr : double.read 9223372036854775808 = .number true 0 (-1074) := rfl
    obtain ⟨k, hk⟩ : ∃ k : Nat, -(k : Int) = -1074 := ⟨1074, rfl⟩
    have e : (0 : Int).natAbs * 2 ^ k = 0 := Nat.zero_mul _
    exact ⟨true, k, by rw [hr, e, hk], fun h => absurd rfl h⟩

/-- what is written of a whole number told at a place, whatever the sign of a zero -/
theorem write_N {n : Int} {k : Nat} {s : Bool} (h : n.natAbs < 2 ^ 53) (hs : n ≠ 0 → s = decide (n < 0)) : N (double.write (.number s (n.natAbs * 2 ^ k) (-(k : Int)))) n := by
  by_cases h0 : n = 0
  · subst h0
    refine ⟨h, ?_⟩
    have : (0 : Int).natAbs * 2 ^ k = 0 := Nat.zero_mul _
    rw [this]
    have hw : double.write (.number s 0 (-(k : Int))) = double.word s 0 := by
      show double.nearest _ _ _ = _
      unfold Format.nearest
      rw [if_pos rfl]
    rw [hw]
    cases s
    · exact .inl rfl
    · exact .inr ⟨rfl, rfl⟩
  · rw [write_at h (hs h0)]
    exact N_F h

theorem sg_at (n : Int) (s : Bool) (k u : Nat) (hn : n ≠ 0 → s = decide (n < 0)) : signed s (n.natAbs * 2 ^ k) u = n * ((2 ^ (k + u) : Nat) : Int) := by
  by_cases h0 : n = 0
  · subst h0
    unfold signed
    have : (0 : Int).natAbs * 2 ^ k = 0 := Nat.zero_mul _
    rw [this, Nat.zero_shiftLeft]
    simp
  · rw [hn h0]
    exact signed_at n k u

theorem sum_N {a b : Int} {k l : Nat} {s t : Bool} (hs : a ≠ 0 → s = decide (a < 0)) (ht : b ≠ 0 → t = decide (b < 0)) (h : (a + b).natAbs < 2 ^ 53) :
    ∃ z, ((Datum.number s (a.natAbs * 2 ^ k) (-(k : Int))).sum (.number t (b.natAbs * 2 ^ l) (-(l : Int)))).map double.write = some z ∧ N z (a + b) := by
  obtain ⟨m, hm⟩ : ∃ m : Nat, min (-(k : Int)) (-(l : Int)) = -(m : Int) := ⟨max k l, by omega⟩
  simp only [Datum.sum, hm, Option.map_some]
  refine ⟨_, rfl, ?_⟩
  have hk : k ≤ m := by omega
  have hl : l ≤ m := by omega
  have e1 : (-(k : Int) - -(m : Int)).toNat = m - k := by omega
  have e2 : (-(l : Int) - -(m : Int)).toNat = m - l := by omega
  rw [e1, e2, sg_at a s k (m - k) hs, sg_at b t l (m - l) ht]
  have e3 : k + (m - k) = m := by omega
  have e4 : l + (m - l) = m := by omega
  rw [e3, e4, ← Int.add_mul]
  have hp : 0 < ((2 ^ m : Nat) : Int) := by
    have := Nat.two_pow_pos m
    omega
  generalize hc : a + b = c at *
  have ec : (c * ((2 ^ m : Nat) : Int)).natAbs = c.natAbs * 2 ^ m := by rw [Int.natAbs_mul, Int.natAbs_natCast]
  rw [ec]
  refine write_N h fun h0 => ?_
  have hz : c * ((2 ^ m : Nat) : Int) ≠ 0 := Int.mul_ne_zero h0 (Int.ne_of_gt hp)
  rw [if_neg hz]
  congr 1
  apply propext
  constructor
  · intro hh
    by_cases hc0 : c < 0
    · exact hc0
    · have : 0 ≤ c * ((2 ^ m : Nat) : Int) := Int.mul_nonneg (by omega) (Int.le_of_lt hp)
      omega
  · intro hh
    exact Int.mul_neg_of_neg_of_pos hh hp

theorem add_N {x y : Nat} {a b : Int} (hx : N x a) (hy : N y b) (h : (a + b).natAbs < 2 ^ 53) : ∃ z, double.add x y = some z ∧ N z (a + b) := by
  obtain ⟨s, k, hk, hs⟩ := hx.read
  obtain ⟨t, l, hl, ht⟩ := hy.read
  unfold Format.add
  rw [hk, hl]
  exact sum_N hs ht h

theorem sub_N {x y : Nat} {a b : Int} (hx : N x a) (hy : N y b) (h : (a - b).natAbs < 2 ^ 53) : ∃ z, double.sub x y = some z ∧ N z (a - b) := by
  obtain ⟨s, k, hk, hs⟩ := hx.read
  obtain ⟨t, l, hl, ht⟩ := hy.read
  unfold Format.sub
  rw [hk, hl]
  have hn : b.natAbs = (-b).natAbs := (Int.natAbs_neg b).symm
  show ∃ z, ((Datum.number _ _ _).sum (.number (!t) (b.natAbs * 2 ^ l) _)).map _ = _ ∧ _
  rw [hn]
  have e : a - b = a + -b := Int.sub_eq_add_neg
  rw [e]
  refine sum_N hs (fun h0 => ?_) (by rw [← e]; exact h)
  rw [ht (by omega)]
  by_cases h1 : b < 0
  · rw [decide_eq_true h1, decide_eq_false (show ¬ -b < 0 by omega)]
    rfl
  · rw [decide_eq_false h1, decide_eq_true (show -b < 0 by omega)]
    rfl

theorem mul_N {x y : Nat} {a b : Int} (hx : N x a) (hy : N y b) (h : (a * b).natAbs < 2 ^ 53) : ∃ z, double.mul x y = some z ∧ N z (a * b) := by
  obtain ⟨s, k, hk, hs⟩ := hx.read
  obtain ⟨t, l, hl, ht⟩ := hy.read
  unfold Format.mul
  rw [hk, hl]
  simp only [Datum.product, Option.map_some]
  refine ⟨_, rfl, ?_⟩
  have e1 : a.natAbs * 2 ^ k * (b.natAbs * 2 ^ l) = (a * b).natAbs * 2 ^ (k + l) := by
    rw [Int.natAbs_mul, Nat.pow_add]
    simp only [Nat.mul_assoc, Nat.mul_left_comm]
  have e2 : -(k : Int) + -(l : Int) = -((k + l : Nat) : Int) := by omega
  rw [e1, e2]
  refine write_N h fun hz => ?_
  have hane : a ≠ 0 := fun e => hz (by rw [e, Int.zero_mul])
  have hbne : b ≠ 0 := fun e => hz (by rw [e, Int.mul_zero])
  rw [hs hane, ht hbne]
  by_cases h1 : a < 0
  · by_cases h2 : b < 0
    · have : 0 < a * b := Int.mul_pos_of_neg_of_neg h1 h2
      rw [decide_eq_true h1, decide_eq_true h2, decide_eq_false (by omega)]
      rfl
    · have : a * b < 0 := Int.mul_neg_of_neg_of_pos h1 (by omega)
      rw [decide_eq_true h1, decide_eq_false h2, decide_eq_true this]
      rfl
  · by_cases h2 : b < 0
    · have : a * b < 0 := Int.mul_neg_of_pos_of_neg (by omega) h2
      rw [decide_eq_false h1, decide_eq_true h2, decide_eq_true this]
      rfl
    · have : 0 < a * b := Int.mul_pos (by omega) (by omega)
      rw [decide_eq_false h1, decide_eq_false h2, decide_eq_false (by omega)]
      rfl

theorem order_N {x y : Nat} {a b : Int} (hx : N x a) (hy : N y b) : double.order x y = some (compare a b) := by
  obtain ⟨s, k, hk, hs⟩ := hx.read
  obtain ⟨t, l, hl, ht⟩ := hy.read
  unfold Format.order
  rw [hk, hl]
  obtain ⟨m, hm⟩ : ∃ m : Nat, min (-(k : Int)) (-(l : Int)) = -(m : Int) := ⟨max k l, by omega⟩
  simp only [Datum.order, hm]
  have e1 : (-(k : Int) - -(m : Int)).toNat = m - k := by omega
  have e2 : (-(l : Int) - -(m : Int)).toNat = m - l := by omega
  rw [e1, e2, sg_at a s k _ hs, sg_at b t l _ ht, show k + (m - k) = m by omega, show l + (m - l) = m by omega]
  have hp : 0 < ((2 ^ m : Nat) : Int) := by
    have := Nat.two_pow_pos m
    omega
  congr 1
  simp only [compare, compareOfLessAndEq]
  have h1 : (a * ((2 ^ m : Nat) : Int) < b * ((2 ^ m : Nat) : Int)) = (a < b) := propext ⟨fun h => Int.lt_of_mul_lt_mul_right h (Int.le_of_lt hp), fun h => Int.mul_lt_mul_of_pos_right h hp⟩
  have h2 : (a * ((2 ^ m : Nat) : Int) = b * ((2 ^ m : Nat) : Int)) = (a = b) := propext ⟨fun h => Int.eq_of_mul_eq_mul_right (Int.ne_of_gt hp) h, fun h => by rw [h]⟩
  simp only [h1, h2]

theorem toInt_N {x : Nat} {n : Int} (h : N x n) : (double.read x).toInt .zero = some n := by
  obtain ⟨hn, rfl | ⟨rfl, rfl⟩⟩ := h
  · exact toInt_F hn
  · rfl
theorem N.at {x : Nat} {a b : Int} (h : N x a) (e : a = b) : N x b := e ▸ h
theorem N.lt {x : Nat} {a : Int} (h : N x a) : a.natAbs < 9007199254740992 := h.1
end Go.Fp

/- Lt: floats of package math, and cells of package lattice, told as contracts over whole numbers. Conditions: those of each theorem, on its arguments. -/
namespace Go.Proofs.Ytamobmjfdiecbaa
open Go Go.Sx Go.Fp

theorem asC_i {k : FloatKind} {v : Value} {x y : Nat} {K : Nat → Nat → Prop} (e : v = .complex k x y) (h : K x y) : asC k v K := ⟨x, y, e, h⟩
def mag (x : Int) : Int := if x < 0 then -x else x
theorem nearest_F (n : Int) : FloatKind.nearest .f64 n = F n := rfl

theorem so_add {x y : Nat} {a b : Int} {K : Nat → Prop} (hx : N x a) (hy : N y b) (h : (a + b).natAbs < 2 ^ 53) (hK : ∀ z, N z (a + b) → K z) : so ((FloatKind.format .f64).add x y) K := by
  obtain ⟨z, hz, hn⟩ := add_N hx hy h
  exact so_i hz (hK z hn)
theorem so_sub {x y : Nat} {a b : Int} {K : Nat → Prop} (hx : N x a) (hy : N y b) (h : (a - b).natAbs < 2 ^ 53) (hK : ∀ z, N z (a - b) → K z) : so ((FloatKind.format .f64).sub x y) K := by
  obtain ⟨z, hz, hn⟩ := sub_N hx hy h
  exact so_i hz (hK z hn)
theorem so_mul {x y : Nat} {a b : Int} {K : Nat → Prop} (hx : N x a) (hy : N y b) (h : (a * b).natAbs < 2 ^ 53) (hK : ∀ z, N z (a * b) → K z) : so ((FloatKind.format .f64).mul x y) K := by
  obtain ⟨z, hz, hn⟩ := mul_N hx hy h
  exact so_i hz (hK z hn)

theorem N_zero : N 0 0 := N_lit (by decide) (by decide)
theorem N_one : N 4607182418800017408 1 := N_lit (by decide) (by decide)
theorem N_mone : N 13830554455654793216 (-1) := N_lit (by decide) (by decide)

theorem ord_eq {x y : Nat} {a b : Int} (hx : N x a) (hy : N y b) : ((FloatKind.format .f64).order x y == some .eq) = decide (a = b) := by
  have : (FloatKind.format .f64).order x y = some (compare a b) := order_N hx hy
  rw [this]
  simp only [compare, compareOfLessAndEq]
  split
  · have : a ≠ b := by omega
    simp [this]
  · split <;> simp_all
theorem ord_lt {x y : Nat} {a b : Int} (hx : N x a) (hy : N y b) : ((FloatKind.format .f64).order x y == some .lt) = decide (a < b) := by
  have : (FloatKind.format .f64).order x y = some (compare a b) := order_N hx hy
  rw [this]
  simp only [compare, compareOfLessAndEq]
  split
  · simp_all
  · split <;> simp_all
theorem ord_gt {x y : Nat} {a b : Int} (hx : N x a) (hy : N y b) : ((FloatKind.format .f64).order x y == some .gt) = decide (b < a) := by
  have : (FloatKind.format .f64).order x y = some (compare a b) := order_N hx hy
  rw [this]
  simp only [compare, compareOfLessAndEq]
  split
  · have : ¬ b < a := by omega
    simp [this]
  · split
    · have : ¬ b < a := by omega
      simp [this]
    · have : b < a := by omega
      simp [this]

/-! ### what the model itself has -/
theorem bits_k {x : Nat} {w : World} {K : Value → World → Prop} (hK : K (.int .u64 (x : Int)) w) : xt Try.prog 91 #[.float .f64 x] w K :=
  ⟨_, w, by rw [run_callFunc_extern Try.func91 (by kernel_rfl) (by kernel_rfl) (by kernel_rfl) (e := Extern.MathFloatBits.float64bits) (by kernel_rfl)]; rfl, hK⟩
theorem frombits_k {x : Nat} {w : World} {K : Value → World → Prop} (hK : K (.float .f64 x) w) : xt Try.prog 90 #[.int .u64 (x : Int)] w K :=
  ⟨_, w, by rw [run_callFunc_extern Try.func90 (by kernel_rfl) (by kernel_rfl) (by kernel_rfl) (e := Extern.MathFloatBits.float64frombits) (by kernel_rfl)]; rfl, hK⟩
theorem archTrunc_k {x : Nat} {s : Bool} {m : Nat} {i : Int} (hd : FloatKind.f64.decode x = .number s m i) {w : World} {K : Value → World → Prop} (hK : K (.float .f64 (FloatKind.f64.encode ((Ieee.Datum.number s m i).integral .zero))) w) : xt Try.prog 92 #[.float .f64 x] w K := by
  refine ⟨_, w, ?_, hK⟩
  rw [run_callFunc_extern Try.func92 (by kernel_rfl) (by kernel_rfl) (by kernel_rfl) (e := Extern.MathFloor.toIntegral "math.archTrunc" .zero) (by kernel_rfl)]
  have e : Extern.MathFloor.toIntegral "math.archTrunc" .zero #[.float .f64 x] = (match FloatKind.f64.decode x with
    | .nan s t =>
      if FloatKind.f64.format.quiet t = t then pure (.float .f64 x) else do
      let kept ← choose (.extern "math.Floor,Ceil,Trunc,RoundToEven.signallingNaN kept" 2)
      pure (.float .f64 (if kept == 1 then x else FloatKind.f64.encode (.nan s (FloatKind.f64.format.quiet t))))
    | d => pure (.float .f64 (FloatKind.f64.encode (d.integral .zero)))) := rfl
  rw [e, hd]
  rfl

theorem wrapU64 {n : Int} (h : 0 ≤ n) (h' : n < 18446744073709551616) : IntKind.wrap .u64 n = n := by
  have : IntKind.wrap .u64 n = n % 18446744073709551616 := by simp [IntKind.wrap, IntKind.bits, IntKind.signed]
  rw [this]; omega

theorem andNot_top {x : Nat} (h : x < 18446744073709551616) : Go.bits .andNot .u64 (x : Int) 9223372036854775808 = ((x % 9223372036854775808 : Nat) : Int) := by
  have e2 : (~~~ (BitVec.ofInt IntKind.u64.bits (9223372036854775808 : Int))).toNat = 2 ^ 63 - 1 := by decide
  have hx : x < 2 ^ IntKind.u64.bits := by simpa [IntKind.bits] using h
  simp only [Go.bits, BitVec.toNat_and, ofInt_nat _ _ hx, e2, and_mask]
  have : x % 2 ^ 63 < 2 ^ 63 := Nat.mod_lt _ (by decide)
  exact wrapU64 (by omega) (by omega)

theorem abs_k {x : Nat} (hx : x < 18446744073709551616) {w : World} {K : Value → World → Prop} (hK : K (.float .f64 (x % 9223372036854775808)) w) : cl Try.prog 81 #[.float .f64 x] w K := by
  apply F81_calls
  unfold F81
  refine bits_k (asI_i rfl ?_)
  rw [andNot_top hx]
  exact frombits_k (asF_i rfl hK)

theorem N_word {x : Nat} {n : Int} (h : N x n) : x < 18446744073709551616 ∧ N (x % 9223372036854775808) (mag n) := by
  have hn := h.1
  have hm : (mag n).natAbs < 2 ^ 53 := by unfold mag; split <;> omega
  obtain ⟨_, rfl | ⟨rfl, rfl⟩⟩ := h
  · by_cases h0 : n = 0
    · subst h0
      rw [F_zero]
      exact ⟨by decide, N_zero⟩
    · have ha : (mag n).natAbs = n.natAbs := by unfold mag; split <;> omega
      have hmz : mag n ≠ 0 := by unfold mag; split <;> omega
      have hpos : ¬ mag n < 0 := by unfold mag; split <;> omega
      have e1 := F_eq h0 hn
      have e2 := F_eq hmz hm
      rw [ha, decide_eq_false hpos] at e2
      have kb := kept_bound (m := n.natAbs) (by omega) hn
      have hl := log_le (m := n.natAbs) (by omega) hn
      generalize n.natAbs * 2 ^ (52 - n.natAbs.log2) = q at *
      have e52 : (2 : Nat) ^ 52 = 4503599627370496 := by decide
      have e53 : (2 : Nat) ^ 53 = 9007199254740992 := by decide
      have hr : (n.natAbs.log2 + 1022) * 2 ^ 52 + q < 9223372036854775808 := by omega
      generalize (n.natAbs.log2 + 1022) * 2 ^ 52 + q = r at *
      have hs : Ieee.double.signWeight = 9223372036854775808 := rfl
      have hw : F n = r ∨ F n = 9223372036854775808 + r := by
        rw [e1]
        unfold Ieee.Format.word
        rw [hs]
        split
        · exact .inr rfl
        · exact .inl rfl
      have hw2 : F (mag n) = r := by
        rw [e2]
        rfl
      refine ⟨by omega, hm, .inl ?_⟩
      rw [hw2]
      omega
  · exact ⟨by decide, N_zero⟩

theorem absN_k {x : Nat} {n : Int} (hx : N x n) {w : World} {K : Value → World → Prop} (hK : ∀ z, N z (mag n) → K (.float .f64 z) w) : cl Try.prog 81 #[.float .f64 x] w K :=
  abs_k (N_word hx).1 (hK _ (N_word hx).2)

theorem trunc_N {s : Bool} {n : Int} {k : Nat} (h : n.natAbs < 2 ^ 53) (hs : n ≠ 0 → s = decide (n < 0)) : N (FloatKind.f64.encode ((Ieee.Datum.number s (n.natAbs * 2 ^ k) (-(k : Int))).integral .zero)) n := by
  have hc : Ieee.Toward.zero.cut s ((n.natAbs * 2 ^ k) <<< (-(k : Int)).toNat) (-(-(k : Int))).toNat = n.natAbs := by
    have e1 : (-(k : Int)).toNat = 0 := by omega
    have e2 : (-(-(k : Int))).toNat = k := by omega
    rw [e1, e2, Nat.shiftLeft_eq, Nat.pow_zero, Nat.mul_one]
    unfold Ieee.Toward.cut
    by_cases h0 : n.natAbs = 0
    · have : n.natAbs * 2 ^ k = 0 := by rw [h0, Nat.zero_mul]
      rw [this, h0]
      simp
    · have hm : min k ((n.natAbs * 2 ^ k).log2 + 2) = k := Nat.min_eq_left (by rw [log_mul h0]; omega)
      have hg : 1 <<< min k ((n.natAbs * 2 ^ k).log2 + 2) = 2 ^ k := by rw [hm, Nat.shiftLeft_eq, Nat.one_mul]
      simp only [hg, Nat.mul_div_cancel _ (Nat.two_pow_pos k)]
      simp
  unfold Ieee.Datum.integral
  simp only [hc]
  have := write_N (n := n) (k := 0) (s := s) h hs
  rw [Nat.pow_zero, Nat.mul_one] at this
  exact this

theorem truncN_k {x : Nat} {n : Int} (hx : N x n) {w : World} {K : Value → World → Prop} (hK : ∀ z, N z n → K (.float .f64 z) w) : cl Try.prog 82 #[.float .f64 x] w K := by
  apply F82_calls
  unfold F82
  obtain ⟨s, k, hk, hs⟩ := hx.read
  exact archTrunc_k hk (asF_i rfl (hK _ (trunc_N hx.1 hs)))

theorem wholeN_k {x : Nat} {n : Int} (hx : N x n) {w : World} {K : Value → World → Prop} (hK : K (.bool (decide (mag n ≤ 1048576))) w) : cl Try.prog 70 #[.float .f64 x] w K := by
  apply F70_calls
  unfold F70
  refine jn_mk (absN_k hx ?_)
  intro z hz
  refine asF_i rfl ?_
  have hM : N 4697254411347427328 1048576 := N_lit (by decide) (by decide)
  rw [ord_lt hz hM, ord_eq hz hM]
  refine cond_split (fun h => truncN_k hx ?_) (fun h => asB_i rfl ?_)
  · intro y hy
    refine asF_i rfl (asB_i rfl ?_)
    rw [ord_eq hx hy]
    have : mag n ≤ 1048576 := by
      simp only [Bool.or_eq_true, decide_eq_true_eq] at h
      omega
    rw [decide_eq_true this] at hK
    simpa using hK
  · have : ¬ mag n ≤ 1048576 := by
      simp only [Bool.or_eq_false_iff, decide_eq_false_iff_not] at h
      omega
    rw [decide_eq_false this] at hK
    exact hK

theorem whole15_k {w : World} {K : Value → World → Prop} (hK : K (.bool false) w) : cl Try.prog 70 #[.float .f64 4609434218613702656] w K := by
  apply F70_calls
  unfold F70
  refine jn_mk (abs_k (by decide) (asF_i rfl (cond_t (by decide) ?_)))
  apply F82_calls
  unfold F82
  refine archTrunc_k (s := false) (m := 6755399441055744) (i := -52) (by decide) (asF_i rfl (asF_i rfl (asB_i rfl ?_)))
  have : ((FloatKind.format .f64).order 4609434218613702656 (FloatKind.f64.encode ((Ieee.Datum.number false 6755399441055744 (-52)).integral .zero)) == some .eq) = false := by decide
  rw [this]
  exact hK

def isCell (a b : Int) : Bool := decide (mag a ≤ 1048576) && decide (mag b ≤ 1048576)

theorem cell_k {x y : Nat} {a b : Int} (hx : N x a) (hy : N y b) {w : World} {K : Value → World → Prop} (hK : K (.bool (isCell a b)) w) : cl Try.prog 46 #[.complex .f64 x y] w K := by
  apply F46_calls
  unfold F46
  refine jn_mk (wholeN_k hx (asB_i rfl (cond_split (fun h => wholeN_k hy (asB_i rfl (asB_i rfl ?_))) (fun h => asB_i rfl ?_))))
  · simpa [isCell, h] using hK
  · simpa [isCell, h] using hK

end Go.Proofs.Ytamobmjfdiecbaa

/- Fb: floats of 64 bits that come of great whole numbers are great. Conditions: their size. -/
namespace Go.Fp
open Ieee

theorem cut_bound (s : Bool) (a d : Nat) (hd : d ≤ a.log2 + 2) : a / 2 ^ d ≤ Toward.even.cut s a d ∧ Toward.even.cut s a d ≤ a / 2 ^ d + 1 := by
  unfold Toward.cut
  have hm : min d (a.log2 + 2) = d := Nat.min_eq_left hd
  have hg : 1 <<< min d (a.log2 + 2) = 2 ^ d := by rw [hm, Nat.shiftLeft_eq, Nat.one_mul]
  simp only [hg]
  have hb : ∀ b : Bool, b.toNat ≤ 1 := by intro b; cases b <;> decide
  exact ⟨Nat.le_add_right _ _, Nat.add_le_add_left (hb _) _⟩

theorem big_F {q : Int} (h1 : 9007199254740992 ≤ q.natAbs) (h2 : q.natAbs < 18446744073709551616) :
    ∃ r mag, ∃ place : Nat, F q = double.word (decide (q < 0)) r ∧ r < 9223372036854775808 ∧ double.read r = .number false mag (place : Int) ∧ 4503599627370496 ≤ mag ∧ 1 ≤ place := by
  have hm0 : q.natAbs ≠ 0 := by omega
  generalize hs : decide (q < 0) = s
  generalize hm : q.natAbs = m at *
  have hL1 : 53 ≤ m.log2 := (Nat.le_log2 hm0).2 h1
  have hL2 : m.log2 < 64 := (Nat.log2_lt hm0).2 h2
  obtain ⟨b1, b2⟩ := log_bound hm0
  have e1 : F q = double.nearest s m 0 := by
    unfold F
    rw [hs, hm]
    rfl
  have hlast : max ((0 : Int) + (m.log2 : Int) - (double.fractionBits : Int)) double.leastPlace = (m.log2 : Int) - 52 := by
    simp only [double, Format.leastPlace]
    omega
  have hk := cut_bound s m (m.log2 - 52) (by omega)
  have hlow : 4503599627370496 ≤ m / 2 ^ (m.log2 - 52) := by
    rw [Nat.le_div_iff_mul_le (Nat.two_pow_pos _)]
    have : 4503599627370496 * 2 ^ (m.log2 - 52) = 2 ^ m.log2 := by
      have : (4503599627370496 : Nat) = 2 ^ 52 := by decide
      rw [this, ← Nat.pow_add]
      congr 1; omega
    rw [this]
    exact b1
  have hhigh : m / 2 ^ (m.log2 - 52) < 9007199254740992 := by
    rw [Nat.div_lt_iff_lt_mul (Nat.two_pow_pos _)]
    have : 9007199254740992 * 2 ^ (m.log2 - 52) = 2 ^ (m.log2 + 1) := by
      have : (9007199254740992 : Nat) = 2 ^ 53 := by decide
      rw [this, ← Nat.pow_add]
      congr 1; omega
    rw [this]
    exact b2
  generalize hkk : Toward.even.cut s m (m.log2 - 52) = kept at hk
  have hnear : double.nearest s m 0 = double.word s ((m.log2 + 1022) * 4503599627370496 + kept) := by
    unfold Format.nearest
    rw [if_neg hm0]
    simp only [hlast]
    have e2 : ((0 : Int) - ((m.log2 : Int) - 52)).toNat = 0 := by omega
    have e3 : ((m.log2 : Int) - 52 - 0).toNat = m.log2 - 52 := by omega
    have e4 : m <<< 0 = m := by simp
    rw [e2, e3, e4, hkk]
    have hplace : ((m.log2 : Int) - 52 - double.leastPlace).toNat = m.log2 + 1022 := by
      simp only [double, Format.leastPlace]
      omega
    rw [hplace]
    have hmin : min ((m.log2 + 1022) * double.binade + kept) double.infRung = (m.log2 + 1022) * 4503599627370496 + kept := by
      have hb : double.binade = 4503599627370496 := rfl
      have hi : double.infRung = 9218868437227405312 := rfl
      rw [hb, hi]
      exact Nat.min_eq_left (by omega)
    rw [hmin]
  refine ⟨(m.log2 + 1022) * 4503599627370496 + kept, 4503599627370496 + ((m.log2 + 1022) * 4503599627370496 + kept) % 4503599627370496, ((m.log2 + 1022) * 4503599627370496 + kept) / 4503599627370496 - 1 - 1074, by rw [e1, hnear], by omega, ?_, by omega, by omega⟩
  unfold Format.read
  have hb : double.binade = 4503599627370496 := rfl
  have hi : double.infRung = 2047 * 4503599627370496 := rfl
  have hp : double.leastPlace = -1074 := rfl
  have hw : double.signWeight = 9223372036854775808 := rfl
  simp only [hb, hi, hp, hw]
  have hr : (m.log2 + 1022) * 4503599627370496 + kept < 9223372036854775808 := by omega
  rw [Nat.mod_eq_of_lt hr, Nat.div_eq_of_lt hr, if_neg (by omega), if_pos (by omega)]
  congr 1
  omega

theorem big_order {r mag place : Nat} (hr : double.read r = .number false mag (place : Int)) (h1 : 4503599627370496 ≤ mag) : double.order r 4697254411347427328 = some .gt := by
  have hM : double.read 4697254411347427328 = .number false 4503599627370496 (-32) := rfl
  unfold Format.order
  rw [hr, hM]
  show some (compare (signed false mag ((place : Int) - min (place : Int) (-32)).toNat) (signed false 4503599627370496 ((-32 : Int) - min (place : Int) (-32)).toNat)) = _
  have e1 : min (place : Int) (-32) = -32 := by omega
  rw [e1]
  have e2 : ((place : Int) - -32).toNat = place + 32 := by omega
  have e3 : ((-32 : Int) - -32).toNat = 0 := rfl
  rw [e2, e3]
  have s1 : signed false mag (place + 32) = ((mag * 2 ^ (place + 32) : Nat) : Int) := by
    unfold signed
    rw [if_neg (by decide), Nat.shiftLeft_eq]
  have s2 : signed false 4503599627370496 0 = ((4503599627370496 : Nat) : Int) := by
    unfold signed
    rw [if_neg (by decide), Nat.shiftLeft_eq, Nat.pow_zero, Nat.mul_one]
  rw [s1, s2]
  have hp : 4294967296 ≤ 2 ^ (place + 32) := by
    have : 2 ^ 32 ≤ 2 ^ (place + 32) := Nat.pow_le_pow_right (by decide) (by omega)
    have e : (2 : Nat) ^ 32 = 4294967296 := by decide
    omega
  have h2 : mag * 4294967296 ≤ mag * 2 ^ (place + 32) := Nat.mul_le_mul_left _ hp
  generalize mag * 2 ^ (place + 32) = x at *
  have hc : compare (x : Int) ((4503599627370496 : Nat) : Int) = .gt := by
    simp only [compare, compareOfLessAndEq]
    rw [if_neg (by omega), if_neg (by omega)]
  rw [hc]
end Go.Fp

/- GrC: in which cells points lie, and which boxes touch: what package grid tells, as contracts over whole numbers. Conditions: those of each theorem, on its arguments. -/
namespace Go.Proofs.Ytamobmjfdiecbaa
open Go Go.Sx Go.Fp
attribute [local irreducible] jn lv ld st nw asI asB asP asS asY asM asF asA asT lp rn ru rq cl dw dr bnd bn2 nz nn hd hr so eqW

/-- Go's quotient, and the one that is rounded down -/
theorem floor_div {n s : Int} (hs : 1 ≤ s) : n / s = if n.tmod s < 0 then n.tdiv s - 1 else n.tdiv s := by
  have h1 := Int.mul_tdiv_add_tmod n s
  have h2 : n.tmod s < s := Int.tmod_lt_of_pos n (by omega)
  have h3 : -s < n.tmod s := Int.lt_tmod_of_pos n (by omega)
  have h4 := Int.mul_ediv_add_emod n s
  have h5 := Int.emod_nonneg n (show s ≠ 0 by omega)
  have h6 := Int.emod_lt_of_pos n (show 0 < s by omega)
  generalize n.tdiv s = t at *
  generalize n / s = d at *
  generalize n.tmod s = m at *
  generalize n % s = r at *
  have hd : s * (d - t) = m - r := by rw [Int.mul_sub]; omega
  split
  · rcases Int.lt_or_le (d - t) (-1) with h | h
    · have : s * (d - t) ≤ s * -2 := Int.mul_le_mul_of_nonneg_left (by omega) (by omega)
      omega
    · rcases Int.lt_or_le (d - t) 0 with h' | h'
      · omega
      · have : s * 0 ≤ s * (d - t) := Int.mul_le_mul_of_nonneg_left (by omega) (by omega)
        omega
  · rcases Int.lt_or_le (d - t) 0 with h | h
    · have : s * (d - t) ≤ s * -1 := Int.mul_le_mul_of_nonneg_left (by omega) (by omega)
      omega
    · rcases Int.lt_or_le 0 (d - t) with h' | h'
      · have : s * 1 ≤ s * (d - t) := Int.mul_le_mul_of_nonneg_left (by omega) (by omega)
        omega
      · omega

theorem div_bound {n s : Int} (hs : 1 ≤ s) : (0 ≤ n → 0 ≤ n / s ∧ n / s ≤ n) ∧ (n < 0 → n ≤ n / s ∧ n / s < 0) := by
  have h4 := Int.mul_ediv_add_emod n s
  have h5 := Int.emod_nonneg n (show s ≠ 0 by omega)
  have h6 := Int.emod_lt_of_pos n (show 0 < s by omega)
  generalize n / s = d at *
  generalize n % s = r at *
  constructor
  · intro hn
    have h0 : 0 ≤ d := by
      rcases Int.lt_or_le d 0 with h | h
      · have : s * d ≤ s * -1 := Int.mul_le_mul_of_nonneg_left (by omega) (by omega)
        omega
      · exact h
    have : 1 * d ≤ s * d := Int.mul_le_mul_of_nonneg_right hs h0
    omega
  · intro hn
    have h0 : d < 0 := by
      rcases Int.lt_or_le d 0 with h | h
      · exact h
      · have : s * 0 ≤ s * d := Int.mul_le_mul_of_nonneg_left (by omega) (by omega)
        omega
    have h7 : s * (d + 1) ≤ 1 * (d + 1) := by
      have : (s - 1) * (d + 1) ≤ 0 := Int.mul_nonpos_of_nonneg_of_nonpos (by omega) (by omega)
      have e : (s - 1) * (d + 1) = s * (d + 1) - 1 * (d + 1) := Int.sub_mul _ _ _
      omega
    rw [Int.mul_add] at h7
    omega

theorem floor_k {n s : Int} (hn : -9223372036854775808 ≤ n ∧ n ≤ 9223372036854775807) (hs : 1 ≤ s) {w : World} {K : Value → World → Prop} (hK : K (.float .f64 (F (n / s))) w) : cl Try.prog 69 #[.int .i64 n, .int .i64 s] w K := by
  have hb := div_bound (n := n) hs
  have hf := floor_div (n := n) hs
  have hsg : 0 ≤ n → 0 ≤ n.tmod s := fun h => Int.tmod_nonneg s h
  have ht : -9223372036854775808 ≤ n.tdiv s ∧ n.tdiv s ≤ 9223372036854775807 ∧ (n.tmod s < 0 → -9223372036854775807 ≤ n.tdiv s) := by
    split at hf
    · omega
    · omega
  apply F69_calls
  unfold F69
  refine nz_mk (by omega) (lv_i (jn_mk (nz_mk (by omega) ?_)))
  rw [wr64 (n := n.tdiv s) (by omega) (by omega)]
  refine cond_split (fun h => ?_) (fun h => ?_)
  · have h' : n.tmod s < 0 := of_decide_eq_true h
    rw [if_pos h'] at hf
    have := ht.2.2 h'
    rw [wr64 (by omega) (by omega), ← hf]
    exact lv_i (asI_i rfl hK)
  · have h' : ¬ n.tmod s < 0 := of_decide_eq_false h
    rw [if_neg h'] at hf
    rw [← hf]
    exact asI_i rfl hK

theorem gcell_k {s x y : Int} (hx : -9223372036854775808 ≤ x ∧ x ≤ 9223372036854775807) (hy : -9223372036854775808 ≤ y ∧ y ≤ 9223372036854775807) (hs : 1 ≤ s) {w : World} {K : Value → World → Prop}
    (hK : K (.complex .f64 (F (x / s)) (F (y / s))) w) : cl Try.prog 45 #[.int .i64 s, .int .i64 x, .int .i64 y] w K := by
  apply F45_calls
  unfold F45
  exact floor_k hx hs (asF_i rfl (floor_k hy hs (asF_i rfl hK)))

theorem wholeF_k {q : Int} (hq : q.natAbs < 18446744073709551616) {w : World} {K : Value → World → Prop} (hK : K (.bool (decide (mag q ≤ 1048576))) w) : cl Try.prog 70 #[.float .f64 (F q)] w K := by
  by_cases hb : q.natAbs < 2 ^ 53
  · exact wholeN_k (N_F hb) hK
  · have hb' : 9007199254740992 ≤ q.natAbs := by
      have : (2 : Nat) ^ 53 = 9007199254740992 := by decide
      omega
    obtain ⟨r, m, place, h1, h2, h3, h4, h5⟩ := big_F hb' hq
    have hF : F q = r ∨ F q = 9223372036854775808 + r := by
      rw [h1]
      unfold Ieee.Format.word
      have hs : Ieee.double.signWeight = 9223372036854775808 := rfl
      rw [hs]
      split
      · exact .inr rfl
      · exact .inl rfl
    have hw : F q < 18446744073709551616 ∧ F q % 9223372036854775808 = r := by omega
    have hno : ¬ mag q ≤ 1048576 := by
      unfold mag
      split <;> omega
    rw [decide_eq_false hno] at hK
    apply F70_calls
    unfold F70
    refine jn_mk (abs_k hw.1 (asF_i rfl ?_))
    rw [hw.2]
    have ho : (FloatKind.format .f64).order r 4697254411347427328 = some .gt := big_order h3 h4
    rw [ho]
    exact cond_f rfl (asB_i rfl hK)

theorem cellF_k {a b : Int} (ha : a.natAbs < 18446744073709551616) (hb : b.natAbs < 18446744073709551616) {w : World} {K : Value → World → Prop} (hK : K (.bool (isCell a b)) w) : cl Try.prog 46 #[.complex .f64 (F a) (F b)] w K := by
  apply F46_calls
  unfold F46
  refine jn_mk (wholeF_k ha (asB_i rfl (cond_split (fun h => wholeF_k hb (asB_i rfl (asB_i rfl ?_))) (fun h => asB_i rfl ?_))))
  · simpa [isCell, h] using hK
  · simpa [isCell, h] using hK

theorem isCell_iff {a b : Int} : isCell a b = true ↔ (-1048576 ≤ a ∧ a ≤ 1048576) ∧ (-1048576 ≤ b ∧ b ≤ 1048576) := by
  unfold isCell mag
  simp only [Bool.and_eq_true, decide_eq_true_eq]
  split <;> split <;> omega

def sideOk (s : Int) : Bool := decide (1 ≤ s) && decide (s ≤ 1099511627776)
theorem side_k {s : Int} {w : World} {K : Value → World → Prop} (hK : K (.bool (sideOk s)) w) : cl Try.prog 44 #[.int .i64 s] w K := by
  apply F44_calls
  unfold F44
  refine jn_mk (cond_split (fun h => asB_i rfl ?_) (fun h => asB_i rfl ?_))
  · simpa [sideOk, h] using hK
  · simpa [sideOk, h] using hK

/-- the cells of a row, and of rows, told by their numbers -/
def rowC (x y : Int) (n : Nat) : List (Int × Int) := (List.range n).map fun (i : Nat) => (x + (i : Int), y)
def rowsC (x y : Int) (wide tall : Nat) : List (Int × Int) := (List.range tall).flatMap fun (j : Nat) => rowC x (y + (j : Int)) wide
theorem rowC_length (x y : Int) (n : Nat) : (rowC x y n).length = n := by simp [rowC]
theorem rowC_succ (x y : Int) (n : Nat) : rowC x y (n + 1) = rowC x y n ++ [(x + (n : Int), y)] := by simp [rowC, List.range_succ]
theorem rowsC_succ (x y : Int) (n t : Nat) : rowsC x y n (t + 1) = rowsC x y n t ++ rowC x (y + (t : Int)) n := by simp [rowsC, List.range_succ]
theorem rowsC_length (x y : Int) (n : Nat) : ∀ t, (rowsC x y n t).length = t * n
  | 0 => by simp [rowsC]
  | t + 1 => by rw [rowsC_succ, List.length_append, rowsC_length x y n t, rowC_length, Nat.add_mul, Nat.one_mul]
structure Span where
  lx : Int
  ly : Int
  hx : Int
  hy : Int
def spanOf (s : Int) (b : Bx) : Span := ⟨(b.x - b.r) / s, (b.y - b.r) / s, (b.x + b.r - 1) / s, (b.y + b.r - 1) / s⟩
def Span.ok (p : Span) : Bool := isCell p.lx p.ly && isCell p.hx p.hy
def Span.wide (p : Span) : Int := p.hx - p.lx + 1
def Span.tall (p : Span) : Int := p.hy - p.ly + 1
def cellsE (s : Int) (b : Bx) : Int :=
  if sideOk s = true then if b.right = true then if (spanOf s b).ok = true then if (spanOf s b).wide * (spanOf s b).tall > 1024 then 2 else 0 else 40 else 60 else 1
def cellsL' (s : Int) (b : Bx) : List (Int × Int) := if cellsE s b = 0 then rowsC (spanOf s b).lx (spanOf s b).ly (spanOf s b).wide.toNat (spanOf s b).tall.toNat else []
def cv (p : Int × Int) : Value := .complex .f64 (F p.1) (F p.2)

set_option maxRecDepth 100000 in
theorem sC : SlT Try.prog 52 49 (.complex .f64 0 0) 16 := ⟨rfl, ⟨_, rfl, rfl, rfl, rfl⟩, rfl⟩

theorem span_le {s : Int} {b : Bx} (hs : 1 ≤ s) (hb : b.right = true) : (spanOf s b).lx ≤ (spanOf s b).hx ∧ (spanOf s b).ly ≤ (spanOf s b).hy := by
  have h := right_iff.1 hb
  unfold spanOf
  exact ⟨Int.ediv_le_ediv (by omega) (by omega), Int.ediv_le_ediv (by omega) (by omega)⟩

theorem F_add {a b : Int} {K : Nat → Prop} (ha : a.natAbs < 2 ^ 52) (hb : b.natAbs < 2 ^ 52) (hK : K (F (a + b))) : so ((FloatKind.format .f64).add (F a) (F b)) K :=
  so_i (add_F (by omega) (by omega) (by omega)) hK
theorem F_sub {a b : Int} {K : Nat → Prop} (ha : a.natAbs < 2 ^ 52) (hb : b.natAbs < 2 ^ 52) (hK : K (F (a - b))) : so ((FloatKind.format .f64).sub (F a) (F b)) K :=
  so_i (sub_F (by omega) (by omega) (by omega)) hK
theorem f2i_F {n : Int} (h : n.natAbs < 2 ^ 53) {K : Int → Prop} (hK : K n) : f2i .f64 (F n) .i64 K := by
  have e1 : IntKind.min .i64 = -9223372036854775808 := by decide
  have e2 : IntKind.max .i64 = 9223372036854775807 := by decide
  have e3 : (2 : Nat) ^ 53 = 9007199254740992 := by decide
  exact ⟨n, toInt_F h, by omega, by omega, hK⟩
theorem F_one : F 1 = 4607182418800017408 := by decide

theorem cells_k {s : Int} {b : Bx} {w : World} {K : Value → World → Prop}
    (hK : ∀ p c w', Ext no w w' → Row w' w.heap.size 49 p c ((cellsL' s b).map cv) → K (.tuple #[.slice p (cellsL' s b).length c, .int .i64 (cellsE s b)]) w') :
    cl Try.prog 24 #[.int .i64 s, b.v] w K := by
  have bad : ∀ e, cellsE s b = e → e ≠ 0 → ∀ w', Ext no w w' → K (.tuple #[.slice none 0 0, .int .i64 e]) w' := by
    intro e he h0 w' hx
    have hl : cellsL' s b = [] := by unfold cellsL'; rw [if_neg (by rw [he]; exact h0)]
    have := hK none 0 w' hx (by rw [hl]; exact Row.nil _ _ _)
    rw [hl, he] at this
    exact this
  apply F24_calls
  unfold F24
  have hS := St.start w
  repeat (first | (refine asI_i rfl ?_) | (refine asB_i rfl ?_) | (refine asP_i rfl ?_) | (refine asS_i rfl ?_) | (refine asY_i rfl ?_) | (refine asM_i rfl ?_) | (refine asA_i rfl rfl ?_) | (refine asT_i rfl rfl ?_) | (refine lv_i ?_) | (refine St.nw hS ?_; clear hS; intro _ _ hS) | (refine St.dw hS ?_; clear hS; intro _ hS _) | (refine hS.ld0 0 rfl rfl ?_) | (refine hS.ld 0 rfl rfl ?_) | (refine hS.ld0 1 rfl rfl ?_) | (refine hS.ld 1 rfl rfl ?_) | (refine hS.ld0 2 rfl rfl ?_) | (refine hS.ld 2 rfl rfl ?_) | (refine hS.ld0 3 rfl rfl ?_) | (refine hS.ld 3 rfl rfl ?_) | (refine hS.ld0 4 rfl rfl ?_) | (refine hS.ld 4 rfl rfl ?_) | (refine hS.ld0 5 rfl rfl ?_) | (refine hS.ld 5 rfl rfl ?_) | (refine hS.ld0 6 rfl rfl ?_) | (refine hS.ld 6 rfl rfl ?_) | (refine hS.ld0 7 rfl rfl ?_) | (refine hS.ld 7 rfl rfl ?_) | (refine hS.hd0 0 rfl rfl ?_) | (refine hS.hd 0 rfl rfl ?_) | (refine hS.hd0 1 rfl rfl ?_) | (refine hS.hd 1 rfl rfl ?_) | (refine hS.hd0 2 rfl rfl ?_) | (refine hS.hd 2 rfl rfl ?_) | (refine hS.hd0 3 rfl rfl ?_) | (refine hS.hd 3 rfl rfl ?_) | (refine hS.hd0 4 rfl rfl ?_) | (refine hS.hd 4 rfl rfl ?_) | (refine hS.hd0 5 rfl rfl ?_) | (refine hS.hd 5 rfl rfl ?_) | (refine hS.hd0 6 rfl rfl ?_) | (refine hS.hd 6 rfl rfl ?_) | (refine hS.hd0 7 rfl rfl ?_) | (refine hS.hd 7 rfl rfl ?_) | (refine hS.st0 0 rfl rfl rfl ?_; clear hS; intro _ hS) | (refine hS.st 0 rfl rfl rfl ?_; clear hS; intro _ hS) | (refine hS.st0 1 rfl rfl rfl ?_; clear hS; intro _ hS) | (refine hS.st 1 rfl rfl rfl ?_; clear hS; intro _ hS) | (refine hS.st0 2 rfl rfl rfl ?_; clear hS; intro _ hS) | (refine hS.st 2 rfl rfl rfl ?_; clear hS; intro _ hS) | (refine hS.st0 3 rfl rfl rfl ?_; clear hS; intro _ hS) | (refine hS.st 3 rfl rfl rfl ?_; clear hS; intro _ hS) | (refine hS.st0 4 rfl rfl rfl ?_; clear hS; intro _ hS) | (refine hS.st 4 rfl rfl rfl ?_; clear hS; intro _ hS) | (refine hS.st0 5 rfl rfl rfl ?_; clear hS; intro _ hS) | (refine hS.st 5 rfl rfl rfl ?_; clear hS; intro _ hS) | (refine hS.st0 6 rfl rfl rfl ?_; clear hS; intro _ hS) | (refine hS.st 6 rfl rfl rfl ?_; clear hS; intro _ hS) | (refine hS.st0 7 rfl rfl rfl ?_; clear hS; intro _ hS) | (refine hS.st 7 rfl rfl rfl ?_; clear hS; intro _ hS) | (refine bnd_mk (by decide) (by decide) ?_) | (refine so_i rfl ?_))
  refine side_k ?_
  repeat (first | (refine asI_i rfl ?_) | (refine asB_i rfl ?_) | (refine asP_i rfl ?_) | (refine asS_i rfl ?_) | (refine asY_i rfl ?_) | (refine asM_i rfl ?_) | (refine asA_i rfl rfl ?_) | (refine asT_i rfl rfl ?_) | (refine lv_i ?_))
  refine cond_split (fun h => ?_) (fun h => ?_)
  · refine lv_i (bad 1 ?_ (by decide) _ hS.ext)
    unfold cellsE
    rw [if_neg (by simpa using h)]
  have hs : sideOk s = true := by simpa using h
  have hs1 : 1 ≤ s ∧ s ≤ 1099511627776 := by simpa [sideOk] using hs
  repeat (first | (refine right_k (b := b) ?_; intro _ x; replace hS := hS.to x; clear x) | (refine asI_i rfl ?_) | (refine asB_i rfl ?_) | (refine asP_i rfl ?_) | (refine asS_i rfl ?_) | (refine asY_i rfl ?_) | (refine asM_i rfl ?_) | (refine asA_i rfl rfl ?_) | (refine asT_i rfl rfl ?_) | (refine lv_i ?_) | (refine St.nw hS ?_; clear hS; intro _ _ hS) | (refine St.dw hS ?_; clear hS; intro _ hS _) | (refine hS.ld0 0 rfl rfl ?_) | (refine hS.ld 0 rfl rfl ?_) | (refine hS.ld0 1 rfl rfl ?_) | (refine hS.ld 1 rfl rfl ?_) | (refine hS.ld0 2 rfl rfl ?_) | (refine hS.ld 2 rfl rfl ?_) | (refine hS.ld0 3 rfl rfl ?_) | (refine hS.ld 3 rfl rfl ?_) | (refine hS.ld0 4 rfl rfl ?_) | (refine hS.ld 4 rfl rfl ?_) | (refine hS.ld0 5 rfl rfl ?_) | (refine hS.ld 5 rfl rfl ?_) | (refine hS.ld0 6 rfl rfl ?_) | (refine hS.ld 6 rfl rfl ?_) | (refine hS.ld0 7 rfl rfl ?_) | (refine hS.ld 7 rfl rfl ?_) | (refine hS.hd0 0 rfl rfl ?_) | (refine hS.hd 0 rfl rfl ?_) | (refine hS.hd0 1 rfl rfl ?_) | (refine hS.hd 1 rfl rfl ?_) | (refine hS.hd0 2 rfl rfl ?_) | (refine hS.hd 2 rfl rfl ?_) | (refine hS.hd0 3 rfl rfl ?_) | (refine hS.hd 3 rfl rfl ?_) | (refine hS.hd0 4 rfl rfl ?_) | (refine hS.hd 4 rfl rfl ?_) | (refine hS.hd0 5 rfl rfl ?_) | (refine hS.hd 5 rfl rfl ?_) | (refine hS.hd0 6 rfl rfl ?_) | (refine hS.hd 6 rfl rfl ?_) | (refine hS.hd0 7 rfl rfl ?_) | (refine hS.hd 7 rfl rfl ?_) | (refine hS.st0 0 rfl rfl rfl ?_; clear hS; intro _ hS) | (refine hS.st 0 rfl rfl rfl ?_; clear hS; intro _ hS) | (refine hS.st0 1 rfl rfl rfl ?_; clear hS; intro _ hS) | (refine hS.st 1 rfl rfl rfl ?_; clear hS; intro _ hS) | (refine hS.st0 2 rfl rfl rfl ?_; clear hS; intro _ hS) | (refine hS.st 2 rfl rfl rfl ?_; clear hS; intro _ hS) | (refine hS.st0 3 rfl rfl rfl ?_; clear hS; intro _ hS) | (refine hS.st 3 rfl rfl rfl ?_; clear hS; intro _ hS) | (refine hS.st0 4 rfl rfl rfl ?_; clear hS; intro _ hS) | (refine hS.st 4 rfl rfl rfl ?_; clear hS; intro _ hS) | (refine hS.st0 5 rfl rfl rfl ?_; clear hS; intro _ hS) | (refine hS.st 5 rfl rfl rfl ?_; clear hS; intro _ hS) | (refine hS.st0 6 rfl rfl rfl ?_; clear hS; intro _ hS) | (refine hS.st 6 rfl rfl rfl ?_; clear hS; intro _ hS) | (refine hS.st0 7 rfl rfl rfl ?_; clear hS; intro _ hS) | (refine hS.st 7 rfl rfl rfl ?_; clear hS; intro _ hS) | (refine bnd_mk (by decide) (by decide) ?_) | (refine so_i rfl ?_))
  refine cond_split (fun h => ?_) (fun h => ?_)
  · refine lv_i (bad 60 ?_ (by decide) _ hS.ext)
    unfold cellsE
    have hr : ¬ b.right = true := by
      intro hr
      unfold Bx.rightE at h
      rw [if_pos hr] at h
      simp at h
    rw [if_pos hs, if_neg hr]
  have hr : b.right = true := by
    unfold Bx.rightE at h
    by_cases hr : b.right = true
    · exact hr
    · rw [if_neg hr] at h; simp at h
  have hb := right_iff.1 hr
  repeat (first | (refine asI_i rfl ?_) | (refine asB_i rfl ?_) | (refine asP_i rfl ?_) | (refine asS_i rfl ?_) | (refine asY_i rfl ?_) | (refine asM_i rfl ?_) | (refine asA_i rfl rfl ?_) | (refine asT_i rfl rfl ?_) | (refine lv_i ?_) | (refine St.nw hS ?_; clear hS; intro _ _ hS) | (refine St.dw hS ?_; clear hS; intro _ hS _) | (refine hS.ld0 0 rfl rfl ?_) | (refine hS.ld 0 rfl rfl ?_) | (refine hS.ld0 1 rfl rfl ?_) | (refine hS.ld 1 rfl rfl ?_) | (refine hS.ld0 2 rfl rfl ?_) | (refine hS.ld 2 rfl rfl ?_) | (refine hS.ld0 3 rfl rfl ?_) | (refine hS.ld 3 rfl rfl ?_) | (refine hS.ld0 4 rfl rfl ?_) | (refine hS.ld 4 rfl rfl ?_) | (refine hS.ld0 5 rfl rfl ?_) | (refine hS.ld 5 rfl rfl ?_) | (refine hS.ld0 6 rfl rfl ?_) | (refine hS.ld 6 rfl rfl ?_) | (refine hS.ld0 7 rfl rfl ?_) | (refine hS.ld 7 rfl rfl ?_) | (refine hS.hd0 0 rfl rfl ?_) | (refine hS.hd 0 rfl rfl ?_) | (refine hS.hd0 1 rfl rfl ?_) | (refine hS.hd 1 rfl rfl ?_) | (refine hS.hd0 2 rfl rfl ?_) | (refine hS.hd 2 rfl rfl ?_) | (refine hS.hd0 3 rfl rfl ?_) | (refine hS.hd 3 rfl rfl ?_) | (refine hS.hd0 4 rfl rfl ?_) | (refine hS.hd 4 rfl rfl ?_) | (refine hS.hd0 5 rfl rfl ?_) | (refine hS.hd 5 rfl rfl ?_) | (refine hS.hd0 6 rfl rfl ?_) | (refine hS.hd 6 rfl rfl ?_) | (refine hS.hd0 7 rfl rfl ?_) | (refine hS.hd 7 rfl rfl ?_) | (refine hS.st0 0 rfl rfl rfl ?_; clear hS; intro _ hS) | (refine hS.st 0 rfl rfl rfl ?_; clear hS; intro _ hS) | (refine hS.st0 1 rfl rfl rfl ?_; clear hS; intro _ hS) | (refine hS.st 1 rfl rfl rfl ?_; clear hS; intro _ hS) | (refine hS.st0 2 rfl rfl rfl ?_; clear hS; intro _ hS) | (refine hS.st 2 rfl rfl rfl ?_; clear hS; intro _ hS) | (refine hS.st0 3 rfl rfl rfl ?_; clear hS; intro _ hS) | (refine hS.st 3 rfl rfl rfl ?_; clear hS; intro _ hS) | (refine hS.st0 4 rfl rfl rfl ?_; clear hS; intro _ hS) | (refine hS.st 4 rfl rfl rfl ?_; clear hS; intro _ hS) | (refine hS.st0 5 rfl rfl rfl ?_; clear hS; intro _ hS) | (refine hS.st 5 rfl rfl rfl ?_; clear hS; intro _ hS) | (refine hS.st0 6 rfl rfl rfl ?_; clear hS; intro _ hS) | (refine hS.st 6 rfl rfl rfl ?_; clear hS; intro _ hS) | (refine hS.st0 7 rfl rfl rfl ?_; clear hS; intro _ hS) | (refine hS.st 7 rfl rfl rfl ?_; clear hS; intro _ hS) | (refine bnd_mk (by decide) (by decide) ?_) | (refine so_i rfl ?_))
  have e1 : IntKind.wrap .i64 (b.x - b.r) = b.x - b.r := wr64 (by omega) (by omega)
  have e2 : IntKind.wrap .i64 (b.y - b.r) = b.y - b.r := wr64 (by omega) (by omega)
  have e3 : IntKind.wrap .i64 (IntKind.wrap .i64 (b.x + b.r) - 1) = b.x + b.r - 1 := by rw [wr64 (n := b.x + b.r) (by omega) (by omega), wr64 (by omega) (by omega)]
  have e4 : IntKind.wrap .i64 (IntKind.wrap .i64 (b.y + b.r) - 1) = b.y + b.r - 1 := by rw [wr64 (n := b.y + b.r) (by omega) (by omega), wr64 (by omega) (by omega)]
  rw [e1, e2]
  refine gcell_k (by omega) (by omega) hs1.1 (asC_i rfl ?_)
  repeat (first | (refine asI_i rfl ?_) | (refine asB_i rfl ?_) | (refine asP_i rfl ?_) | (refine asS_i rfl ?_) | (refine asY_i rfl ?_) | (refine asM_i rfl ?_) | (refine asA_i rfl rfl ?_) | (refine asT_i rfl rfl ?_) | (refine lv_i ?_) | (refine St.nw hS ?_; clear hS; intro _ _ hS) | (refine St.dw hS ?_; clear hS; intro _ hS _) | (refine hS.ld0 0 rfl rfl ?_) | (refine hS.ld 0 rfl rfl ?_) | (refine hS.ld0 1 rfl rfl ?_) | (refine hS.ld 1 rfl rfl ?_) | (refine hS.ld0 2 rfl rfl ?_) | (refine hS.ld 2 rfl rfl ?_) | (refine hS.ld0 3 rfl rfl ?_) | (refine hS.ld 3 rfl rfl ?_) | (refine hS.ld0 4 rfl rfl ?_) | (refine hS.ld 4 rfl rfl ?_) | (refine hS.ld0 5 rfl rfl ?_) | (refine hS.ld 5 rfl rfl ?_) | (refine hS.ld0 6 rfl rfl ?_) | (refine hS.ld 6 rfl rfl ?_) | (refine hS.ld0 7 rfl rfl ?_) | (refine hS.ld 7 rfl rfl ?_) | (refine hS.hd0 0 rfl rfl ?_) | (refine hS.hd 0 rfl rfl ?_) | (refine hS.hd0 1 rfl rfl ?_) | (refine hS.hd 1 rfl rfl ?_) | (refine hS.hd0 2 rfl rfl ?_) | (refine hS.hd 2 rfl rfl ?_) | (refine hS.hd0 3 rfl rfl ?_) | (refine hS.hd 3 rfl rfl ?_) | (refine hS.hd0 4 rfl rfl ?_) | (refine hS.hd 4 rfl rfl ?_) | (refine hS.hd0 5 rfl rfl ?_) | (refine hS.hd 5 rfl rfl ?_) | (refine hS.hd0 6 rfl rfl ?_) | (refine hS.hd 6 rfl rfl ?_) | (refine hS.hd0 7 rfl rfl ?_) | (refine hS.hd 7 rfl rfl ?_) | (refine hS.st0 0 rfl rfl rfl ?_; clear hS; intro _ hS) | (refine hS.st 0 rfl rfl rfl ?_; clear hS; intro _ hS) | (refine hS.st0 1 rfl rfl rfl ?_; clear hS; intro _ hS) | (refine hS.st 1 rfl rfl rfl ?_; clear hS; intro _ hS) | (refine hS.st0 2 rfl rfl rfl ?_; clear hS; intro _ hS) | (refine hS.st 2 rfl rfl rfl ?_; clear hS; intro _ hS) | (refine hS.st0 3 rfl rfl rfl ?_; clear hS; intro _ hS) | (refine hS.st 3 rfl rfl rfl ?_; clear hS; intro _ hS) | (refine hS.st0 4 rfl rfl rfl ?_; clear hS; intro _ hS) | (refine hS.st 4 rfl rfl rfl ?_; clear hS; intro _ hS) | (refine hS.st0 5 rfl rfl rfl ?_; clear hS; intro _ hS) | (refine hS.st 5 rfl rfl rfl ?_; clear hS; intro _ hS) | (refine hS.st0 6 rfl rfl rfl ?_; clear hS; intro _ hS) | (refine hS.st 6 rfl rfl rfl ?_; clear hS; intro _ hS) | (refine hS.st0 7 rfl rfl rfl ?_; clear hS; intro _ hS) | (refine hS.st 7 rfl rfl rfl ?_; clear hS; intro _ hS) | (refine bnd_mk (by decide) (by decide) ?_) | (refine so_i rfl ?_))
  rw [e3, e4]
  refine gcell_k (by omega) (by omega) hs1.1 (asC_i rfl ?_)
  repeat (first | (refine asI_i rfl ?_) | (refine asB_i rfl ?_) | (refine asP_i rfl ?_) | (refine asS_i rfl ?_) | (refine asY_i rfl ?_) | (refine asM_i rfl ?_) | (refine asA_i rfl rfl ?_) | (refine asT_i rfl rfl ?_) | (refine lv_i ?_) | (refine St.nw hS ?_; clear hS; intro _ _ hS) | (refine St.dw hS ?_; clear hS; intro _ hS _) | (refine hS.ld0 0 rfl rfl ?_) | (refine hS.ld 0 rfl rfl ?_) | (refine hS.ld0 1 rfl rfl ?_) | (refine hS.ld 1 rfl rfl ?_) | (refine hS.ld0 2 rfl rfl ?_) | (refine hS.ld 2 rfl rfl ?_) | (refine hS.ld0 3 rfl rfl ?_) | (refine hS.ld 3 rfl rfl ?_) | (refine hS.ld0 4 rfl rfl ?_) | (refine hS.ld 4 rfl rfl ?_) | (refine hS.ld0 5 rfl rfl ?_) | (refine hS.ld 5 rfl rfl ?_) | (refine hS.ld0 6 rfl rfl ?_) | (refine hS.ld 6 rfl rfl ?_) | (refine hS.ld0 7 rfl rfl ?_) | (refine hS.ld 7 rfl rfl ?_) | (refine hS.hd0 0 rfl rfl ?_) | (refine hS.hd 0 rfl rfl ?_) | (refine hS.hd0 1 rfl rfl ?_) | (refine hS.hd 1 rfl rfl ?_) | (refine hS.hd0 2 rfl rfl ?_) | (refine hS.hd 2 rfl rfl ?_) | (refine hS.hd0 3 rfl rfl ?_) | (refine hS.hd 3 rfl rfl ?_) | (refine hS.hd0 4 rfl rfl ?_) | (refine hS.hd 4 rfl rfl ?_) | (refine hS.hd0 5 rfl rfl ?_) | (refine hS.hd 5 rfl rfl ?_) | (refine hS.hd0 6 rfl rfl ?_) | (refine hS.hd 6 rfl rfl ?_) | (refine hS.hd0 7 rfl rfl ?_) | (refine hS.hd 7 rfl rfl ?_) | (refine hS.st0 0 rfl rfl rfl ?_; clear hS; intro _ hS) | (refine hS.st 0 rfl rfl rfl ?_; clear hS; intro _ hS) | (refine hS.st0 1 rfl rfl rfl ?_; clear hS; intro _ hS) | (refine hS.st 1 rfl rfl rfl ?_; clear hS; intro _ hS) | (refine hS.st0 2 rfl rfl rfl ?_; clear hS; intro _ hS) | (refine hS.st 2 rfl rfl rfl ?_; clear hS; intro _ hS) | (refine hS.st0 3 rfl rfl rfl ?_; clear hS; intro _ hS) | (refine hS.st 3 rfl rfl rfl ?_; clear hS; intro _ hS) | (refine hS.st0 4 rfl rfl rfl ?_; clear hS; intro _ hS) | (refine hS.st 4 rfl rfl rfl ?_; clear hS; intro _ hS) | (refine hS.st0 5 rfl rfl rfl ?_; clear hS; intro _ hS) | (refine hS.st 5 rfl rfl rfl ?_; clear hS; intro _ hS) | (refine hS.st0 6 rfl rfl rfl ?_; clear hS; intro _ hS) | (refine hS.st 6 rfl rfl rfl ?_; clear hS; intro _ hS) | (refine hS.st0 7 rfl rfl rfl ?_; clear hS; intro _ hS) | (refine hS.st 7 rfl rfl rfl ?_; clear hS; intro _ hS) | (refine bnd_mk (by decide) (by decide) ?_) | (refine so_i rfl ?_))
  have hsp : spanOf s b = ⟨(b.x - b.r) / s, (b.y - b.r) / s, (b.x + b.r - 1) / s, (b.y + b.r - 1) / s⟩ := rfl
  have hle := span_le hs1.1 hr
  have d1 := div_bound (n := b.x - b.r) hs1.1
  have d2 := div_bound (n := b.y - b.r) hs1.1
  have d3 := div_bound (n := b.x + b.r - 1) hs1.1
  have d4 := div_bound (n := b.y + b.r - 1) hs1.1
  have hE : cellsE s b = if (spanOf s b).ok = true then if (spanOf s b).wide * (spanOf s b).tall > 1024 then 2 else 0 else 40 := by
    unfold cellsE
    rw [if_pos hs, if_pos hr]
  unfold cellsL' at hK
  generalize hp : spanOf s b = p at *
  obtain ⟨lx, ly, hx, hy⟩ := p
  simp only [Span.mk.injEq] at hsp
  obtain ⟨rfl, rfl, rfl, rfl⟩ := hsp
  generalize (b.x - b.r) / s = lx at *
  generalize (b.y - b.r) / s = ly at *
  generalize (b.x + b.r - 1) / s = ux at *
  generalize (b.y + b.r - 1) / s = uy at *
  simp only at hle
  have na : lx.natAbs < 18446744073709551616 ∧ ly.natAbs < 18446744073709551616 ∧ ux.natAbs < 18446744073709551616 ∧ uy.natAbs < 18446744073709551616 := by
    refine ⟨?_, ?_, ?_, ?_⟩
    · rcases Int.lt_or_le (b.x - b.r) 0 with h | h
      · have := d1.2 h; omega
      · have := d1.1 h; omega
    · rcases Int.lt_or_le (b.y - b.r) 0 with h | h
      · have := d2.2 h; omega
      · have := d2.1 h; omega
    · rcases Int.lt_or_le (b.x + b.r - 1) 0 with h | h
      · have := d3.2 h; omega
      · have := d3.1 h; omega
    · rcases Int.lt_or_le (b.y + b.r - 1) 0 with h | h
      · have := d4.2 h; omega
      · have := d4.1 h; omega
  clear d1 d2 d3 d4 e1 e2 e3 e4
  refine jn_of (fun t w' => t = [.bool (!(Span.mk lx ly ux uy).ok)] ∧ Ext no w w') ?_ ?_
  · rintro _ w1 ⟨rfl, hx1⟩
    refine asB_i rfl (cond_split (fun h => ?_) (fun h => ?_))
    · refine lv_i (bad 40 ?_ (by decide) _ hx1)
      rw [hE, if_neg (by simpa using h)]
    have hok : (Span.mk lx ly ux uy).ok = true := by simpa using h
    rw [if_pos hok] at hE
    have hc : ((-1048576 ≤ lx ∧ lx ≤ 1048576) ∧ (-1048576 ≤ ly ∧ ly ≤ 1048576)) ∧ ((-1048576 ≤ ux ∧ ux ≤ 1048576) ∧ (-1048576 ≤ uy ∧ uy ≤ 1048576)) := by
      simp only [Span.ok, Bool.and_eq_true, isCell_iff] at hok
      exact hok
    refine F_sub (by omega) (by omega) (F_sub (by omega) (by omega) (f2i_F (by omega) (f2i_F (by omega) (lv_i (lv_i ?_)))))
    have hwd : (Span.mk lx ly ux uy).wide = ux - lx + 1 := rfl
    have htl : (Span.mk lx ly ux uy).tall = uy - ly + 1 := rfl
    rw [wr64 (n := ux - lx + 1) (by omega) (by omega), wr64 (n := uy - ly + 1) (by omega) (by omega)]
    rw [hwd, htl] at hE hK
    generalize hW : ux - lx + 1 = W at *
    generalize hT : uy - ly + 1 = T at *
    have hW1 : 1 ≤ W ∧ W ≤ 2097153 := by omega
    have hT1 : 1 ≤ T ∧ T ≤ 2097153 := by omega
    have hWT : 1 ≤ W * T ∧ W * T ≤ 2097153 * 2097153 := by
      constructor
      · have : 1 * 1 ≤ W * T := Int.mul_le_mul hW1.1 hT1.1 (by decide) (by omega)
        omega
      · exact Int.mul_le_mul hW1.2 hT1.2 (by omega) (by decide)
    rw [wr64 (n := W * T) (by omega) (by omega)]
    refine cond_split (fun h => ?_) (fun h => ?_)
    · refine lv_i (bad 2 ?_ (by decide) _ hx1)
      rw [hE, if_pos (of_decide_eq_true h)]
    have hle : ¬ W * T > 1024 := of_decide_eq_false h
    rw [if_neg hle] at hE
    rw [if_pos hE, hE] at hK
    obtain ⟨Wn, rfl⟩ : ∃ n : Nat, W = (n : Int) := ⟨W.toNat, by omega⟩
    obtain ⟨Tn, rfl⟩ : ∃ n : Nat, T = (n : Int) := ⟨T.toNat, by omega⟩
    simp only [Int.toNat_natCast] at hK
    have hcap : ((Wn : Int) * (Tn : Int)) = ((Wn * Tn : Nat) : Int) := by simp
    rw [hcap] at hle hWT ⊢
    have hcap1 : Wn * Tn ≤ 1024 := by omega
    refine sC.make0 (by omega) (le_maxLen (by omega)) ?_
    intro w2 hrow hx2
    refine asS_i rfl ?_
    have hx02 := hx1.trans hx2
    have hvs : ∀ (lst : List (Int × Int)), (∀ u ∈ lst.map cv, Sx.one u = true) := by
      intro lst u hu
      simp only [List.mem_map] at hu
      obtain ⟨q, _, rfl⟩ := hu
      rfl
    refine lp_mk (fun t : Nat × (Option Addr × Nat × Nat) => [.complex .f64 (F lx) (F (ly + (t.1 : Int))), .slice t.2.1 t.2.2.1 t.2.2.2, .int .i64 (t.1 : Int)])
      (fun m t w' => m = Tn - t.1 ∧ t.1 ≤ Tn ∧ Ext no w w' ∧ t.2.2.1 = (rowsC lx ly Wn t.1).length ∧ Row w' w.heap.size 49 t.2.1 t.2.2.2 ((rowsC lx ly Wn t.1).map cv)) Tn (0, (some ⟨w1.heap.size, 0, none⟩, 0, Wn * Tn)) (by simp) ⟨rfl, Nat.zero_le _, hx02, rfl, hrow.mono hx1.size⟩ ?_
    rintro _ ⟨j, p, n, c⟩ w3 ⟨rfl, hj, hx3, hn, hr3⟩ J hJ
    simp only at hj hn hr3 hJ ⊢
    subst hn
    refine asC_i rfl (asS_i rfl (asI_i rfl (cond_split (fun h => ?_) (fun h => ?_))))
    · have hjT : j < Tn := by
        have := of_decide_eq_true h
        omega
      refine lp_mk (fun t : Nat × (Option Addr × Nat × Nat) => [.slice t.2.1 t.2.2.1 t.2.2.2, .complex .f64 (F (lx + (t.1 : Int))) (F (ly + (j : Int))), .int .i64 (t.1 : Int)])
        (fun m t w' => m = Wn - t.1 ∧ t.1 ≤ Wn ∧ Ext no w w' ∧ t.2.2.1 = (rowsC lx ly Wn j ++ rowC lx (ly + (j : Int)) t.1).length ∧ Row w' w.heap.size 49 t.2.1 t.2.2.2 ((rowsC lx ly Wn j ++ rowC lx (ly + (j : Int)) t.1).map cv)) Wn (0, (p, (rowsC lx ly Wn j).length, c)) (by simp)
        ⟨rfl, Nat.zero_le _, hx3, by simp [rowC], by simpa [rowC] using hr3⟩ ?_
      rintro _ ⟨i, p, n, c⟩ w4 ⟨rfl, hi, hx4, hn, hr4⟩ J2 hJ2
      simp only at hi hn hr4 hJ2 ⊢
      subst hn
      refine asS_i rfl (asC_i rfl (asI_i rfl (cond_split (fun h => ?_) (fun h => ?_))))
      · have hiW : i < Wn := by
          have := of_decide_eq_true h
          omega
        have hlen : (rowsC lx ly Wn j ++ rowC lx (ly + (j : Int)) i).length = j * Wn + i := by
          rw [List.length_append, rowsC_length, rowC_length]
        have hlen2 : j * Wn + i < 1024 := by
          have : (j + 1) * Wn ≤ Tn * Wn := Nat.mul_le_mul_right _ hjT
          rw [Nat.add_mul, Nat.mul_comm Tn Wn] at this
          omega
        refine sC.app1 hr4 (by simp) hx4.size rfl (le_maxLen (by omega)) (by omega) ?_
        intro p' c' w5 hr5 hE5 hM5
        have hx5 : Ext no w w5 := hx4.then hE5 fun k hk hkb => by
          obtain ⟨q, hq, rfl⟩ := hkb
          have := (hr4.at hq).1
          omega
        refine asS_i rfl ?_
        rw [← F_one, ← F_zero]
        refine F_add (by omega) (by decide) (F_add (by omega) (by decide) ?_)
        have ei : IntKind.wrap .i64 ((i : Int) + 1) = ((i + 1 : Nat) : Int) := by rw [wr64 (by omega) (by omega)]; omega
        rw [ei, Int.add_zero]
        have eF : lx + (i : Int) + 1 = lx + ((i + 1 : Nat) : Int) := by omega
        rw [eF]
        have erow : rowC lx (ly + (j : Int)) (i + 1) = rowC lx (ly + (j : Int)) i ++ [(lx + (i : Int), ly + (j : Int))] := by
          simp [rowC, List.range_succ]
        refine hJ2 (Wn - (i + 1)) (i + 1, (p', (rowsC lx ly Wn j ++ rowC lx (ly + (j : Int)) i).length + 1, c')) w5 (by omega) ⟨rfl, hiW, hx5, ?_, ?_⟩
        · simp only [erow, List.length_append, List.length_singleton]
          omega
        · simp only [erow]
          rw [← List.append_assoc, List.map_append]
          exact hr5
      · have hiW : i = Wn := by
          have := of_decide_eq_false h
          omega
        subst hiW
        rw [← F_one, ← F_zero]
        refine F_add (by omega) (by decide) (F_add (by omega) (by decide) ?_)
        have ej : IntKind.wrap .i64 ((j : Int) + 1) = ((j + 1 : Nat) : Int) := by rw [wr64 (by omega) (by omega)]; omega
        rw [ej, Int.add_zero]
        have eF : ly + (j : Int) + 1 = ly + ((j + 1 : Nat) : Int) := by omega
        rw [eF]
        have erows : rowsC lx ly i (j + 1) = rowsC lx ly i j ++ rowC lx (ly + (j : Int)) i := by
          simp [rowsC, List.range_succ]
        refine hJ (Tn - (j + 1)) (j + 1, (p, (rowsC lx ly i j ++ rowC lx (ly + (j : Int)) i).length, c)) w4 (by omega) ⟨rfl, hjT, hx4, ?_, ?_⟩
        · simp only [erows]
        · simp only [erows]
          exact hr4
    · have hjT : j = Tn := by
        have := of_decide_eq_false h
        omega
      subst hjT
      exact lv_i (hK p c w3 hx3 hr3)
  · intro J hJ
    refine cellF_k na.1 na.2.1 (asB_i rfl (cond_split (fun h => hJ _ _ ⟨?_, hS.ext⟩) (fun h => cellF_k na.2.2.1 na.2.2.2 (asB_i rfl (hJ _ _ ⟨?_, hS.ext⟩)))))
    · simp only [Span.ok]
      have : isCell lx ly = false := by simpa using h
      rw [this]; rfl
    · simp only [Span.ok]
      have : isCell lx ly = true := by simpa using h
      rw [this]; rfl
end Go.Proofs.Ytamobmjfdiecbaa

/- As: lists of keys and values, plainly: what is there behind a change. No condition. -/
namespace Go.Sx
set_option linter.unusedSectionVars false

section
variable {α β γ : Type} [DecidableEq α]

theorem aget_cons {x : α × β} {A : List (α × β)} {a : α} : aget (x :: A) a = if x.1 = a then some x.2 else aget A a := by
  unfold aget
  rw [afind]
  split
  · rfl
  · rw [afind_shift]
    cases afind a A 0 <;> rfl

theorem aget_nil {a : α} : aget ([] : List (α × β)) a = none := rfl

theorem aget_mem {A : List (α × β)} {a : α} {b : β} (h : aget A a = some b) : (a, b) ∈ A := by
  induction A with
  | nil => cases h
  | cons x A ih =>
    rw [aget_cons] at h
    split at h
    · rename_i hx
      simp only [Option.some.injEq] at h
      subst h
      subst hx
      simp
    · exact List.mem_cons_of_mem _ (ih h)

theorem aget_none {A : List (α × β)} {a : α} : aget A a = none ↔ ∀ x ∈ A, x.1 ≠ a := by
  unfold aget
  rw [Option.map_eq_none_iff, afind_none]

theorem aget_of_mem {A : List (α × β)} (hn : (A.map (·.1)).Nodup) {a : α} {b : β} (h : (a, b) ∈ A) : aget A a = some b := by
  induction A with
  | nil => cases h
  | cons x A ih =>
    rw [aget_cons]
    simp only [List.map_cons, List.nodup_cons] at hn
    rcases List.mem_cons.1 h with rfl | h
    · simp
    · rw [if_neg, ih hn.2 h]
      intro e
      exact hn.1 (e ▸ List.mem_map.2 ⟨_, h, rfl⟩)

theorem aget_aset {A : List (α × β)} {a : α} {b : β} {c : α} : aget (aset A a b) c = if c = a then some b else aget A c := by
  induction A with
  | nil =>
    simp only [aset, aget_cons, aget_nil]
    by_cases h : a = c
    · simp [h]
    · simp [h, Ne.symm h]
  | cons x A ih =>
    unfold aset
    split
    · rename_i hx
      rw [aget_cons, aget_cons]
      by_cases h : c = a
      · simp [hx, h]
      · have : ¬ x.1 = c := by rw [hx]; exact fun e => h e.symm
        simp [this, h]
    · rename_i hx
      rw [aget_cons, aget_cons, ih]
      by_cases h : x.1 = c
      · have : ¬ c = a := by rw [← h]; exact hx
        simp [h, this]
      · simp [h]

theorem mem_aset {A : List (α × β)} (hn : (A.map (·.1)).Nodup) {a : α} {b : β} {x : α × β} (h : x ∈ aset A a b) : x = (a, b) ∨ (x ∈ A ∧ x.1 ≠ a) := by
  induction A with
  | nil =>
    simp only [aset, List.mem_singleton] at h
    exact .inl h
  | cons y A ih =>
    simp only [List.map_cons, List.nodup_cons] at hn
    unfold aset at h
    split at h
    · rename_i hy
      rcases List.mem_cons.1 h with rfl | h
      · exact .inl (by rw [hy])
      · refine .inr ⟨List.mem_cons_of_mem _ h, fun e => hn.1 ?_⟩
        rw [hy, ← e]
        exact List.mem_map.2 ⟨x, h, rfl⟩
    · rename_i hy
      rcases List.mem_cons.1 h with rfl | h
      · exact .inr ⟨by simp, hy⟩
      · rcases ih hn.2 h with h | ⟨h1, h2⟩
        · exact .inl h
        · exact .inr ⟨List.mem_cons_of_mem _ h1, h2⟩

theorem aset_keys {A : List (α × β)} {a : α} {b : β} : (aset A a b).map (·.1) = if a ∈ A.map (·.1) then A.map (·.1) else A.map (·.1) ++ [a] := by
  induction A with
  | nil => simp [aset]
  | cons x A ih =>
    unfold aset
    split
    · rename_i h
      simp [h]
    · rename_i h
      rw [List.map_cons, ih]
      have h' : ¬ a = x.1 := fun e => h e.symm
      simp only [List.map_cons, List.mem_cons, h', false_or]
      split <;> simp

theorem nodup_aset {A : List (α × β)} (hn : (A.map (·.1)).Nodup) {a : α} {b : β} : ((aset A a b).map (·.1)).Nodup := by
  rw [aset_keys]
  split
  · exact hn
  · rename_i h
    rw [List.nodup_append]
    refine ⟨hn, by simp, ?_⟩
    intro x hx y hy
    simp only [List.mem_singleton] at hy
    subst hy
    exact fun e => h (e ▸ hx)

theorem pairwise_aset {A : List (α × β)} {R : α × β → α × β → Prop} (hR : A.Pairwise R) (hn : (A.map (·.1)).Nodup) {a : α} {b : β} (h : ∀ x ∈ A, x.1 ≠ a → R x (a, b) ∧ R (a, b) x) : (aset A a b).Pairwise R := by
  induction A with
  | nil => simp [aset]
  | cons y A ih =>
    simp only [List.map_cons, List.nodup_cons] at hn
    rw [List.pairwise_cons] at hR
    unfold aset
    split
    · rename_i hy
      rw [List.pairwise_cons]
      refine ⟨fun x hx => ?_, hR.2⟩
      have hxa : x.1 ≠ a := fun e => hn.1 (by rw [hy, ← e]; exact List.mem_map.2 ⟨x, hx, rfl⟩)
      have := (h x (by simp [hx]) hxa).2
      rw [hy]
      exact this
    · rename_i hy
      rw [List.pairwise_cons]
      refine ⟨fun x hx => ?_, ih hR.2 hn.2 fun x hx => h x (by simp [hx])⟩
      rcases mem_aset hn.2 hx with rfl | ⟨hx, _⟩
      · exact (h y (by simp) hy).1
      · exact hR.1 x hx

theorem map_aset {f : β → γ} {A : List (α × β)} {a : α} {b : β} : (aset A a b).map (fun x => (x.1, f x.2)) = aset (A.map (fun x => (x.1, f x.2))) a (f b) := by
  induction A with
  | nil => rfl
  | cons x A ih =>
    simp only [aset, List.map_cons]
    split
    · simp
    · simp [ih]

theorem map_aget {f : β → γ} {A : List (α × β)} {a : α} : aget (A.map (fun x => (x.1, f x.2))) a = (aget A a).map f := by
  induction A with
  | nil => rfl
  | cons x A ih =>
    simp only [List.map_cons, aget_cons]
    split
    · rfl
    · exact ih

theorem map_adel {f : β → γ} {A : List (α × β)} {a : α} : (adel A a).map (fun x => (x.1, f x.2)) = adel (A.map (fun x => (x.1, f x.2))) a := by
  induction A with
  | nil => rfl
  | cons x A ih =>
    simp only [adel, List.map_cons]
    split
    · rfl
    · simp [ih]

theorem adel_sub (A : List (α × β)) (a : α) : (adel A a).Sublist A := by
  induction A with
  | nil => exact List.Sublist.refl _
  | cons x A ih =>
    unfold adel
    split
    · exact List.sublist_cons_self _ _
    · exact ih.cons_cons _

theorem mem_adel {A : List (α × β)} (hn : (A.map (·.1)).Nodup) {a : α} {x : α × β} : x ∈ adel A a ↔ x ∈ A ∧ x.1 ≠ a := by
  induction A with
  | nil => simp [adel]
  | cons y A ih =>
    simp only [List.map_cons, List.nodup_cons] at hn
    unfold adel
    split
    · rename_i hy
      constructor
      · intro h
        refine ⟨List.mem_cons_of_mem _ h, fun e => hn.1 ?_⟩
        rw [hy, ← e]
        exact List.mem_map.2 ⟨x, h, rfl⟩
      · rintro ⟨h, hne⟩
        rcases List.mem_cons.1 h with rfl | h
        · exact absurd hy hne
        · exact h
    · rename_i hy
      rw [List.mem_cons, ih hn.2, List.mem_cons]
      constructor
      · rintro (rfl | ⟨h1, h2⟩)
        · exact ⟨.inl rfl, hy⟩
        · exact ⟨.inr h1, h2⟩
      · rintro ⟨rfl | h1, h2⟩
        · exact .inl rfl
        · exact .inr ⟨h1, h2⟩

theorem nodup_adel {A : List (α × β)} (hn : (A.map (·.1)).Nodup) {a : α} : ((adel A a).map (·.1)).Nodup := hn.sublist ((adel_sub A a).map _)

theorem aget_adel {A : List (α × β)} (hn : (A.map (·.1)).Nodup) {a c : α} : aget (adel A a) c = if c = a then none else aget A c := by
  induction A with
  | nil => simp [adel, aget_nil]
  | cons x A ih =>
    simp only [List.map_cons, List.nodup_cons] at hn
    unfold adel
    split
    · rename_i hx
      rw [aget_cons]
      by_cases h : c = a
      · rw [if_pos h]
        rw [aget_none]
        intro y hy e
        exact hn.1 (by rw [hx, ← h, ← e]; exact List.mem_map.2 ⟨y, hy, rfl⟩)
      · have : ¬ x.1 = c := by rw [hx]; exact fun e => h e.symm
        simp [this, h]
    · rename_i hx
      rw [aget_cons, aget_cons, ih hn.2]
      by_cases h : x.1 = c
      · have : ¬ c = a := by rw [← h]; exact hx
        simp [h, this]
      · simp [h]
end
end Go.Sx

/- Cz: clear(s[i:]) on a row of one's own. No condition. -/
namespace Go.Sx
open Go Go.RowKit

theorem Row.take {w : World} {base : Nat} {e : TypeId} {p : Option Addr} {c : Nat} {xs : List Value} (h : Row w base e p c xs) (i : Nat) : Row w base e p c (xs.take i) := by
  rcases h.cases with ⟨rfl, rfl, rfl⟩ | ⟨g, cur, rfl, hb, hg, h1, h2, h3, h4⟩
  · simpa using Row.nil w base e
  · refine ⟨by simp, .inr ⟨g, c, cur, rfl, hb, hg, ?_, h2, by simpa using h3, ?_⟩⟩
    · simp; omega
    · rw [Nat.mul_one, ← h4]
      simp [List.take_take]

theorem rn_clear {P : Program} {t ty e : TypeId} {z : Value} {b : Nat} (ht : SlT P t e z b) (h1 : one z = true)
    {w : World} {base : Nat} {p : Option Addr} {c : Nat} {xs : List Value} (h : Row w base e p c xs) {i : Nat} (hi : i ≤ xs.length) {K : Value → World → Prop}
    (hK : ∀ w', Row w' base e p c (xs.take i) → Ext (blocks p) w w' → w'.heap.size = w.heap.size → K (.tuple #[]) w') :
    rn P (Builtin.clear_ #[t] ty #[.slice (slp p c i 1) (xs.length - i) (c - i)]) w K := by
  obtain ⟨inf, hinf, hz, hs, _⟩ := ht.inf
  by_cases h0 : xs.length - i = 0
  · have hr : (Builtin.clear_ #[t] ty #[.slice (slp p c i 1) (xs.length - i) (c - i)]).run P w = .ok (.tuple #[]) w := by
      rw [h0]
      cases slp p c i 1 <;> simp [Builtin.clear_, run_underlying ht.und]
    refine rn_mk hr (hK w ?_ (Ext.refl _ _) rfl)
    exact h.take i
  · rcases h.cases with ⟨_, _, rfl⟩ | ⟨g, cur, rfl, hb, hg, hl, hcm, hcs, htk⟩
    · simp at h0
    · have hsl : slp (some (⟨g, 0, none⟩ : Addr)) c i 1 = some ⟨g, i, none⟩ := by
        unfold slp
        rw [if_neg (by omega)]
        simp [add_mk]
      rw [hsl]
      have hzc : (Builtin.zeroCells z.cells (xs.length - i)).toList = List.replicate (xs.length - i) z := by
        rw [ht.cells]
        simp [Builtin.zeroCells]
        apply List.ext_getElem
        · simp
        · intro i h1 h2
          simp [Nat.mod_one]
      have hst := run_storeCells_at P g i e (List.replicate (xs.length - i) z) 0 cur w hg (by simp; omega) (by intro v hv; rw [List.eq_of_mem_replicate hv]; exact one_of h1)
      simp only [Nat.add_zero] at hst
      obtain ⟨m, hm⟩ : ∃ m, xs.length - i = m + 1 := ⟨xs.length - i - 1, by omega⟩
      have hv : (zeroValue e).run P w = .ok z w := by simp [zeroValue, typeInfo, hinf, hz]
      have hr : (Builtin.clear_ #[t] ty #[.slice (some ⟨g, i, none⟩) (xs.length - i) (c - i)]).run P w =
          .ok (.tuple #[]) (w.setRow g (cur.toList.take i ++ List.replicate (xs.length - i) z ++ cur.toList.drop (i + (List.replicate (xs.length - i) z).length)).toArray) := by
        rw [hm] at hst hzc ⊢
        simp [Builtin.clear_, run_underlying ht.und, hv, hzc, hst]
      refine rn_mk hr (hK _ ⟨by simp, .inr ⟨g, c, _, rfl, hb, setRow_heap w g cur _ e _ hg, ?_, hcm, ?_, ?_⟩⟩ ⟨rfl, rfl, rfl, by simp [World.setRow], fun k _ hk => setRow_other w g k _ fun e => hk ⟨_, rfl, e.symm⟩⟩ (by simp [World.setRow]))
      · simp; omega
      · simp; omega
      · have e : xs.take i = cur.toList.take i := by
          conv => lhs; rw [← htk]
          rw [List.take_take, Nat.min_eq_left hi]
        have hl2 : (xs.take i).length * 1 = i := by rw [Nat.mul_one, List.length_take]; omega
        rw [hl2, e, List.append_assoc, List.take_append_of_le_length (by simp; omega), List.take_take, Nat.min_self]
end Go.Sx

/- GrD: slices.DeleteFunc at a grid's lists; the grid as a thing in memory, and what its functions do to it, as contracts over lists of numbers and boxes. Conditions: those of each theorem, on its arguments. -/
namespace Go.Proofs.Ytamobmjfdiecbaa
open Go Go.Sx Go.Fp
attribute [local irreducible] jn lv ld st nw asI asB asP asS asY asM asF asA asT lp rn ru rq cl dw dr bnd bn2 nz nn hd hr so eqW

/-! ### DeleteFunc -/
theorem pred_k {n id : Int} {a : Addr} {w : World} (hc : w.cell? a = some (.int .i64 id)) {K : Value → World → Prop} (hK : K (.bool (n == id)) w) : cl Try.prog 79 #[.int .i64 n, .pointer (some a)] w K := by
  apply F79_calls
  unfold F79
  exact dr_i (ld_mk hc (asI_i rfl hK))

theorem okPred : callOk Try.prog 79 = true := by kernel_rfl
attribute [local irreducible] callOk

theorem indexFunc_k {s : Option Addr} {n c : Nat} {ids : List Int} {id : Int} {a : Addr} {w : World} (hr : Reads w s (iv .i64 ids)) (hn : ids.length = n) (hb : n ≤ 1125899906842624) (hc : w.cell? a = some (.int .i64 id)) {K : Value → World → Prop}
    (hnone : (∀ j : Nat, j < n → ids[j]? ≠ some id) → K (.int .i64 (-1)) w) (hsome : ∀ i : Nat, i < n → ids[i]? = some id → (∀ j : Nat, j < i → ids[j]? ≠ some id) → K (.int .i64 (i : Int)) w) :
    cl Try.prog 89 #[.slice s n c, .func (.func 79) #[] #[.pointer (some a)]] w K := by
  subst hn
  apply F89_calls
  unfold F89
  refine lv_i (lp_mk (fun i : Nat => [.int .i64 (i : Int)]) (fun m i w' => w = w' ∧ m = ids.length - i ∧ i ≤ ids.length ∧ ∀ j : Nat, j < i → ids[j]? ≠ some id) ids.length 0 rfl ⟨rfl, rfl, Nat.zero_le _, by omega⟩ ?_)
  rintro _ i _ ⟨rfl, rfl, hi, hall⟩ J hJ
  refine asI_i rfl (cond_split (fun h => ?_) (fun h => ?_))
  · have hil : i < ids.length := by
      have := of_decide_eq_true h
      omega
    refine lv_i (hr.at (i := (i : Int)) (by omega) (v := .int .i64 ids[i]) (by simp [iv, hil]) ?_ (by simp [iv]))
    refine asI_i rfl (cond_t okPred ?_)
    show cl Try.prog 79 #[.int .i64 ids[i], .pointer (some a)] w _
    refine pred_k hc (asB_i rfl (cond_split (fun h => lv_i ?_) (fun h => ?_)))
    · refine hsome i hil ?_ hall
      rw [List.getElem?_eq_getElem hil]
      congr 1
      simpa using h
    · have ei : IntKind.wrap .i64 ((i : Int) + 1) = ((i + 1 : Nat) : Int) := by rw [wr64 (by omega) (by omega)]; omega
      rw [ei]
      refine hJ (ids.length - (i + 1)) (i + 1) w (by omega) ⟨rfl, rfl, hil, fun j hj => ?_⟩
      by_cases hji : j = i
      · subst hji
        rw [List.getElem?_eq_getElem hil]
        intro e
        simp only [Option.some.injEq] at e
        rw [e] at h
        simp at h
      · exact hall j (by omega)
  · have hil : i = ids.length := by
      have := of_decide_eq_false h
      omega
    subst hil
    exact lv_i (hnone hall)

set_option maxRecDepth 100000 in
theorem sI : SlT Try.prog 38 3 (.int .i64 0) 8 := ⟨rfl, ⟨_, rfl, rfl, rfl, rfl⟩, rfl⟩

def less (ids : List Int) (id : Int) : List Int := ids.filter fun x => !(x == id)

theorem filter_all {ids : List Int} {id : Int} (h : ∀ j : Nat, j < ids.length → ids[j]? ≠ some id) : less ids id = ids := by
  unfold less
  rw [List.filter_eq_self]
  intro x hx
  obtain ⟨j, hj⟩ := List.getElem?_of_mem hx
  have hl := (List.getElem?_eq_some_iff.1 hj).1
  have := h j hl
  rw [hj] at this
  simp only [ne_eq, Option.some.injEq] at this
  simpa using this

theorem delFunc_k {p : Option Addr} {c : Nat} {ids : List Int} {id : Int} {a : Addr} {w : World} (h : Row w 0 3 p c (iv .i64 ids)) (hb : ids.length ≤ 1125899906842624) (hc : w.cell? a = some (.int .i64 id)) (hne : ∀ q, p = some q → q.block ≠ a.block) {K : Value → World → Prop}
    (hK : ∀ w', Row w' 0 3 p c (iv .i64 (less ids id)) → Ext (blocks p) w w' → w'.heap.size = w.heap.size → K (.slice p (less ids id).length c) w') :
    cl Try.prog 78 #[.slice p ids.length c, .func (.func 79) #[] #[.pointer (some a)]] w K := by
  apply F78_calls
  unfold F78
  refine indexFunc_k h.reads rfl hb hc (fun hall => ?_) (fun i0 hi0 hid hall => ?_)
  · refine asI_i rfl (lv_i (cond_t rfl ?_))
    have := hK w (by rw [filter_all hall]; exact h) (Ext.refl _ _) rfl
    rw [filter_all hall] at this
    exact this
  refine asI_i rfl (lv_i (cond_f (by simp <;> omega) (lv_i ?_)))
  have ei : IntKind.wrap .i64 ((i0 : Int) + 1) = ((i0 + 1 : Nat) : Int) := by rw [wr64 (by omega) (by omega)]; omega
  rw [ei]
  have t0 : less (ids.take (i0 + 1)) id = ids.take i0 := by
    have e : ids.take (i0 + 1) = ids.take i0 ++ [id] := by rw [List.take_add_one, hid]; rfl
    unfold less
    rw [e, List.filter_append]
    have e1 : (ids.take i0).filter (fun x => !(x == id)) = ids.take i0 := by
      refine filter_all (ids := ids.take i0) fun j hj => ?_
      have hj2 : j < i0 := by simp at hj; omega
      rw [List.getElem?_take, if_pos hj2]
      exact hall j hj2
    rw [e1]
    simp
  refine lp_mk (fun s : Nat × Nat => [.int .i64 (s.1 : Int), .int .i64 (s.2 : Int)])
    (fun m s w' => m = ids.length - s.2 ∧ s.1 ≤ s.2 ∧ s.2 ≤ ids.length ∧ Ext (blocks p) w w' ∧ w'.heap.size = w.heap.size ∧ ∃ ys, Row w' 0 3 p c (iv .i64 ys) ∧ ys.length = ids.length ∧ ys.take s.1 = less (ids.take s.2) id ∧ ys.drop s.2 = ids.drop s.2) (ids.length - (i0 + 1)) (i0, i0 + 1) rfl
    ⟨rfl, Nat.le_succ _, hi0, Ext.refl _ _, rfl, ids, h, rfl, t0.symm, rfl⟩ ?_
  rintro _ ⟨i, j⟩ w1 ⟨rfl, hij, hj, hx1, hz1, ys, hr1, hl1, ht1, hd1⟩ J hJ
  simp only at hij hj ht1 hd1 hJ ⊢
  refine asI_i rfl (asI_i rfl (cond_split (fun h => ?_) (fun h => ?_)))
  · have hjl : j < ids.length := by
      have := of_decide_eq_true h
      omega
    have ej : IntKind.wrap .i64 ((j : Int) + 1) = ((j + 1 : Nat) : Int) := by rw [wr64 (by omega) (by omega)]; omega
    have hyj : ys[j]? = some ids[j] := by
      have := congrArg (fun l => l[0]?) hd1
      simp only [List.getElem?_drop, Nat.add_zero] at this
      rw [this, List.getElem?_eq_getElem hjl]
    have hjy : j < ys.length := by omega
    have htk : ids.take (j + 1) = ids.take j ++ [ids[j]] := by rw [List.take_add_one, List.getElem?_eq_getElem hjl]; rfl
    have hdr : ∀ zs : List Int, zs.drop j = ids.drop j → zs.drop (j + 1) = ids.drop (j + 1) := by
      intro zs hz
      have := congrArg (List.drop 1) hz
      simpa [List.drop_drop, Nat.add_comm] using this
    refine jn_of (fun s w' => ∃ i' : Nat, s = [.int .i64 (i' : Int)] ∧ i' ≤ j + 1 ∧ Ext (blocks p) w w' ∧ w'.heap.size = w.heap.size ∧ ∃ ys, Row w' 0 3 p c (iv .i64 ys) ∧ ys.length = ids.length ∧ ys.take i' = less (ids.take (j + 1)) id ∧ ys.drop (j + 1) = ids.drop (j + 1)) ?_ ?_
    · rintro _ w2 ⟨i', rfl, hi', hx2, hz2, ys2, hr2, hl2, ht2, hd2⟩
      refine asI_i rfl (lv_i ?_)
      rw [ej]
      exact hJ (ids.length - (j + 1)) (i', j + 1) w2 (by omega) ⟨rfl, hi', hjl, hx2, hz2, ys2, hr2, hl2, ht2, hd2⟩
    · intro J2 hJ2
      have hc1 : w1.cell? a = some (.int .i64 id) := hx1.cell hc fun ⟨q, hq, hqa⟩ => hne q hq hqa
      refine hr1.reads.at (i := (j : Int)) (by omega) (v := .int .i64 ids[j]) (by simp [iv, hyj]) ?_ (by simp [iv, hl1])
      refine asI_i rfl (lv_i (cond_t okPred ?_))
      show cl Try.prog 79 #[.int .i64 ids[j], .pointer (some a)] w1 _
      refine pred_k hc1 (asB_i rfl (cond_split (fun h => ?_) (fun h => ?_)))
      · have hv : (ids[j] == id) = false := by simpa using h
        refine hr1.st (i := (i : Int)) (u := .int .i64 ids[j]) (by omega) (by simp [iv, hl1]; omega) (by simp [iv, hl1]) rfl ?_
        intro w2 hr2 hE2 hz2
        refine lv_i (hJ2 _ _ ⟨i + 1, ?_, by omega, hx1.trans hE2, by omega, ys.set i ids[j], ?_, by simp [hl1], ?_, ?_⟩)
        · congr 2
          rw [wr64 (by omega) (by omega)]
          omega
        · rw [Int.toNat_natCast] at hr2
          simpa [iv, List.map_set] using hr2
        · have hi : i < ys.length := by omega
          rw [List.take_add_one, List.getElem?_set_self hi, List.take_set_of_le (Nat.le_refl i), ht1]
          unfold less
          rw [htk, List.filter_append]
          simp [hv]
        · rw [List.drop_set_of_lt (by omega)]
          exact hdr ys hd1
      · have hv : (ids[j] == id) = true := by simpa using h
        refine hJ2 _ _ ⟨i, rfl, by omega, hx1, hz1, ys, hr1, hl1, ?_, hdr ys hd1⟩
        rw [ht1]
        unfold less
        rw [htk, List.filter_append]
        simp [hv]
  · have hjl : j = ids.length := by
      have := of_decide_eq_false h
      omega
    subst hjl
    rw [List.take_length] at ht1
    have hcap : ys.length ≤ c := by
      rcases hr1.cases with ⟨_, _, hnil⟩ | ⟨g, cur, _, _, _, h1, _⟩
      · have : ys = [] := by simpa [iv] using hnil
        simp [this]
      · simpa [iv] using h1
    refine bn2_mk (by omega) (by omega) ?_
    rw [Int.toNat_natCast]
    have hiy : i ≤ (iv .i64 ys).length := by simp [iv]; omega
    have hly : (iv .i64 ys).length = ids.length := by simp [iv, hl1]
    have hcl := fun K hK => rn_clear (P := Try.prog) (t := 38) (ty := 0) (K := K) sI rfl hr1 hiy hK
    rw [hly] at hcl
    refine hcl _ ?_
    intro w2 hr2 hE2 hz2
    refine bn2_mk (by omega) (by omega) ?_
    have e2 : (iv .i64 ys).take i = iv .i64 (less ids id) := by rw [← ht1]; simp [iv, List.map_take]
    rw [e2] at hr2
    have e3 : i = (less ids id).length := by rw [← ht1]; simp; omega
    have := hK w2 hr2 (hx1.trans hE2) (by omega)
    rw [← e3] at this
    exact this
end Go.Proofs.Ytamobmjfdiecbaa

/- Srt: the keys of a map of one's own, sorted: the kit's contracts over any program laid at this one. Conditions: those of each theorem, on its arguments. -/
namespace Go.Proofs.Ytamobmjfdiecbaa
open Go Go.Sx Go.RowKit Go.Maps Go.Sort Go.Shelf Go.WideElems

def keysA_ren : Go.Shelf.Ren := ⟨fun | 7 => 54 | 10 => 75 | n => n, fun | 23 => 120 | 26 => 3 | 3 => 4 | 28 => 123 | 0 => 0 | 27 => 122 | 33 => 107 | 4 => 4 | n => n, fun | n => n⟩
theorem keysA : Go.Proofs.SlLaysZI.n7 Try.prog keysA_ren := {
  mixed := by kernel_rfl
  f7 := ⟨Try.f54.name, by decide, Try.func54.trans (congrArg some (by kernel_rfl))⟩
  f10 := ⟨Try.f75.name, by decide, Try.func75.trans (congrArg some (by kernel_rfl))⟩
  t0 := Try.underlying0
  a0 := Try.isAgg0
  z0 := Try.sizeOf0
  v0 := Try.zeroValue0
  t4 := Try.underlying4
  a4 := Try.isAgg4
  z4 := Try.sizeOf4
  v4 := Try.zeroValue4
  t23 := Try.underlying120
  a23 := Try.isAgg120
  z23 := Try.sizeOf120
  v23 := Try.zeroValue120
  t26 := Try.underlying3
  a26 := Try.isAgg3
  z26 := Try.sizeOf3
  v26 := Try.zeroValue3
  t27 := Try.underlying122
  a27 := Try.isAgg122
  z27 := Try.sizeOf122
  v27 := Try.zeroValue122
  t28 := Try.underlying123
  a28 := Try.isAgg123
  z28 := Try.sizeOf123
  v28 := Try.zeroValue123
  t33 := Try.underlying107
  a33 := Try.isAgg107
  z33 := Try.sizeOf107
  v33 := Try.zeroValue107 }
def sortedA_ren : Go.Shelf.Ren := ⟨fun | 6 => 53 | 8 => 73 | 9 => 74 | 11 => 85 | 13 => 87 | 12 => 86 | 23 => 103 | 24 => 104 | 14 => 94 | 15 => 95 | 16 => 96 | 17 => 97 | 18 => 98 | 19 => 99 | 20 => 100 | 21 => 101 | 22 => 102 | 25 => 107 | 26 => 108 | 27 => 109 | 28 => 110 | 29 => 111 | 30 => 112 | 31 => 114 | n => n, fun | 26 => 3 | 28 => 123 | 24 => 38 | 0 => 0 | 3 => 3 | 37 => 141 | 48 => 154 | 50 => 144 | 4 => 4 | 40 => 148 | 39 => 147 | 45 => 132 | 5 => 5 | 9 => 9 | 51 => 158 | 55 => 162 | 57 => 165 | 58 => 166 | 33 => 107 | n => n, fun | n => n⟩
theorem sortedA : Go.Proofs.SlLaysZI.n6 Try.prog sortedA_ren := {
  mixed := by kernel_rfl
  f6 := ⟨Try.f53.name, by decide, Try.func53.trans (congrArg some (by kernel_rfl))⟩
  f8 := ⟨Try.f73.name, by decide, Try.func73.trans (congrArg some (by kernel_rfl))⟩
  f11 := ⟨Try.f85.name, by decide, Try.func85.trans (congrArg some (by kernel_rfl))⟩
  t0 := Try.underlying0
  a0 := Try.isAgg0
  z0 := Try.sizeOf0
  v0 := Try.zeroValue0
  t24 := Try.underlying38
  a24 := Try.isAgg38
  z24 := Try.sizeOf38
  v24 := Try.zeroValue38
  t26 := Try.underlying3
  a26 := Try.isAgg3
  z26 := Try.sizeOf3
  v26 := Try.zeroValue3
  t28 := Try.underlying123
  a28 := Try.isAgg123
  z28 := Try.sizeOf123
  v28 := Try.zeroValue123
  i26 := by kernel_rfl }
def sortA_ren : Go.Shelf.Ren := ⟨fun | 5 => 74 | 8 => 87 | 7 => 86 | 19 => 103 | 20 => 104 | 10 => 94 | 11 => 95 | 12 => 96 | 13 => 97 | 14 => 98 | 15 => 99 | 16 => 100 | 17 => 101 | 18 => 102 | 30 => 107 | 31 => 108 | 32 => 109 | 33 => 110 | 34 => 111 | 35 => 112 | 40 => 114 | n => n, fun | 23 => 38 | 25 => 3 | 3 => 3 | 32 => 141 | 22 => 38 | 0 => 0 | 44 => 154 | 46 => 144 | 4 => 4 | 36 => 148 | 35 => 147 | 41 => 132 | 5 => 5 | 9 => 9 | 53 => 158 | 57 => 162 | 63 => 165 | 64 => 166 | n => n, fun | n => n⟩
theorem sortA : Go.Proofs.SlLaysM.n5 Try.prog sortA_ren := {
  mixed := by kernel_rfl
  f5 := ⟨Try.f74.name, by decide, Try.func74.trans (congrArg some (by kernel_rfl))⟩
  f7 := ⟨Try.f86.name, by decide, Try.func86.trans (congrArg some (by kernel_rfl))⟩
  f8 := Try.func87.trans (congrArg some (by kernel_rfl))
  f10 := ⟨Try.f94.name, by decide, Try.func94.trans (congrArg some (by kernel_rfl))⟩
  f11 := ⟨Try.f95.name, by decide, Try.func95.trans (congrArg some (by kernel_rfl))⟩
  f12 := ⟨Try.f96.name, by decide, Try.func96.trans (congrArg some (by kernel_rfl))⟩
  f13 := ⟨Try.f97.name, by decide, Try.func97.trans (congrArg some (by kernel_rfl))⟩
  f14 := ⟨Try.f98.name, by decide, Try.func98.trans (congrArg some (by kernel_rfl))⟩
  f15 := ⟨Try.f99.name, by decide, Try.func99.trans (congrArg some (by kernel_rfl))⟩
  f16 := ⟨Try.f100.name, by decide, Try.func100.trans (congrArg some (by kernel_rfl))⟩
  f17 := ⟨Try.f101.name, by decide, Try.func101.trans (congrArg some (by kernel_rfl))⟩
  f18 := ⟨Try.f102.name, by decide, Try.func102.trans (congrArg some (by kernel_rfl))⟩
  f19 := Try.func103.trans (congrArg some (by kernel_rfl))
  f20 := Try.func104.trans (congrArg some (by kernel_rfl))
  f30 := ⟨Try.f107.name, by decide, Try.func107.trans (congrArg some (by kernel_rfl))⟩
  f31 := Try.func108.trans (congrArg some (by kernel_rfl))
  f32 := Try.func109.trans (congrArg some (by kernel_rfl))
  f33 := ⟨Try.f110.name, by decide, Try.func110.trans (congrArg some (by kernel_rfl))⟩
  f34 := ⟨Try.f111.name, by decide, Try.func111.trans (congrArg some (by kernel_rfl))⟩
  f35 := ⟨Try.f112.name, by decide, Try.func112.trans (congrArg some (by kernel_rfl))⟩
  f40 := ⟨Try.f114.name, by decide, Try.func114.trans (congrArg some (by kernel_rfl))⟩
  t0 := Try.underlying0
  a0 := Try.isAgg0
  z0 := Try.sizeOf0
  v0 := Try.zeroValue0
  t3 := Try.underlying3
  a3 := Try.isAgg3
  z3 := Try.sizeOf3
  v3 := Try.zeroValue3
  t4 := Try.underlying4
  a4 := Try.isAgg4
  z4 := Try.sizeOf4
  v4 := Try.zeroValue4
  t5 := Try.underlying5
  a5 := Try.isAgg5
  z5 := Try.sizeOf5
  v5 := Try.zeroValue5
  t9 := Try.underlying9
  a9 := Try.isAgg9
  z9 := Try.sizeOf9
  v9 := Try.zeroValue9
  t22 := Try.underlying38
  a22 := Try.isAgg38
  z22 := Try.sizeOf38
  v22 := Try.zeroValue38
  t23 := Try.underlying38
  a23 := Try.isAgg38
  z23 := Try.sizeOf38
  v23 := Try.zeroValue38
  t25 := Try.underlying3
  a25 := Try.isAgg3
  z25 := Try.sizeOf3
  v25 := Try.zeroValue3
  t32 := Try.underlying141
  a32 := Try.isAgg141
  z32 := Try.sizeOf141
  v32 := Try.zeroValue141
  t35 := Try.underlying147
  a35 := Try.isAgg147
  z35 := Try.sizeOf147
  v35 := Try.zeroValue147
  t36 := Try.underlying148
  a36 := Try.isAgg148
  z36 := Try.sizeOf148
  v36 := Try.zeroValue148
  t41 := Try.underlying132
  a41 := Try.isAgg132
  z41 := Try.sizeOf132
  v41 := Try.zeroValue132
  t44 := Try.underlying154
  a44 := Try.isAgg154
  z44 := Try.sizeOf154
  v44 := Try.zeroValue154
  t46 := Try.underlying144
  a46 := Try.isAgg144
  z46 := Try.sizeOf144
  v46 := Try.zeroValue144
  t53 := Try.underlying158
  a53 := Try.isAgg158
  z53 := Try.sizeOf158
  v53 := Try.zeroValue158
  t57 := Try.underlying162
  a57 := Try.isAgg162
  z57 := Try.sizeOf162
  v57 := Try.zeroValue162
  t63 := Try.underlying165
  a63 := Try.isAgg165
  z63 := Try.sizeOf165
  v63 := Try.zeroValue165
  t64 := Try.underlying166
  a64 := Try.isAgg166
  z64 := Try.sizeOf166
  v64 := Try.zeroValue166 }

theorem sortsA (m : Nat) : AnyZI.SortsIn Try.prog sortedA_ren Fence.wide m :=
  ⟨fun blk off cap ss W hH hblk hsz => callsIn_wide.2 (AnyM.slices_Sort_int sortA blk off cap ss W hH hblk hsz),
   fun p cap W => callsIn_wide.2 (AnyM.slices_Sort_int_none sortA p cap W)⟩

theorem keys_cl {mb : Option Nat} {w : World} {K : Value → World → Prop} (hK : K (.func (.func 75) #[] #[.pointer (some ⟨w.heap.size, 0, none⟩)]) (w.alloc (.cells #[.map mb] 120))) :
    cl Try.prog 54 #[.map mb] w K := by
  have h : CallsIn Fence.wide 5 Try.prog 54 #[.map mb] w fun e w' => e = .returned (.func (.func 75) #[] #[.pointer (some ⟨w.heap.size, 0, none⟩)]) ∧ w' = w.alloc (.cells #[.map mb] 120) :=
    AnyZI.keys_in keysA Fence.wide 5 trivial rfl mb w
  exact (callsIn_wide.1 h).mono fun e w' ⟨he, hw⟩ => ⟨_, he, hw ▸ hK⟩

set_option maxHeartbeats 1000000 in
theorem sorted_cl {H : Type} (b nn : Nat) (D0 : DataW H) (R : Value → Option (DataW H × List MemPlace)) (w : World) (hown : w.ownsMap Try.prog 3 R b nn D0) (hmax : Maps.size D0 ≤ maxLen) (hbytes : Maps.size D0 * 8 ≤ 140737488355328) {K : Value → World → Prop}
    (hK : ∀ v (ss : List Int) w', ss.Perm (intKeys D0) → w'.ownsRow w.heap.size 3 1 v ss.length ((ss.mergeSort (fun x y => decide (x ≤ y))).map encZ) → Ext no w w' → K v w') :
    cl Try.prog 53 #[.func (.func 75) #[] #[.pointer (some ⟨w.heap.size, 0, none⟩)]] (w.alloc (.cells #[.map (some b)] 120)) K := by
  have hbl := hown.lt
  have hseq : SeqGives Fence.wide 2 Try.prog 75 #[.pointer (some ⟨w.heap.size, 0, none⟩)] encZ (fun ss => ss.Perm (intKeys D0)) (Maps.size D0) (w.alloc (.cells #[.map (some b)] 120)) :=
    AnyZI.keys_gives (ρ := keysA_ren) { keysA with } Fence.wide _ trivial rfl (by omega) w.heap.size b nn D0 _ (by simp) (by simp) (by
      obtain ⟨es, clock, hb, Ft, hs, hD⟩ := hown
      exact ⟨es, clock, (Below.heap_alloc _ _ b hbl).trans hb, Ft, hs, hD⟩)
  have cS := AnyZI.sorted_in sortedA Fence.wide 5 trivial trivial trivial trivial rfl (by omega) (sortsA _) (enters_of Try.func74 (by kernel_rfl) rfl) 75 #[.pointer (some ⟨w.heap.size, 0, none⟩)] trivial (enters_of Try.func75 (by kernel_rfl) rfl) _ _ hmax hbytes _ hseq
  change CallsIn _ _ Try.prog 53 _ _ _ at cS
  refine (callsIn_wide.1 cS).mono ?_
  rintro e w' ⟨v, ss, rfl, hS, hrow, hnil, hb⟩
  have hx : Ext no (w.alloc (.cells #[.map (some b)] 120)) w' := ⟨hb.os, hb.tape, hb.output, hb.size, fun k hk _ => hb.block k hk⟩
  exact ⟨v, rfl, hK v ss w' hS (ownsRow_base_a hrow (by simp)) ((Ext.alloc _ _).trans hx)⟩
end Go.Proofs.Ytamobmjfdiecbaa

/- GrE: the grid as a thing in memory, and what its functions do to it, as contracts over lists of numbers and boxes. Conditions: those of each theorem, on its arguments. -/
namespace Go.Proofs.Ytamobmjfdiecbaa
open Go Go.Sx Go.Fp
attribute [local irreducible] jn lv ld st nw asI asB asP asS asY asM asF asA asT lp rn ru rq cl dw dr bnd bn2 nz nn hd hr so eqW
attribute [local irreducible] callOk

/-! ### keys that are cells -/
def okc (p : Int × Int) : Prop := p.1.natAbs < 2 ^ 52 ∧ p.2.natAbs < 2 ^ 52

set_option maxRecDepth 100000 in
theorem und_c : Try.prog.underlying 49 = some (.complex .f64) := rfl

theorem eq_c {p q : Int × Int} (hp : okc p) (hq : okc q) (w : World) : (Op.equal 49 (cv p) (cv q)).run Try.prog w = .ok (decide (q = p)) w := by
  have n1 := N_F (n := p.1) (by have := hp.1; omega)
  have n2 := N_F (n := p.2) (by have := hp.2; omega)
  have m1 := N_F (n := q.1) (by have := hq.1; omega)
  have m2 := N_F (n := q.2) (by have := hq.2; omega)
  have e1 := ord_eq n1 m1
  have e2 := ord_eq n2 m2
  have key : ∀ d, (Op.equalIn (d + 1) 49 (cv p) (cv q)).run Try.prog w = .ok (decide (p.1 = q.1) && decide (p.2 = q.2)) w := by
    intro d
    simp only [Op.equalIn, Sem.run_bind, und_run und_c, Result.andThen_ok, cv, Op.floatEq, if_true, Sem.run_pure, e1, e2]
  have e : (decide (p.1 = q.1) && decide (p.2 = q.2)) = decide (q = p) := by
    obtain ⟨a, b⟩ := p
    obtain ⟨c, d⟩ := q
    simp only [Prod.mk.injEq]
    rw [Bool.eq_iff_iff]
    simp only [Bool.and_eq_true, decide_eq_true_eq]
    constructor
    · rintro ⟨rfl, rfl⟩; exact ⟨rfl, rfl⟩
    · rintro ⟨rfl, rfl⟩; exact ⟨rfl, rfl⟩
  rw [← e]
  exact key 9999

theorem keyC : KeyT Try.prog 49 cv okc := by
  refine ⟨?_, ?_, ?_⟩
  · intro β val a A bs w ha hA hl
    have key : ∀ (A : List ((Int × Int) × β)) (bs : List Nat) (i : Nat), (∀ x ∈ A, okc x.1) → A.length = bs.length → (Instr.findAsking 49 (cv a) (ents cv val A bs) i).run Try.prog w = .ok ((afind a A i).map fun p => (p.1, val p.2)) w := by
      intro A
      induction A with
      | nil => intro bs i _ _; rfl
      | cons x A ih =>
        intro bs i hA hl
        cases bs with
        | nil => simp at hl
        | cons b bs =>
          have := ih bs (i + 1) (fun y hy => hA y (by simp [hy])) (by simpa using hl)
          unfold ents afind Instr.findAsking
          simp only [Sem.run_bind, eq_c ha (hA x (by simp)), Result.andThen_ok]
          by_cases h : x.1 = a
          · rw [if_pos h, decide_eq_true h]
            simp
          · rw [if_neg h, decide_eq_false h]
            simp [this]
    unfold Instr.findKey
    cases A with
    | nil =>
      simp only [Sem.run_bind, und_run und_c, Result.andThen_ok]
      rfl
    | cons x A =>
      cases bs with
      | nil => simp at hl
      | cons b bs =>
        have hn : Instr.findNow (.complex .f64) (cv a) (ents cv val (x :: A) (b :: bs)) 0 = none := rfl
        simp only [Sem.run_bind, und_run und_c, Result.andThen_ok, hn]
        exact key _ _ 0 hA hl
  · intro b a w
    have key : ∀ d, (Instr.checkKey b (d + 1) 49 (cv a)).run Try.prog w = .ok () w := by
      intro d
      simp [Instr.checkKey, und_run und_c]
    exact key 9999
  · intro a
    have key : ∀ d, Instr.sameBits d (cv a) (cv a) = true := by
      intro d
      simp [Instr.sameBits, cv]
    exact key _

set_option maxRecDepth 100000 in
theorem und_i : Try.prog.underlying 3 = some (.int .i64) := rfl
set_option maxRecDepth 100000 in
theorem und_mb : Try.prog.underlying 114 = some (.map 3 25) := rfl
set_option maxRecDepth 100000 in
theorem und_mc : Try.prog.underlying 115 = some (.map 49 38) := rfl
theorem keyI : KeyT Try.prog 3 (fun x : Int => Value.int .i64 x) (fun _ => True) := keyT_int und_i
set_option maxRecDepth 100000 in
theorem zero_box (w : World) : (zeroValue 25).run Try.prog w = .ok (Bx.v ⟨0, 0, 0⟩) w := rfl

/-! ### the grid -/
abbrev CellV := Option Addr × Nat × List Int
def cval (v : CellV) : Value := .slice v.1 v.2.2.length v.2.1
def nilV : CellV := (none, 0, [])
set_option maxRecDepth 100000 in
theorem zero_ints (w : World) : (zeroValue 38).run Try.prog w = .ok (cval nilV) w := rfl
def ki (x : Int) : Value := .int .i64 x

structure Gr (w : World) (F : Nat → Prop) (g mb mc : Nat) (s : Int) (B : List (Int × Bx)) (C : List ((Int × Int) × CellV)) (bb : List Nat) (kb : Nat) (bc : List Nat) (kc : Nat) : Prop where
  hd : w.heap[g]? = some (.cells #[.int .i64 s, .map (some mb), .map (some mc)] 117 (0, 0))
  bm : Mp w mb ki Bx.v B bb kb
  cm : Mp w mc cv cval C bc kc
  ok : ∀ x ∈ C, okc x.1
  nd : (C.map (·.1)).Nodup
  row : ∀ x ∈ C, Row w 0 3 x.2.1 x.2.2.1 (iv .i64 x.2.2.2)
  ap : C.Pairwise fun x y => Apart x.2.1 y.2.1
  ne : g ≠ mb ∧ g ≠ mc ∧ mb ≠ mc
  rne : ∀ x ∈ C, ∀ a, x.2.1 = some a → a.block ≠ g ∧ a.block ≠ mb ∧ a.block ≠ mc
  fp : F g ∧ F mb ∧ F mc ∧ ∀ x ∈ C, ∀ a, x.2.1 = some a → F a.block
  lt : ∀ k, F k → k < w.heap.size

theorem Gr.ext {w w' : World} {F M : Nat → Prop} {g mb mc : Nat} {s : Int} {B : List (Int × Bx)} {C : List ((Int × Int) × CellV)} {bb : List Nat} {kb : Nat} {bc : List Nat} {kc : Nat}
    (h : Gr w F g mb mc s B C bb kb bc kc) (hx : Ext M w w') (hm : ∀ k, F k → ¬ M k) : Gr w' F g mb mc s B C bb kb bc kc :=
  ⟨hx.blk h.hd (hm _ h.fp.1), h.bm.ext hx (hm _ h.fp.2.1), h.cm.ext hx (hm _ h.fp.2.2.1), h.ok, h.nd, fun x hx' => (h.row x hx').ext hx fun a ha => hm _ (h.fp.2.2.2 x hx' a ha), h.ap, h.ne, h.rne, h.fp, fun k hk => Nat.lt_of_lt_of_le (h.lt k hk) hx.size⟩

theorem Gr.ld0 {w : World} {F : Nat → Prop} {g mb mc : Nat} {s : Int} {B : List (Int × Bx)} {C : List ((Int × Int) × CellV)} {bb : List Nat} {kb : Nat} {bc : List Nat} {kc : Nat}
    (h : Gr w F g mb mc s B C bb kb bc kc) : w.cell? ⟨g, 0, none⟩ = some (.int .i64 s) := by rw [blk_cell h.hd]; rfl
theorem Gr.ld1 {w : World} {F : Nat → Prop} {g mb mc : Nat} {s : Int} {B : List (Int × Bx)} {C : List ((Int × Int) × CellV)} {bb : List Nat} {kb : Nat} {bc : List Nat} {kc : Nat}
    (h : Gr w F g mb mc s B C bb kb bc kc) : w.cell? (Addr.add ⟨g, 0, none⟩ 1) = some (.map (some mb)) := by rw [add_mk, blk_cell h.hd]; rfl
theorem Gr.ld2 {w : World} {F : Nat → Prop} {g mb mc : Nat} {s : Int} {B : List (Int × Bx)} {C : List ((Int × Int) × CellV)} {bb : List Nat} {kb : Nat} {bc : List Nat} {kc : Nat}
    (h : Gr w F g mb mc s B C bb kb bc kc) : w.cell? (Addr.add ⟨g, 0, none⟩ 2) = some (.map (some mc)) := by rw [add_mk, blk_cell h.hd]; rfl

theorem Gr.getRow {w : World} {F : Nat → Prop} {g mb mc : Nat} {s : Int} {B : List (Int × Bx)} {C : List ((Int × Int) × CellV)} {bb : List Nat} {kb : Nat} {bc : List Nat} {kc : Nat}
    (h : Gr w F g mb mc s B C bb kb bc kc) (c : Int × Int) :
    Row w 0 3 ((aget C c).getD nilV).1 ((aget C c).getD nilV).2.1 (iv .i64 ((aget C c).getD nilV).2.2) ∧
      (∀ a, ((aget C c).getD nilV).1 = some a → F a.block ∧ a.block ≠ g ∧ a.block ≠ mb ∧ a.block ≠ mc) ∧
      (∀ x ∈ C, x.1 ≠ c → Apart x.2.1 ((aget C c).getD nilV).1) := by
  cases hg : aget C c with
  | none => exact ⟨Row.nil _ _ _, fun a ha => by simp [nilV] at ha, fun x _ _ => Apart.symm (Apart.none _)⟩
  | some v =>
    have hm := aget_mem hg
    refine ⟨h.row _ hm, fun a ha => ⟨h.fp.2.2.2 _ hm a ha, h.rne _ hm a ha⟩, fun x hx hne => ?_⟩
    have hp := h.ap
    rw [List.pairwise_iff_getElem] at hp
    obtain ⟨i, hi⟩ := List.getElem?_of_mem hx
    obtain ⟨j, hj⟩ := List.getElem?_of_mem hm
    have hi' := List.getElem?_eq_some_iff.1 hi
    have hj' := List.getElem?_eq_some_iff.1 hj
    have hij : i ≠ j := by
      rintro rfl
      rw [hi] at hj
      cases hj
      exact hne rfl
    rcases Nat.lt_or_gt_of_ne hij with hlt | hlt
    · have := hp i j hi'.1 hj'.1 hlt
      rw [hi'.2, hj'.2] at this
      exact this
    · have := hp j i hj'.1 hi'.1 hlt
      rw [hi'.2, hj'.2] at this
      exact this.symm

/-- the numbers of a cell, plainly -/
def pl (C : List ((Int × Int) × CellV)) : List ((Int × Int) × List Int) := C.map fun x => (x.1, x.2.2.2)
theorem pl_get (C : List ((Int × Int) × CellV)) (c : Int × Int) : (aget (pl C) c).getD [] = ((aget C c).getD nilV).2.2 := by
  unfold pl
  rw [map_aget (f := fun v : CellV => v.2.2)]
  cases aget C c <;> rfl

def addTo (D : List ((Int × Int) × List Int)) (c : Int × Int) (id : Int) : List ((Int × Int) × List Int) := aset D c ((aget D c).getD [] ++ [id])
def putL (D : List ((Int × Int) × List Int)) (l : List (Int × Int)) (id : Int) : List ((Int × Int) × List Int) := l.foldl (fun D c => addTo D c id) D

/-- one more number in one cell: what is written, step by step -/
theorem gput_cell {w : World} {F : Nat → Prop} {g mb mc : Nat} {s : Int} {B : List (Int × Bx)} {C : List ((Int × Int) × CellV)} {bb : List Nat} {kb : Nat} {bc : List Nat} {kc : Nat}
    (h : Gr w F g mb mc s B C bb kb bc kc) {c : Int × Int} (hc : okc c) {id : Int} (hlen : ((aget (pl C) c).getD []).length ≤ 1099511627776) {K : World → Prop}
    (hK : ∀ w' F' C' bc' kc', Gr w' F' g mb mc s B C' bb kb bc' kc' → pl C' = addTo (pl C) c id → Ext F w w' → (∀ k, F' k → F k ∨ w.heap.size ≤ k) → (∀ k, F k → F' k) → K w') :
    nw w (.cells #[(.int .i64 id)] 3) fun r25 w26 => (rn Try.prog (Instr.mapEntry 115 (.map (some mc)) (cv c)) w26 fun v27 w28 => asT 2 v27 fun t29 => asS (t29 0) fun p30 n31 c32 => asI .i64 (t29 1) fun x33 => (rn Try.prog (Builtin.append_ #[38, 38] 38 #[(.slice p30 n31 c32), (.slice (some (⟨r25, 0, none⟩ : Addr)) 1 1)]) w28 fun v34 w35 => asS v34 fun p36 n37 c38 => (ru Try.prog (Instr.entryStore 115 (.map (some mc)) (.int .i64 x33) (.slice p36 n37 c38)) w35 fun w39 => K w39))) := by
  refine nw_mk ?_
  have hx1 : Ext no w (w.alloc (.cells #[.int .i64 id] 3)) := Ext.alloc w _
  have h1 := h.ext hx1 fun _ _ hf => hf
  have hsrc : Reads (w.alloc (.cells #[.int .i64 id] 3)) (some ⟨w.heap.size, 0, none⟩) (iv .i64 [id]) := Reads.new w [.int .i64 id] 3
  generalize w.alloc (.cells #[.int .i64 id] 3) = w1 at *
  refine h1.cm.entry keyC und_mc (z := nilV) zero_ints c ⟨hc, h1.ok⟩ ?_
  intro w2 bs' clk' i st hE hi hset hx2 hz2
  refine asT_i rfl rfl (asS_i rfl (asI_i rfl ?_))
  obtain ⟨hrow, hfp, hap⟩ := h1.getRow c
  generalize hv : (aget C c).getD nilV = v at *
  have hlen' : v.2.2.length ≤ 1099511627776 := by
    rw [pl_get, hv] at hlen
    exact hlen
  have hrow2 : Row w2 0 3 v.1 v.2.1 (iv .i64 v.2.2) := hrow.ext hx2 fun a ha e => (hfp a ha).2.2.2 e
  have hmc : mc ≠ w.heap.size := fun e => by
    have := blk_lt h.cm.blk
    omega
  have hsrc2 : Reads w2 (some ⟨w.heap.size, 0, none⟩) (iv .i64 [id]) := hsrc.ext hx2 fun a ha e => by
    cases ha
    exact hmc e.symm
  refine sI.app (m := 1) hrow2 (by simp [iv]) (Nat.zero_le _) hsrc2 rfl (by simp [iv, Sx.one]) (le_maxLen (by omega)) (by omega) ?_
  intro p' c' w3 hr3 hE3 hM3 _
  refine asS_i rfl ?_
  have hmE : MpE w3 mc cv cval (aset C c v) bs' clk' i st := ⟨hE.mp.ext hE3 fun ⟨a, ha, hab⟩ => (hfp a ha).2.2.2 hab, hE.st⟩
  have hlen3 : v.2.2.length + 1 = (v.2.2 ++ [id]).length := by simp
  have hcv : (.slice p' (v.2.2.length + 1) c' : Value) = cval (p', c', v.2.2 ++ [id]) := by unfold cval; rw [hlen3]
  rw [hcv]
  refine hmE.store (t := 115) hi (p', c', v.2.2 ++ [id]) ?_
  intro w4 hm4 hx4 hz4
  rw [hset] at hm4
  have hX : Ext F w w4 := by
    have a1 : Ext F w w1 := Ext.of_no hx1
    have a2 : Ext F w w2 := a1.then hx2 fun k _ hk => by
      have : k = mc := hk
      rw [this]; exact h.fp.2.2.1
    have a3 : Ext F w w3 := a2.then hE3 fun k _ ⟨a, ha, hab⟩ => hab ▸ (hfp a ha).1
    exact a3.then hx4 fun k _ hk => by
      have : k = mc := hk
      rw [this]; exact h.fp.2.2.1
  have hg1 := blk_lt h1.hd
  have hmb1 := blk_lt h1.bm.blk
  have hmc1 := blk_lt h1.cm.blk
  have hz12 := hx2.size
  have hpn : ∀ a, p' = some a → a.block ≠ g ∧ a.block ≠ mb ∧ a.block ≠ mc := by
    intro a ha
    rcases hM3 with e | e
    · exact (hfp a (e ▸ ha)).2
    · have := e a ha
      omega
  have k2 : ∀ x ∈ C, Row w2 0 3 x.2.1 x.2.2.1 (iv .i64 x.2.2.2) := fun x hx => (h1.row x hx).ext hx2 fun a ha e => (h1.rne x hx a ha).2.2 e
  have hpa : ∀ x ∈ C, x.1 ≠ c → Apart p' x.2.1 := fun x hx hne => hM3.apart (hap x hx hne).symm fun a ha => ((k2 x hx).at ha).2
  have hiv : iv .i64 v.2.2 ++ iv .i64 [id] = iv .i64 (v.2.2 ++ [id]) := by simp [iv]
  rw [hiv] at hr3
  refine hK w4 (fun k => F k ∨ ∃ a, p' = some a ∧ a.block = k) (aset C c (p', c', v.2.2 ++ [id])) _ _ ⟨?_, ?_, hm4, ?_, nodup_aset h1.nd, ?_, ?_, h1.ne, ?_, ?_, ?_⟩ ?_ hX ?_ fun k hk => .inl hk
  · exact hx4.blk (hE3.blk (hx2.blk h1.hd h1.ne.2.1) fun ⟨a, ha, hab⟩ => (hfp a ha).2.1 hab) h1.ne.2.1
  · exact ((h1.bm.ext hx2 h1.ne.2.2).ext hE3 fun ⟨a, ha, hab⟩ => (hfp a ha).2.2.1 hab).ext hx4 h1.ne.2.2
  · intro x hx
    rcases mem_aset h1.nd hx with rfl | ⟨hx, _⟩
    · exact hc
    · exact h1.ok x hx
  · intro x hx
    rcases mem_aset h1.nd hx with rfl | ⟨hx, hne⟩
    · exact hr3.ext hx4 fun a ha e => (hpn a ha).2.2 e
    · exact ((k2 x hx).keep hE3 (hap x hx hne)).ext hx4 fun a ha e => (h1.rne x hx a ha).2.2 e
  · exact pairwise_aset h1.ap h1.nd fun x hx hne => ⟨(hpa x hx hne).symm, hpa x hx hne⟩
  · intro x hx
    rcases mem_aset h1.nd hx with rfl | ⟨hx, _⟩
    · exact hpn
    · exact h1.rne x hx
  · refine ⟨.inl h1.fp.1, .inl h1.fp.2.1, .inl h1.fp.2.2.1, fun x hx a ha => ?_⟩
    rcases mem_aset h1.nd hx with rfl | ⟨hx, _⟩
    · exact .inr ⟨a, ha, rfl⟩
    · exact .inl (h1.fp.2.2.2 x hx a ha)
  · rintro k (hk | ⟨a, ha, rfl⟩)
    · exact Nat.lt_of_lt_of_le (h.lt k hk) hX.size
    · exact Nat.lt_of_lt_of_le (hr3.at ha).2 hx4.size
  · unfold addTo
    rw [pl_get, hv]
    exact map_aset (f := fun v : CellV => v.2.2)
  · rintro k (hk | ⟨a, ha, rfl⟩)
    · exact .inl hk
    · rcases hM3 with e | e
      · exact .inl (hfp a (e ▸ ha)).1
      · have := e a ha
        have := hx1.size
        exact .inr (by omega)

theorem addTo_len {D : List ((Int × Int) × List Int)} {c : Int × Int} {id : Int} (d : Int × Int) : ((aget (addTo D c id) d).getD []).length ≤ ((aget D d).getD []).length + 1 := by
  unfold addTo
  rw [aget_aset]
  split
  · rename_i h
    subst h
    simp
  · omega

/-- the box and its cells -/
theorem gput_k {w : World} {F : Nat → Prop} {g mb mc : Nat} {s : Int} {B : List (Int × Bx)} {C : List ((Int × Int) × CellV)} {bb : List Nat} {kb : Nat} {bc : List Nat} {kc : Nat}
    (h : Gr w F g mb mc s B C bb kb bc kc) {id : Int} {b : Bx} {l : Option Addr} {n c : Nat} {lst : List (Int × Int)} (hl : Reads w l (lst.map cv)) (hn : lst.length = n) (hn2 : n ≤ 1099511627776)
    (hok : ∀ x ∈ lst, okc x) (hlb : ∀ a, l = some a → ¬ F a.block) (hlen : ∀ x, ((aget (pl C) x).getD []).length + lst.length ≤ 1099511627776) {K : Value → World → Prop}
    (hK : ∀ w' F' C' bb' kb' bc' kc', Gr w' F' g mb mc s (aset B id b) C' bb' kb' bc' kc' → pl C' = putL (pl C) lst id → Ext F w w' → (∀ k, F' k → F k ∨ w.heap.size ≤ k) → (∀ k, F k → F' k) → K (.tuple #[]) w') :
    cl Try.prog 52 #[.pointer (some ⟨g, 0, none⟩), .int .i64 id, b.v, .slice l n c] w K := by
  subst hn
  apply F52_calls
  unfold F52
  have hS := St.start w
  (refine St.nw hS ?_; clear hS; intro r1 _ hS)
  refine St.dw hS ?_
  clear hS
  intro w1 hS _
  have h1 := h.ext hS.ext fun _ _ hf => hf
  refine dr_i (ld_mk h1.ld1 (asM_i rfl ?_))
  repeat (first | (refine asI_i rfl ?_) | (refine asB_i rfl ?_) | (refine asP_i rfl ?_) | (refine asS_i rfl ?_) | (refine asY_i rfl ?_) | (refine asM_i rfl ?_) | (refine asA_i rfl rfl ?_) | (refine asT_i rfl rfl ?_) | (refine lv_i ?_) | (refine St.nw hS ?_; clear hS; intro _ _ hS) | (refine St.dw hS ?_; clear hS; intro _ hS _) | (refine hS.ld0 0 rfl rfl ?_) | (refine hS.ld 0 rfl rfl ?_) | (refine hS.ld0 1 rfl rfl ?_) | (refine hS.ld 1 rfl rfl ?_) | (refine hS.ld0 2 rfl rfl ?_) | (refine hS.ld 2 rfl rfl ?_) | (refine hS.ld0 3 rfl rfl ?_) | (refine hS.ld 3 rfl rfl ?_) | (refine hS.ld0 4 rfl rfl ?_) | (refine hS.ld 4 rfl rfl ?_) | (refine hS.ld0 5 rfl rfl ?_) | (refine hS.ld 5 rfl rfl ?_) | (refine hS.ld0 6 rfl rfl ?_) | (refine hS.ld 6 rfl rfl ?_) | (refine hS.ld0 7 rfl rfl ?_) | (refine hS.ld 7 rfl rfl ?_) | (refine hS.hd0 0 rfl rfl ?_) | (refine hS.hd 0 rfl rfl ?_) | (refine hS.hd0 1 rfl rfl ?_) | (refine hS.hd 1 rfl rfl ?_) | (refine hS.hd0 2 rfl rfl ?_) | (refine hS.hd 2 rfl rfl ?_) | (refine hS.hd0 3 rfl rfl ?_) | (refine hS.hd 3 rfl rfl ?_) | (refine hS.hd0 4 rfl rfl ?_) | (refine hS.hd 4 rfl rfl ?_) | (refine hS.hd0 5 rfl rfl ?_) | (refine hS.hd 5 rfl rfl ?_) | (refine hS.hd0 6 rfl rfl ?_) | (refine hS.hd 6 rfl rfl ?_) | (refine hS.hd0 7 rfl rfl ?_) | (refine hS.hd 7 rfl rfl ?_) | (refine hS.st0 0 rfl rfl rfl ?_; clear hS; intro _ hS) | (refine hS.st 0 rfl rfl rfl ?_; clear hS; intro _ hS) | (refine hS.st0 1 rfl rfl rfl ?_; clear hS; intro _ hS) | (refine hS.st 1 rfl rfl rfl ?_; clear hS; intro _ hS) | (refine hS.st0 2 rfl rfl rfl ?_; clear hS; intro _ hS) | (refine hS.st 2 rfl rfl rfl ?_; clear hS; intro _ hS) | (refine hS.st0 3 rfl rfl rfl ?_; clear hS; intro _ hS) | (refine hS.st 3 rfl rfl rfl ?_; clear hS; intro _ hS) | (refine hS.st0 4 rfl rfl rfl ?_; clear hS; intro _ hS) | (refine hS.st 4 rfl rfl rfl ?_; clear hS; intro _ hS) | (refine hS.st0 5 rfl rfl rfl ?_; clear hS; intro _ hS) | (refine hS.st 5 rfl rfl rfl ?_; clear hS; intro _ hS) | (refine hS.st0 6 rfl rfl rfl ?_; clear hS; intro _ hS) | (refine hS.st 6 rfl rfl rfl ?_; clear hS; intro _ hS) | (refine hS.st0 7 rfl rfl rfl ?_; clear hS; intro _ hS) | (refine hS.st 7 rfl rfl rfl ?_; clear hS; intro _ hS) | (refine bnd_mk (by decide) (by decide) ?_) | (refine so_i rfl ?_))
  show ru Try.prog (Instr.mapUpdate _ _ (ki id) b.v) _ _
  refine h1.bm.update keyI und_mb id ⟨trivial, fun _ _ => trivial⟩ b ?_
  intro w2 bb' kb' hbm hx2 hz2
  have hx02 : Ext F w w2 := (Ext.of_no hS.ext).then hx2 fun k _ hk => by
    have : k = mb := hk
    rw [this]; exact h.fp.2.1
  have h2 : Gr w2 F g mb mc s (aset B id b) C bb' kb' bc kc :=
    ⟨hx2.blk h1.hd h1.ne.1, hbm, h1.cm.ext hx2 (fun e => h1.ne.2.2 e.symm), h1.ok, h1.nd, fun x hx => (h1.row x hx).ext hx2 fun a ha e => (h1.rne x hx a ha).2.1 e, h1.ap, h1.ne, h1.rne, h1.fp, fun k hk => Nat.lt_of_lt_of_le (h.lt k hk) hx02.size⟩
  clear hS h1 hbm
  refine lp_mk (fun i : Nat => [.int .i64 (i : Int)])
    (fun m i w' => m = lst.length - i ∧ i ≤ lst.length ∧ ∃ F' C' bc' kc', Gr w' F' g mb mc s (aset B id b) C' bb' kb' bc' kc' ∧ pl C' = putL (pl C) (lst.take i) id ∧ Ext F w w' ∧ (∀ k, F' k → F k ∨ w.heap.size ≤ k) ∧ (∀ k, F k → F' k) ∧
      ∀ x, ((aget (pl C') x).getD []).length + (lst.length - i) ≤ 1099511627776) lst.length 0 rfl
    ⟨rfl, Nat.zero_le _, F, C, bc, kc, h2, rfl, hx02, fun k hk => .inl hk, fun k hk => hk, hlen⟩ ?_
  rintro _ i w3 ⟨rfl, hi, F', C', bc', kc', h3, hpl, hx3, hF1, hF2, hb3⟩ J hJ
  refine asI_i rfl (cond_split (fun hc => ?_) (fun hc => ?_))
  · have hil : i < lst.length := by
      have := of_decide_eq_true hc
      omega
    have hr3 : Reads w3 l (lst.map cv) := hl.ext hx3 hlb
    refine hr3.at (i := (i : Int)) (by omega) (v := cv lst[i]) (by simp [hil]) ?_ (by simp)
    refine asC_i rfl (dr_i (ld_mk h3.ld2 (asM_i rfl ?_)))
    have hci := hok lst[i] (List.getElem_mem hil)
    have hb := hb3 lst[i]
    refine gput_cell h3 hci (by omega) ?_
    intro w4 F4 C4 bc4 kc4 h4 hpl4 hx4 hF4 hF4'
    have ei : IntKind.wrap .i64 ((i : Int) + 1) = ((i + 1 : Nat) : Int) := by rw [wr64 (by omega) (by omega)]; omega
    rw [ei]
    refine hJ (lst.length - (i + 1)) (i + 1) w4 (by omega) ⟨rfl, hil, F4, C4, bc4, kc4, h4, ?_, hx3.then hx4 fun k hk hf => ?_, fun k hk => ?_, fun k hk => hF4' k (hF2 k hk), fun x => ?_⟩
    · rw [hpl4, hpl, List.take_add_one, List.getElem?_eq_getElem hil]
      unfold putL
      rw [List.foldl_append]
      rfl
    · rcases hF1 k hf with hf | hf
      · exact hf
      · omega
    · have := hx3.size
      rcases hF4 k hk with hf | hf
      · exact hF1 k hf
      · exact .inr (by omega)
    · rw [hpl4]
      have := addTo_len (D := pl C') (c := lst[i]) (id := id) x
      have := hb3 x
      omega
  · have hil : i = lst.length := by
      have := of_decide_eq_false hc
      omega
    subst hil
    rw [List.take_length] at hpl
    exact hK w3 F' C' bb' kb' bc' kc' h3 hpl hx3 hF1 hF2
end Go.Proofs.Ytamobmjfdiecbaa
