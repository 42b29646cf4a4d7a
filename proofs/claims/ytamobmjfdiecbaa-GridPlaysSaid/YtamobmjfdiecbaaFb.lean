/- Fb: floats of 64 bits that come of great whole numbers are great. Conditions: their size. -/
import Derived.Test.YtamobmjfdiecbaaFn
namespace Go.Fp
open Ieee

theorem cut_bound (s : Bool) (a d : Nat) (hd : d ≤ a.log2 + 2) : a / 2 ^ d ≤ Toward.even.cut s a d ∧ Toward.even.cut s a d ≤ a / 2 ^ d + 1 := by
  unfold Toward.cut
  have hm : min d (a.log2 + 2) = d := Nat.min_eq_left hd
  have hg : 1 <<< min d (a.log2 + 2) = 2 ^ d := by rw [hm, Nat.shiftLeft_eq, Nat.one_mul]
  simp only [hg]
  have hb : ∀ b : Bool, b.toNat ≤ 1 := by intro b; cases b <;> decide
  exact ⟨Nat.le_add_right _ _, Nat.add_le_add_left (hb _) _⟩

theorem big_F {q : Int} (h1 : 9007199254740992 ≤ q.natAbs) (h2 : q.natAbs < 18446744073709551616) :
    ∃ r mag, ∃ place : Nat, F q = double.word (decide (q < 0)) r ∧ r < 9223372036854775808 ∧ double.read r = .number false mag (place : Int) ∧ 4503599627370496 ≤ mag ∧ 1 ≤ place := by
  have hm0 : q.natAbs ≠ 0 := by omega
  generalize hs : decide (q < 0) = s
  generalize hm : q.natAbs = m at *
  have hL1 : 53 ≤ m.log2 := (Nat.le_log2 hm0).2 h1
  have hL2 : m.log2 < 64 := (Nat.log2_lt hm0).2 h2
  obtain ⟨b1, b2⟩ := log_bound hm0
  have e1 : F q = double.nearest s m 0 := by
    unfold F
    rw [hs, hm]
    rfl
  have hlast : max ((0 : Int) + (m.log2 : Int) - (double.fractionBits : Int)) double.leastPlace = (m.log2 : Int) - 52 := by
    simp only [double, Format.leastPlace]
    omega
  have hk := cut_bound s m (m.log2 - 52) (by omega)
  have hlow : 4503599627370496 ≤ m / 2 ^ (m.log2 - 52) := by
    rw [Nat.le_div_iff_mul_le (Nat.two_pow_pos _)]
    have : 4503599627370496 * 2 ^ (m.log2 - 52) = 2 ^ m.log2 := by
      have : (4503599627370496 : Nat) = 2 ^ 52 := by decide
      rw [this, ← Nat.pow_add]
      congr 1; omega
    rw [this]
    exact b1
  have hhigh : m / 2 ^ (m.log2 - 52) < 9007199254740992 := by
    rw [Nat.div_lt_iff_lt_mul (Nat.two_pow_pos _)]
    have : 9007199254740992 * 2 ^ (m.log2 - 52) = 2 ^ (m.log2 + 1) := by
      have : (9007199254740992 : Nat) = 2 ^ 53 := by decide
      rw [this, ← Nat.pow_add]
      congr 1; omega
    rw [this]
    exact b2
  generalize hkk : Toward.even.cut s m (m.log2 - 52) = kept at hk
  have hnear : double.nearest s m 0 = double.word s ((m.log2 + 1022) * 4503599627370496 + kept) := by
    unfold Format.nearest
    rw [if_neg hm0]
    simp only [hlast]
    have e2 : ((0 : Int) - ((m.log2 : Int) - 52)).toNat = 0 := by omega
    have e3 : ((m.log2 : Int) - 52 - 0).toNat = m.log2 - 52 := by omega
    have e4 : m <<< 0 = m := by simp
    rw [e2, e3, e4, hkk]
    have hplace : ((m.log2 : Int) - 52 - double.leastPlace).toNat = m.log2 + 1022 := by
      simp only [double, Format.leastPlace]
      omega
    rw [hplace]
    have hmin : min ((m.log2 + 1022) * double.binade + kept) double.infRung = (m.log2 + 1022) * 4503599627370496 + kept := by
      have hb : double.binade = 4503599627370496 := rfl
      have hi : double.infRung = 9218868437227405312 := rfl
      rw [hb, hi]
      exact Nat.min_eq_left (by omega)
    rw [hmin]
  refine ⟨(m.log2 + 1022) * 4503599627370496 + kept, 4503599627370496 + ((m.log2 + 1022) * 4503599627370496 + kept) % 4503599627370496, ((m.log2 + 1022) * 4503599627370496 + kept) / 4503599627370496 - 1 - 1074, by rw [e1, hnear], by omega, ?_, by omega, by omega⟩
  unfold Format.read
  have hb : double.binade = 4503599627370496 := rfl
  have hi : double.infRung = 2047 * 4503599627370496 := rfl
  have hp : double.leastPlace = -1074 := rfl
  have hw : double.signWeight = 9223372036854775808 := rfl
  simp only [hb, hi, hp, hw]
  have hr : (m.log2 + 1022) * 4503599627370496 + kept < 9223372036854775808 := by omega
  rw [Nat.mod_eq_of_lt hr, Nat.div_eq_of_lt hr, if_neg (by omega), if_pos (by omega)]
  congr 1
  omega

theorem big_order {r mag place : Nat} (hr : double.read r = .number false mag (place : Int)) (h1 : 4503599627370496 ≤ mag) : double.order r 4697254411347427328 = some .gt := by
  have hM : double.read 4697254411347427328 = .number false 4503599627370496 (-32) := rfl
  unfold Format.order
  rw [hr, hM]
  show some (compare (signed false mag ((place : Int) - min (place : Int) (-32)).toNat) (signed false 4503599627370496 ((-32 : Int) - min (place : Int) (-32)).toNat)) = _
  have e1 : min (place : Int) (-32) = -32 := by omega
  rw [e1]
  have e2 : ((place : Int) - -32).toNat = place + 32 := by omega
  have e3 : ((-32 : Int) - -32).toNat = 0 := rfl
  rw [e2, e3]
  have s1 : signed false mag (place + 32) = ((mag * 2 ^ (place + 32) : Nat) : Int) := by
    unfold signed
    rw [if_neg (by decide), Nat.shiftLeft_eq]
  have s2 : signed false 4503599627370496 0 = ((4503599627370496 : Nat) : Int) := by
    unfold signed
    rw [if_neg (by decide), Nat.shiftLeft_eq, Nat.pow_zero, Nat.mul_one]
  rw [s1, s2]
  have hp : 4294967296 ≤ 2 ^ (place + 32) := by
    have : 2 ^ 32 ≤ 2 ^ (place + 32) := Nat.pow_le_pow_right (by decide) (by omega)
    have e : (2 : Nat) ^ 32 = 4294967296 := by decide
    omega
  have h2 : mag * 4294967296 ≤ mag * 2 ^ (place + 32) := Nat.mul_le_mul_left _ hp
  generalize mag * 2 ^ (place + 32) = x at *
  have hc : compare (x : Int) ((4503599627370496 : Nat) : Int) = .gt := by
    simp only [compare, compareOfLessAndEq]
    rw [if_neg (by omega), if_neg (by omega)]
  rw [hc]
end Go.Fp
