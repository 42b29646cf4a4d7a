/- Fp: small whole numbers as floats of 64 bits: written and read back, added, subtracted, compared exactly. Conditions: their size. -/
import Ieee.Arith
namespace Go.Fp
open Ieee

/-- the word of a whole number -/
def F (n : Int) : Nat := double.write (.number (decide (n < 0)) n.natAbs 0)

theorem log_le {m : Nat} (h0 : m ≠ 0) (h : m < 2 ^ 53) : m.log2 ≤ 52 := by
  have := (Nat.log2_lt h0).2 h
  omega

theorem log_bound {m : Nat} (h0 : m ≠ 0) : 2 ^ m.log2 ≤ m ∧ m < 2 ^ (m.log2 + 1) := ⟨Nat.log2_self_le h0, Nat.lt_log2_self⟩

theorem kept_bound {m : Nat} (h0 : m ≠ 0) (h : m < 2 ^ 53) : 2 ^ 52 ≤ m * 2 ^ (52 - m.log2) ∧ m * 2 ^ (52 - m.log2) < 2 ^ 53 := by
  obtain ⟨h1, h2⟩ := log_bound h0
  have hl := log_le h0 h
  have e1 : 2 ^ m.log2 * 2 ^ (52 - m.log2) = 2 ^ 52 := by rw [← Nat.pow_add]; congr 1; omega
  have e2 : 2 ^ (m.log2 + 1) * 2 ^ (52 - m.log2) = 2 ^ 53 := by rw [← Nat.pow_add]; congr 1; omega
  constructor
  · rw [← e1]; exact Nat.mul_le_mul_right _ h1
  · rw [← e2]; exact Nat.mul_lt_mul_of_pos_right h2 (Nat.two_pow_pos _)

theorem log_mul {m k : Nat} (h0 : m ≠ 0) : (m * 2 ^ k).log2 = m.log2 + k := by
  obtain ⟨h1, h2⟩ := log_bound h0
  have hne : m * 2 ^ k ≠ 0 := Nat.mul_ne_zero h0 (Nat.ne_of_gt (Nat.two_pow_pos k))
  have a : m.log2 + k ≤ (m * 2 ^ k).log2 := (Nat.le_log2 hne).2 (by rw [Nat.pow_add]; exact Nat.mul_le_mul_right _ h1)
  have b : (m * 2 ^ k).log2 < m.log2 + k + 1 := (Nat.log2_lt hne).2 (by
    have : m.log2 + k + 1 = (m.log2 + 1) + k := by omega
    rw [this, Nat.pow_add]
    exact Nat.mul_lt_mul_of_pos_right h2 (Nat.two_pow_pos k))
  omega

theorem cut_exact {s : Bool} {a d : Nat} (hd : d ≤ (a * 2 ^ d).log2 + 2) : Toward.even.cut s (a * 2 ^ d) d = a := by
  unfold Toward.cut
  have hm : min d ((a * 2 ^ d).log2 + 2) = d := Nat.min_eq_left hd
  have hg : 1 <<< min d ((a * 2 ^ d).log2 + 2) = 2 ^ d := by rw [hm, Nat.shiftLeft_eq, Nat.one_mul]
  simp only [hg, Nat.mul_div_cancel _ (Nat.two_pow_pos d), Nat.mul_mod_left]
  simp

/-- the word of a number, whatever the place it is told at -/
theorem nearest_at {s : Bool} {m k : Nat} (h0 : m ≠ 0) (h : m < 2 ^ 53) :
    double.nearest s (m * 2 ^ k) (-(k : Int)) = double.word s ((m.log2 + 1022) * 2 ^ 52 + m * 2 ^ (52 - m.log2)) := by
  have hl := log_le h0 h
  have hne : m * 2 ^ k ≠ 0 := Nat.mul_ne_zero h0 (Nat.ne_of_gt (Nat.two_pow_pos k))
  have kb := kept_bound h0 h
  unfold Format.nearest
  rw [if_neg hne]
  have hlast : max (-(k : Int) + ((m * 2 ^ k).log2 : Int) - (double.fractionBits : Int)) double.leastPlace = (m.log2 : Int) - 52 := by
    rw [log_mul h0]
    simp only [double, Format.leastPlace]
    omega
  simp only [hlast]
  have hkept : Toward.even.cut s ((m * 2 ^ k) <<< (-(k : Int) - ((m.log2 : Int) - 52)).toNat) (((m.log2 : Int) - 52) - -(k : Int)).toNat = m * 2 ^ (52 - m.log2) := by
    by_cases hc : k ≤ 52 - m.log2
    · have e1 : (-(k : Int) - ((m.log2 : Int) - 52)).toNat = 52 - m.log2 - k := by omega
      have e2 : (((m.log2 : Int) - 52) - -(k : Int)).toNat = 0 := by omega
      have e3 : (m * 2 ^ k) <<< (52 - m.log2 - k) = m * 2 ^ (52 - m.log2) * 2 ^ 0 := by
        rw [Nat.shiftLeft_eq, Nat.mul_assoc, ← Nat.pow_add, Nat.pow_zero, Nat.mul_one]
        congr 2
        omega
      rw [e1, e2, e3, cut_exact (Nat.zero_le _)]
    · have e1 : (-(k : Int) - ((m.log2 : Int) - 52)).toNat = 0 := by omega
      have e2 : (((m.log2 : Int) - 52) - -(k : Int)).toNat = k - (52 - m.log2) := by omega
      have e4 : (m * 2 ^ k) <<< 0 = (m * 2 ^ (52 - m.log2)) * 2 ^ (k - (52 - m.log2)) := by
        rw [Nat.shiftLeft_eq, Nat.pow_zero, Nat.mul_one, Nat.mul_assoc, ← Nat.pow_add]
        congr 2
        omega
      rw [e1, e2, e4, cut_exact]
      have hne2 : m * 2 ^ (52 - m.log2) ≠ 0 := by omega
      rw [log_mul hne2]
      omega
  rw [hkept]
  have hplace : ((m.log2 : Int) - 52 - double.leastPlace).toNat = m.log2 + 1022 := by
    simp only [double, Format.leastPlace]
    omega
  rw [hplace]
  have hmin : min ((m.log2 + 1022) * double.binade + m * 2 ^ (52 - m.log2)) double.infRung = (m.log2 + 1022) * 2 ^ 52 + m * 2 ^ (52 - m.log2) := by
    simp only [double, Format.binade, Format.infRung]
    omega
  rw [hmin]

theorem F_zero : F 0 = 0 := by decide

theorem F_eq {n : Int} (h0 : n ≠ 0) (h : n.natAbs < 2 ^ 53) : F n = double.word (decide (n < 0)) ((n.natAbs.log2 + 1022) * 2 ^ 52 + n.natAbs * 2 ^ (52 - n.natAbs.log2)) := by
  have hm : n.natAbs ≠ 0 := by omega
  have := nearest_at (s := decide (n < 0)) (k := 0) hm h
  rw [Nat.pow_zero, Nat.mul_one] at this
  exact this

theorem read_word {s : Bool} {m : Nat} (h0 : m ≠ 0) (h : m < 2 ^ 53) : double.read (double.word s ((m.log2 + 1022) * 2 ^ 52 + m * 2 ^ (52 - m.log2))) = .number s (m * 2 ^ (52 - m.log2)) ((m.log2 : Int) - 52) := by
  have kb := kept_bound h0 h
  have hl := log_le h0 h
  generalize m * 2 ^ (52 - m.log2) = q at *
  have e52 : (2 : Nat) ^ 52 = 4503599627370496 := by decide
  have e53 : (2 : Nat) ^ 53 = 9007199254740992 := by decide
  have e63 : (2 : Nat) ^ 63 = 9223372036854775808 := by decide
  have hr : (m.log2 + 1022) * 2 ^ 52 + q < 2 ^ 63 := by omega
  have hw : double.word s ((m.log2 + 1022) * 2 ^ 52 + q) / double.signWeight % 2 = s.toNat ∧ double.word s ((m.log2 + 1022) * 2 ^ 52 + q) % double.signWeight = (m.log2 + 1022) * 2 ^ 52 + q := by
    have hs : double.signWeight = 2 ^ 63 := rfl
    rw [hs]
    cases s
    · simp only [Format.word, Bool.false_eq_true, if_false, Bool.toNat_false]
      omega
    · simp only [Format.word, if_true, hs, Bool.toNat_true]
      omega
  unfold Format.read
  simp only [hw.1, hw.2]
  have hb : double.binade = 2 ^ 52 := rfl
  have hi : double.infRung = 2047 * 2 ^ 52 := rfl
  have hp : double.leastPlace = -1074 := rfl
  rw [hb, hi, hp, if_neg (by omega), if_pos (by omega)]
  have hd : ((m.log2 + 1022) * 2 ^ 52 + q) / 2 ^ 52 = m.log2 + 1023 := by omega
  have hm : 2 ^ 52 + ((m.log2 + 1022) * 2 ^ 52 + q) % 2 ^ 52 = q := by omega
  rw [hd, hm]
  have hn : (s.toNat == 1) = s := by cases s <;> rfl
  have hpl : (-1074 : Int) + ((m.log2 + 1023 - 1 : Nat) : Int) = (m.log2 : Int) - 52 := by omega
  rw [hn, hpl]

/-- what a whole number's word stands for -/
theorem read_F {n : Int} (h : n.natAbs < 2 ^ 53) : ∃ k : Nat, double.read (F n) = .number (decide (n < 0)) (n.natAbs * 2 ^ k) (-(k : Int)) := by
  by_cases h0 : n = 0
  · subst h0
    have hr : double.read 0 = .number false 0 (-1074) := rfl
    obtain ⟨k, hk⟩ : ∃ k : Nat, -(k : Int) = -1074 := ⟨1074, rfl⟩
    have e : (0 : Int).natAbs * 2 ^ k = 0 := Nat.zero_mul _
    refine ⟨k, ?_⟩
    rw [F_zero, hr, e, hk]
    rfl
  · have hm : n.natAbs ≠ 0 := by omega
    have hl := log_le hm h
    refine ⟨52 - n.natAbs.log2, ?_⟩
    rw [F_eq h0 h, read_word hm h]
    have : ((n.natAbs.log2 : Int) - 52) = -((52 - n.natAbs.log2 : Nat) : Int) := by omega
    rw [this]

/-- any telling of a whole number is written as its word -/
theorem write_at {n : Int} {k : Nat} {s : Bool} (h : n.natAbs < 2 ^ 53) (hs : s = decide (n < 0)) : double.write (.number s (n.natAbs * 2 ^ k) (-(k : Int))) = F n := by
  subst hs
  show double.nearest _ _ _ = _
  by_cases h0 : n = 0
  · subst h0
    rw [F_zero]
    have : (0 : Int).natAbs * 2 ^ k = 0 := by simp
    rw [this]
    unfold Format.nearest
    rw [if_pos rfl]
    rfl
  · have hm : n.natAbs ≠ 0 := by omega
    rw [nearest_at hm h, F_eq h0 h]

theorem signed_at (n : Int) (k u : Nat) : signed (decide (n < 0)) (n.natAbs * 2 ^ k) u = n * ((2 ^ (k + u) : Nat) : Int) := by
  unfold signed
  rw [Nat.shiftLeft_eq, Nat.mul_assoc, ← Nat.pow_add]
  by_cases h : n < 0
  · rw [if_pos (by simpa using h), Int.natCast_mul, ← Int.neg_mul]
    congr 1
    omega
  · rw [if_neg (by simpa using h), Int.natCast_mul]
    congr 1
    omega

/-- sums of data told at places -/
theorem sum_at {a b : Int} {k l : Nat} {s t : Bool} (hs : a ≠ 0 → s = decide (a < 0)) (ht : b ≠ 0 → t = decide (b < 0)) (hst : a + b = 0 → (s && t) = false) (h : (a + b).natAbs < 2 ^ 53) :
    ((Datum.number s (a.natAbs * 2 ^ k) (-(k : Int))).sum (.number t (b.natAbs * 2 ^ l) (-(l : Int)))).map double.write = some (F (a + b)) := by
  have sg : ∀ (n : Int) (s : Bool) (k u : Nat), (n ≠ 0 → s = decide (n < 0)) → signed s (n.natAbs * 2 ^ k) u = n * ((2 ^ (k + u) : Nat) : Int) := by
    intro n s k u hn
    by_cases h0 : n = 0
    · subst h0
      unfold signed
      have : (0 : Int).natAbs * 2 ^ k = 0 := Nat.zero_mul _
      rw [this, Nat.zero_shiftLeft]
      simp
    · rw [hn h0]
      exact signed_at n k u
  obtain ⟨m, hm⟩ : ∃ m : Nat, min (-(k : Int)) (-(l : Int)) = -(m : Int) := ⟨max k l, by omega⟩
  simp only [Datum.sum, hm, Option.map_some]
  have hk : k ≤ m := by omega
  have hl : l ≤ m := by omega
  have e1 : (-(k : Int) - -(m : Int)).toNat = m - k := by omega
  have e2 : (-(l : Int) - -(m : Int)).toNat = m - l := by omega
  rw [e1, e2, sg a s k (m - k) hs, sg b t l (m - l) ht]
  have e3 : k + (m - k) = m := by omega
  have e4 : l + (m - l) = m := by omega
  rw [e3, e4, ← Int.add_mul]
  have hp : 0 < ((2 ^ m : Nat) : Int) := by
    have := Nat.two_pow_pos m
    omega
  generalize hc : a + b = c at *
  have ec : (c * ((2 ^ m : Nat) : Int)).natAbs = c.natAbs * 2 ^ m := by rw [Int.natAbs_mul, Int.natAbs_natCast]
  rw [ec]
  by_cases h0 : c = 0
  · have hz : c * ((2 ^ m : Nat) : Int) = 0 := by rw [h0, Int.zero_mul]
    rw [if_pos hz, hst h0]
    rw [write_at h (by rw [h0]; rfl)]
  · have hz : c * ((2 ^ m : Nat) : Int) ≠ 0 := Int.mul_ne_zero h0 (Int.ne_of_gt hp)
    rw [if_neg hz]
    have hlt : decide (c * ((2 ^ m : Nat) : Int) < 0) = decide (c < 0) := by
      congr 1
      apply propext
      constructor
      · intro hh
        by_cases hc0 : c < 0
        · exact hc0
        · have : 0 ≤ c * ((2 ^ m : Nat) : Int) := Int.mul_nonneg (by omega) (Int.le_of_lt hp)
          omega
      · intro hh
        exact Int.mul_neg_of_neg_of_pos hh hp
    rw [hlt, write_at h rfl]

theorem add_F {a b : Int} (ha : a.natAbs < 2 ^ 53) (hb : b.natAbs < 2 ^ 53) (h : (a + b).natAbs < 2 ^ 53) : double.add (F a) (F b) = some (F (a + b)) := by
  obtain ⟨k, hk⟩ := read_F ha
  obtain ⟨l, hl⟩ := read_F hb
  unfold Format.add
  rw [hk, hl]
  refine sum_at (fun _ => rfl) (fun _ => rfl) (fun h0 => ?_) h
  by_cases h1 : a < 0
  · have : ¬ b < 0 := by omega
    simp [this]
  · simp [h1]

theorem sub_F {a b : Int} (ha : a.natAbs < 2 ^ 53) (hb : b.natAbs < 2 ^ 53) (h : (a - b).natAbs < 2 ^ 53) : double.sub (F a) (F b) = some (F (a - b)) := by
  obtain ⟨k, hk⟩ := read_F ha
  obtain ⟨l, hl⟩ := read_F hb
  unfold Format.sub
  rw [hk, hl]
  have hn : b.natAbs = (-b).natAbs := (Int.natAbs_neg b).symm
  show ((Datum.number _ _ _).sum (.number (!decide (b < 0)) (b.natAbs * 2 ^ l) _)).map _ = _
  rw [hn]
  have e : a - b = a + -b := Int.sub_eq_add_neg
  rw [e]
  refine sum_at (fun _ => rfl) (fun h0 => ?_) (fun h0 => ?_) (by rw [← e]; exact h)
  · by_cases h1 : b < 0
    · rw [decide_eq_true h1, decide_eq_false (show ¬ -b < 0 by omega)]
      rfl
    · rw [decide_eq_false h1, decide_eq_true (show -b < 0 by omega)]
      rfl
  · by_cases h1 : a < 0
    · have : b < 0 := by omega
      simp [this]
    · simp [h1]

theorem toInt_at {n : Int} {k : Nat} : (Datum.number (decide (n < 0)) (n.natAbs * 2 ^ k) (-(k : Int))).toInt .zero = some n := by
  have hc : Toward.zero.cut (decide (n < 0)) ((n.natAbs * 2 ^ k) <<< (-(k : Int)).toNat) (-(-(k : Int))).toNat = n.natAbs := by
    have e1 : (-(k : Int)).toNat = 0 := by omega
    have e2 : (-(-(k : Int))).toNat = k := by omega
    rw [e1, e2, Nat.shiftLeft_eq, Nat.pow_zero, Nat.mul_one]
    unfold Toward.cut
    by_cases h0 : n.natAbs = 0
    · have : n.natAbs * 2 ^ k = 0 := by rw [h0, Nat.zero_mul]
      rw [this, h0]
      simp
    · have hm : min k ((n.natAbs * 2 ^ k).log2 + 2) = k := Nat.min_eq_left (by rw [log_mul h0]; omega)
      have hg : 1 <<< min k ((n.natAbs * 2 ^ k).log2 + 2) = 2 ^ k := by rw [hm, Nat.shiftLeft_eq, Nat.one_mul]
      simp only [hg, Nat.mul_div_cancel _ (Nat.two_pow_pos k)]
      simp
  unfold Datum.toInt Datum.integral
  simp only [hc]
  congr 1
  have := signed_at n 0 0
  simp only [Nat.pow_zero, Nat.mul_one, Nat.add_zero] at this
  rw [this]
  simp

theorem toInt_F {n : Int} (h : n.natAbs < 2 ^ 53) : (double.read (F n)).toInt .zero = some n := by
  obtain ⟨k, hk⟩ := read_F h
  rw [hk, toInt_at]

theorem order_F {a b : Int} (ha : a.natAbs < 2 ^ 53) (hb : b.natAbs < 2 ^ 53) : double.order (F a) (F b) = some (compare a b) := by
  obtain ⟨k, hk⟩ := read_F ha
  obtain ⟨l, hl⟩ := read_F hb
  unfold Format.order
  rw [hk, hl]
  obtain ⟨m, hm⟩ : ∃ m : Nat, min (-(k : Int)) (-(l : Int)) = -(m : Int) := ⟨max k l, by omega⟩
  simp only [Datum.order, hm]
  have e1 : (-(k : Int) - -(m : Int)).toNat = m - k := by omega
  have e2 : (-(l : Int) - -(m : Int)).toNat = m - l := by omega
  rw [e1, e2, signed_at, signed_at, show k + (m - k) = m by omega, show l + (m - l) = m by omega]
  have hp : 0 < ((2 ^ m : Nat) : Int) := by
    have := Nat.two_pow_pos m
    omega
  congr 1
  simp only [compare, compareOfLessAndEq]
  have h1 : (a * ((2 ^ m : Nat) : Int) < b * ((2 ^ m : Nat) : Int)) = (a < b) := propext ⟨fun h => Int.lt_of_mul_lt_mul_right h (Int.le_of_lt hp), fun h => Int.mul_lt_mul_of_pos_right h hp⟩
  have h2 : (a * ((2 ^ m : Nat) : Int) = b * ((2 ^ m : Nat) : Int)) = (a = b) := propext ⟨fun h => Int.eq_of_mul_eq_mul_right (Int.ne_of_gt hp) h, fun h => by rw [h]⟩
  simp only [h1, h2]

theorem mul_F {a b : Int} (ha : a.natAbs < 2 ^ 53) (hb : b.natAbs < 2 ^ 53) (h : (a * b).natAbs < 2 ^ 53) (h0 : a * b = 0 → (decide (a < 0) ^^ decide (b < 0)) = false) : double.mul (F a) (F b) = some (F (a * b)) := by
  obtain ⟨k, hk⟩ := read_F ha
  obtain ⟨l, hl⟩ := read_F hb
  unfold Format.mul
  rw [hk, hl]
  simp only [Datum.product, Option.map_some]
  have e1 : a.natAbs * 2 ^ k * (b.natAbs * 2 ^ l) = (a * b).natAbs * 2 ^ (k + l) := by
    rw [Int.natAbs_mul, Nat.pow_add]
    simp only [Nat.mul_assoc, Nat.mul_left_comm]
  have e2 : -(k : Int) + -(l : Int) = -((k + l : Nat) : Int) := by omega
  rw [e1, e2, write_at h]
  by_cases hz : a * b = 0
  · rw [h0 hz, hz]
    rfl
  · have hane : a ≠ 0 := fun e => hz (by rw [e, Int.zero_mul])
    have hbne : b ≠ 0 := fun e => hz (by rw [e, Int.mul_zero])
    by_cases h1 : a < 0
    · by_cases h2 : b < 0
      · have : 0 < a * b := Int.mul_pos_of_neg_of_neg h1 h2
        rw [decide_eq_true h1, decide_eq_true h2, decide_eq_false (by omega)]
        rfl
      · have : a * b < 0 := Int.mul_neg_of_neg_of_pos h1 (by omega)
        rw [decide_eq_true h1, decide_eq_false h2, decide_eq_true this]
        rfl
    · by_cases h2 : b < 0
      · have : a * b < 0 := Int.mul_neg_of_pos_of_neg (by omega) h2
        rw [decide_eq_false h1, decide_eq_true h2, decide_eq_true this]
        rfl
      · have : 0 < a * b := Int.mul_pos (by omega) (by omega)
        rw [decide_eq_false h1, decide_eq_false h2, decide_eq_false (by omega)]
        rfl
end Go.Fp
