/- Fn: floats of 64 bits that stand for small whole numbers, -0 for 0 too: sums, differences, products, order. Conditions: their size. -/
import Derived.Test.YtamobmjfdiecbaaFp
namespace Go.Fp
open Ieee

/-- the word stands for a whole number -/
def N (x : Nat) (n : Int) : Prop := n.natAbs < 2 ^ 53 ∧ (x = F n ∨ (n = 0 ∧ x = 9223372036854775808))

theorem N_F {n : Int} (h : n.natAbs < 2 ^ 53) : N (F n) n := ⟨h, .inl rfl⟩
theorem N_lit {x : Nat} {n : Int} (h : n.natAbs < 2 ^ 53) (e : F n = x) : N x n := ⟨h, .inl e.symm⟩

theorem N.read {x : Nat} {n : Int} (h : N x n) : ∃ (s : Bool) (k : Nat), double.read x = .number s (n.natAbs * 2 ^ k) (-(k : Int)) ∧ (n ≠ 0 → s = decide (n < 0)) := by
  obtain ⟨hn, rfl | ⟨rfl, rfl⟩⟩ := h
  · obtain ⟨k, hk⟩ := read_F hn
    exact ⟨_, k, hk, fun _ => rfl⟩
  · have hr : double.read 9223372036854775808 = .number true 0 (-1074) := rfl
    obtain ⟨k, hk⟩ : ∃ k : Nat, -(k : Int) = -1074 := ⟨1074, rfl⟩
    have e : (0 : Int).natAbs * 2 ^ k = 0 := Nat.zero_mul _
    exact ⟨true, k, by rw [hr, e, hk], fun h => absurd rfl h⟩

/-- what is written of a whole number told at a place, whatever the sign of a zero -/
theorem write_N {n : Int} {k : Nat} {s : Bool} (h : n.natAbs < 2 ^ 53) (hs : n ≠ 0 → s = decide (n < 0)) : N (double.write (.number s (n.natAbs * 2 ^ k) (-(k : Int)))) n := by
  by_cases h0 : n = 0
  · subst h0
    refine ⟨h, ?_⟩
    have : (0 : Int).natAbs * 2 ^ k = 0 := Nat.zero_mul _
    rw [this]
    have hw : double.write (.number s 0 (-(k : Int))) = double.word s 0 := by
      show double.nearest _ _ _ = _
      unfold Format.nearest
      rw [if_pos rfl]
    rw [hw]
    cases s
    · exact .inl rfl
    · exact .inr ⟨rfl, rfl⟩
  · rw [write_at h (hs h0)]
    exact N_F h

theorem sg_at (n : Int) (s : Bool) (k u : Nat) (hn : n ≠ 0 → s = decide (n < 0)) : signed s (n.natAbs * 2 ^ k) u = n * ((2 ^ (k + u) : Nat) : Int) := by
  by_cases h0 : n = 0
  · subst h0
    unfold signed
    have : (0 : Int).natAbs * 2 ^ k = 0 := Nat.zero_mul _
    rw [this, Nat.zero_shiftLeft]
    simp
  · rw [hn h0]
    exact signed_at n k u

theorem sum_N {a b : Int} {k l : Nat} {s t : Bool} (hs : a ≠ 0 → s = decide (a < 0)) (ht : b ≠ 0 → t = decide (b < 0)) (h : (a + b).natAbs < 2 ^ 53) :
    ∃ z, ((Datum.number s (a.natAbs * 2 ^ k) (-(k : Int))).sum (.number t (b.natAbs * 2 ^ l) (-(l : Int)))).map double.write = some z ∧ N z (a + b) := by
  obtain ⟨m, hm⟩ : ∃ m : Nat, min (-(k : Int)) (-(l : Int)) = -(m : Int) := ⟨max k l, by omega⟩
  simp only [Datum.sum, hm, Option.map_some]
  refine ⟨_, rfl, ?_⟩
  have hk : k ≤ m := by omega
  have hl : l ≤ m := by omega
  have e1 : (-(k : Int) - -(m : Int)).toNat = m - k := by omega
  have e2 : (-(l : Int) - -(m : Int)).toNat = m - l := by omega
  rw [e1, e2, sg_at a s k (m - k) hs, sg_at b t l (m - l) ht]
  have e3 : k + (m - k) = m := by omega
  have e4 : l + (m - l) = m := by omega
  rw [e3, e4, ← Int.add_mul]
  have hp : 0 < ((2 ^ m : Nat) : Int) := by
    have := Nat.two_pow_pos m
    omega
  generalize hc : a + b = c at *
  have ec : (c * ((2 ^ m : Nat) : Int)).natAbs = c.natAbs * 2 ^ m := by rw [Int.natAbs_mul, Int.natAbs_natCast]
  rw [ec]
  refine write_N h fun h0 => ?_
  have hz : c * ((2 ^ m : Nat) : Int) ≠ 0 := Int.mul_ne_zero h0 (Int.ne_of_gt hp)
  rw [if_neg hz]
  congr 1
  apply propext
  constructor
  · intro hh
    by_cases hc0 : c < 0
    · exact hc0
    · have : 0 ≤ c * ((2 ^ m : Nat) : Int) := Int.mul_nonneg (by omega) (Int.le_of_lt hp)
      omega
  · intro hh
    exact Int.mul_neg_of_neg_of_pos hh hp

theorem add_N {x y : Nat} {a b : Int} (hx : N x a) (hy : N y b) (h : (a + b).natAbs < 2 ^ 53) : ∃ z, double.add x y = some z ∧ N z (a + b) := by
  obtain ⟨s, k, hk, hs⟩ := hx.read
  obtain ⟨t, l, hl, ht⟩ := hy.read
  unfold Format.add
  rw [hk, hl]
  exact sum_N hs ht h

theorem sub_N {x y : Nat} {a b : Int} (hx : N x a) (hy : N y b) (h : (a - b).natAbs < 2 ^ 53) : ∃ z, double.sub x y = some z ∧ N z (a - b) := by
  obtain ⟨s, k, hk, hs⟩ := hx.read
  obtain ⟨t, l, hl, ht⟩ := hy.read
  unfold Format.sub
  rw [hk, hl]
  have hn : b.natAbs = (-b).natAbs := (Int.natAbs_neg b).symm
  show ∃ z, ((Datum.number _ _ _).sum (.number (!t) (b.natAbs * 2 ^ l) _)).map _ = _ ∧ _
  rw [hn]
  have e : a - b = a + -b := Int.sub_eq_add_neg
  rw [e]
  refine sum_N hs (fun h0 => ?_) (by rw [← e]; exact h)
  rw [ht (by omega)]
  by_cases h1 : b < 0
  · rw [decide_eq_true h1, decide_eq_false (show ¬ -b < 0 by omega)]
    rfl
  · rw [decide_eq_false h1, decide_eq_true (show -b < 0 by omega)]
    rfl

theorem mul_N {x y : Nat} {a b : Int} (hx : N x a) (hy : N y b) (h : (a * b).natAbs < 2 ^ 53) : ∃ z, double.mul x y = some z ∧ N z (a * b) := by
  obtain ⟨s, k, hk, hs⟩ := hx.read
  obtain ⟨t, l, hl, ht⟩ := hy.read
  unfold Format.mul
  rw [hk, hl]
  simp only [Datum.product, Option.map_some]
  refine ⟨_, rfl, ?_⟩
  have e1 : a.natAbs * 2 ^ k * (b.natAbs * 2 ^ l) = (a * b).natAbs * 2 ^ (k + l) := by
    rw [Int.natAbs_mul, Nat.pow_add]
    simp only [Nat.mul_assoc, Nat.mul_left_comm]
  have e2 : -(k : Int) + -(l : Int) = -((k + l : Nat) : Int) := by omega
  rw [e1, e2]
  refine write_N h fun hz => ?_
  have hane : a ≠ 0 := fun e => hz (by rw [e, Int.zero_mul])
  have hbne : b ≠ 0 := fun e => hz (by rw [e, Int.mul_zero])
  rw [hs hane, ht hbne]
  by_cases h1 : a < 0
  · by_cases h2 : b < 0
    · have : 0 < a * b := Int.mul_pos_of_neg_of_neg h1 h2
      rw [decide_eq_true h1, decide_eq_true h2, decide_eq_false (by omega)]
      rfl
    · have : a * b < 0 := Int.mul_neg_of_neg_of_pos h1 (by omega)
      rw [decide_eq_true h1, decide_eq_false h2, decide_eq_true this]
      rfl
  · by_cases h2 : b < 0
    · have : a * b < 0 := Int.mul_neg_of_pos_of_neg (by omega) h2
      rw [decide_eq_false h1, decide_eq_true h2, decide_eq_true this]
      rfl
    · have : 0 < a * b := Int.mul_pos (by omega) (by omega)
      rw [decide_eq_false h1, decide_eq_false h2, decide_eq_false (by omega)]
      rfl

theorem order_N {x y : Nat} {a b : Int} (hx : N x a) (hy : N y b) : double.order x y = some (compare a b) := by
  obtain ⟨s, k, hk, hs⟩ := hx.read
  obtain ⟨t, l, hl, ht⟩ := hy.read
  unfold Format.order
  rw [hk, hl]
  obtain ⟨m, hm⟩ : ∃ m : Nat, min (-(k : Int)) (-(l : Int)) = -(m : Int) := ⟨max k l, by omega⟩
  simp only [Datum.order, hm]
  have e1 : (-(k : Int) - -(m : Int)).toNat = m - k := by omega
  have e2 : (-(l : Int) - -(m : Int)).toNat = m - l := by omega
  rw [e1, e2, sg_at a s k _ hs, sg_at b t l _ ht, show k + (m - k) = m by omega, show l + (m - l) = m by omega]
  have hp : 0 < ((2 ^ m : Nat) : Int) := by
    have := Nat.two_pow_pos m
    omega
  congr 1
  simp only [compare, compareOfLessAndEq]
  have h1 : (a * ((2 ^ m : Nat) : Int) < b * ((2 ^ m : Nat) : Int)) = (a < b) := propext ⟨fun h => Int.lt_of_mul_lt_mul_right h (Int.le_of_lt hp), fun h => Int.mul_lt_mul_of_pos_right h hp⟩
  have h2 : (a * ((2 ^ m : Nat) : Int) = b * ((2 ^ m : Nat) : Int)) = (a = b) := propext ⟨fun h => Int.eq_of_mul_eq_mul_right (Int.ne_of_gt hp) h, fun h => by rw [h]⟩
  simp only [h1, h2]

theorem toInt_N {x : Nat} {n : Int} (h : N x n) : (double.read x).toInt .zero = some n := by
  obtain ⟨hn, rfl | ⟨rfl, rfl⟩⟩ := h
  · exact toInt_F hn
  · rfl
theorem N.at {x : Nat} {a b : Int} (h : N x a) (e : a = b) : N x b := e ▸ h
theorem N.lt {x : Nat} {a : Int} (h : N x a) : a.natAbs < 9007199254740992 := h.1
end Go.Fp
