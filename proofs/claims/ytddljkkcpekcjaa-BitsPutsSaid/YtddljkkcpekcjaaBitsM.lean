/- BitsM: rows of bits, plainly: which bits a row of bytes holds, the number that is taken of them, the bytes that hold a row of bits. No condition. -/
import Derived.Test.YtddljkkcpekcjaaNums
namespace Go.Sx

/-- bit i of bytes -/
def bitOf (bs : List Nat) (i : Nat) : Bool := (bs.getD (i / 8) 0).testBit (7 - i % 8)

/-- the number of n bits from a on -/
def rdv (L : Nat → Bool) (a : Nat) : Nat → Nat
  | 0 => 0
  | n + 1 => 2 * rdv L a n + (L (a + n)).toNat

theorem rdv_lt (L : Nat → Bool) (a : Nat) : ∀ n, rdv L a n < 2 ^ n
  | 0 => by simp [rdv]
  | n + 1 => by
    have := rdv_lt L a n
    have hb : (L (a + n)).toNat ≤ 1 := by cases L (a + n) <;> decide
    simp only [rdv, Nat.pow_succ]
    omega

theorem rdv_test (L : Nat → Bool) (a : Nat) : ∀ n j, (rdv L a n).testBit j = (decide (j < n) && L (a + n - 1 - j))
  | 0, j => by simp [rdv]
  | n + 1, j => by
    cases j with
    | zero =>
      simp only [rdv, Nat.testBit_zero]
      cases h : L (a + n)
      · simp [h]
      · simp [h]
    | succ j =>
      have ih := rdv_test L a n j
      have h2 : (2 * rdv L a n + (L (a + n)).toNat) / 2 = rdv L a n := by
        have hb : (L (a + n)).toNat ≤ 1 := by cases L (a + n) <;> decide
        omega
      simp only [rdv, Nat.testBit_succ, h2, ih]
      have e : a + (n + 1) - 1 - (j + 1) = a + n - 1 - j := by omega
      rw [e]
      congr 1
      simp

theorem rdv_congr {L L' : Nat → Bool} {a a' : Nat} : ∀ n, (∀ i, i < n → L (a + i) = L' (a' + i)) → rdv L a n = rdv L' a' n
  | 0, _ => rfl
  | n + 1, h => by
    simp only [rdv]
    rw [rdv_congr n (fun i hi => h i (by omega)), h n (by omega)]

/-- the bits of a number, the greatest first -/
def numBits (v n : Nat) : List Bool := (List.range n).map fun i => v.testBit (n - 1 - i)

theorem numBits_length (v n : Nat) : (numBits v n).length = n := by simp [numBits]
theorem numBits_get (v n i : Nat) (h : i < n) : (numBits v n)[i]? = some (v.testBit (n - 1 - i)) := by simp [numBits, h]

/-- what was put is taken -/
theorem rdv_numBits {L : Nat → Bool} {a v n : Nat} (hv : v < 2 ^ n) (h : ∀ i, i < n → L (a + i) = v.testBit (n - 1 - i)) : rdv L a n = v := by
  apply Nat.eq_of_testBit_eq
  intro j
  rw [rdv_test]
  by_cases hj : j < n
  · have e : a + n - 1 - j = a + (n - 1 - j) := by omega
    rw [e, h _ (by omega)]
    have e2 : n - 1 - (n - 1 - j) = j := by omega
    simp [hj, e2]
  · have : v < 2 ^ j := Nat.lt_of_lt_of_le hv (Nat.pow_le_pow_right (by decide) (by omega))
    simp [hj, Nat.testBit_lt_two_pow this]

/-- bytes that hold a row of bits, filled up with zeros -/
structure Packs (bs : List Nat) (l : List Bool) : Prop where
  len : bs.length = (l.length + 7) / 8
  small : ∀ b ∈ bs, b < 256
  bit : ∀ i, i < 8 * bs.length → bitOf bs i = l.getD i false

/-- the same, with a byte that has room -/
structure PacksR (bs : List Nat) (l : List Bool) : Prop where
  len : bs.length = l.length / 8 + 1
  small : ∀ b ∈ bs, b < 256
  bit : ∀ i, i < 8 * bs.length → bitOf bs i = l.getD i false

theorem Packs.nil : Packs [] [] := ⟨rfl, by simp, by simp⟩

theorem Packs.room_new {bs : List Nat} {l : List Bool} (h : Packs bs l) (h8 : l.length % 8 = 0) : PacksR (bs ++ [0]) l := by
  have hl := h.len
  have hlen : bs.length = l.length / 8 := by omega
  refine ⟨by simp [hlen], fun b hb => ?_, fun i hi => ?_⟩
  · simp only [List.mem_append, List.mem_singleton] at hb
    rcases hb with hb | rfl
    · exact h.small b hb
    · decide
  · simp only [List.length_append, List.length_singleton] at hi
    by_cases hlt : i / 8 < bs.length
    · have hb := h.bit i (by omega)
      rw [← hb]
      unfold bitOf
      rw [List.getD_eq_getElem?_getD, List.getElem?_append_left hlt, ← List.getD_eq_getElem?_getD]
    · have he : i / 8 = bs.length := by omega
      unfold bitOf
      rw [List.getD_eq_getElem?_getD, he, List.getElem?_append_right (Nat.le_refl _)]
      simp
      rw [List.getElem?_eq_none (by omega)]
      rfl

theorem Packs.room_old {bs : List Nat} {l : List Bool} (h : Packs bs l) (h8 : l.length % 8 ≠ 0) : PacksR bs l :=
  ⟨by have := h.len; omega, h.small, h.bit⟩

/-- the last byte with k bits of a number more -/
def orIn (x v n k free : Nat) : Nat := x ||| (((v >>> (n - k)) &&& (2 ^ k - 1)) <<< (free - k))

theorem orIn_test {x v n k free j : Nat} (hkf : k ≤ free) : (orIn x v n k free).testBit j = (x.testBit j || (decide (free - k ≤ j ∧ j < free) && v.testBit (n - k + (j - (free - k))))) := by
  unfold orIn
  rw [and_mask, Nat.testBit_or, Nat.testBit_shiftLeft, Nat.testBit_mod_two_pow, Nat.testBit_shiftRight]
  by_cases h1 : free - k ≤ j
  · by_cases h2 : j < free
    · have h3 : j - (free - k) < k := by omega
      simp [h1, h2, h3]
    · have h3 : ¬ j - (free - k) < k := by omega
      simp [h1, h2, h3]
  · simp [h1]

theorem PacksR.round {bs : List Nat} {l : List Bool} (h : PacksR bs l) {v n k free : Nat} (hfree : free = 8 - l.length % 8) (hkn : k ≤ n) (hkf : k ≤ free) (hk : 0 < k) :
    Packs (bs.set (bs.length - 1) (orIn (bs.getD (bs.length - 1) 0) v n k free)) (l ++ (List.range k).map fun i => v.testBit (n - 1 - i)) := by
  have hl := h.len
  have hpos : 0 < bs.length := by omega
  have hlast : bs.getD (bs.length - 1) 0 < 256 := by
    have : bs[bs.length - 1]? = some (bs[bs.length - 1]'(by omega)) := List.getElem?_eq_getElem (by omega)
    rw [List.getD_eq_getElem?_getD, this]
    exact h.small _ (List.getElem_mem _)
  have hor : orIn (bs.getD (bs.length - 1) 0) v n k free < 256 := by
    have : orIn (bs.getD (bs.length - 1) 0) v n k free < 2 ^ 8 := by
      apply Nat.lt_pow_two_of_testBit
      intro j hj
      rw [orIn_test hkf]
      have h1 : ¬ (free - k ≤ j ∧ j < free) := by omega
      have h2 : (bs.getD (bs.length - 1) 0).testBit j = false := Nat.testBit_lt_two_pow (Nat.lt_of_lt_of_le hlast (by
        have : (2 : Nat) ^ 8 ≤ 2 ^ j := Nat.pow_le_pow_right (by decide) hj
        omega))
      rw [h2, decide_eq_false h1]; rfl
    simpa using this
  refine ⟨?_, ?_, ?_⟩
  · simp only [List.length_set, List.length_append, List.length_map, List.length_range]
    omega
  · intro b hb
    rcases List.mem_or_eq_of_mem_set hb with hb | rfl
    · exact h.small b hb
    · exact hor
  · intro i hi
    simp only [List.length_set] at hi
    have hbit := h.bit i hi
    unfold bitOf at hbit ⊢
    by_cases hlt : i / 8 = bs.length - 1
    · have hq : (bs.set (bs.length - 1) (orIn (bs.getD (bs.length - 1) 0) v n k free)).getD (i / 8) 0 = orIn (bs.getD (bs.length - 1) 0) v n k free := by
        rw [List.getD_eq_getElem?_getD, hlt, List.getElem?_set_self (by omega)]
        rfl
      rw [hq, orIn_test hkf]
      rw [hlt] at hbit
      rw [hbit]
      by_cases h1 : i < l.length
      · have h2 : ¬ (free - k ≤ 7 - i % 8 ∧ 7 - i % 8 < free) := by omega
        rw [List.getD_eq_getElem?_getD (l := l ++ _), List.getElem?_append_left h1, ← List.getD_eq_getElem?_getD, decide_eq_false h2]
        simp
      · have h3 : l.getD i false = false := by
          rw [List.getD_eq_getElem?_getD, List.getElem?_eq_none (by omega)]
          rfl
        rw [h3, List.getD_eq_getElem?_getD, List.getElem?_append_right (by omega)]
        by_cases h4 : i - l.length < k
        · have h5 : free - k ≤ 7 - i % 8 ∧ 7 - i % 8 < free := by omega
          have h6 : n - k + (7 - i % 8 - (free - k)) = n - 1 - (i - l.length) := by omega
          rw [decide_eq_true h5, h6]
          simp [h4]
        · have h5 : ¬ (free - k ≤ 7 - i % 8 ∧ 7 - i % 8 < free) := by omega
          rw [decide_eq_false h5]
          simp [h4]
    · have hq : (bs.set (bs.length - 1) (orIn (bs.getD (bs.length - 1) 0) v n k free)).getD (i / 8) 0 = bs.getD (i / 8) 0 := by
        rw [List.getD_eq_getElem?_getD, List.getElem?_set_ne (by omega), ← List.getD_eq_getElem?_getD]
      rw [hq, hbit]
      rw [List.getD_eq_getElem?_getD (l := l ++ _), List.getElem?_append_left (by omega), ← List.getD_eq_getElem?_getD]

theorem Packs.unique {bs bs' : List Nat} {l : List Bool} (h : Packs bs l) (h' : Packs bs' l) : bs = bs' := by
  apply List.ext_getElem
  · rw [h.len, h'.len]
  · intro i h1 h2
    apply Nat.eq_of_testBit_eq
    intro j
    by_cases hj : j < 8
    · have a := h.bit (8 * i + (7 - j)) (by omega)
      have b := h'.bit (8 * i + (7 - j)) (by omega)
      unfold bitOf at a b
      have e1 : (8 * i + (7 - j)) / 8 = i := by omega
      have e2 : 7 - (8 * i + (7 - j)) % 8 = j := by omega
      rw [e1, e2, List.getD_eq_getElem?_getD, List.getElem?_eq_getElem h1] at a
      rw [e1, e2, List.getD_eq_getElem?_getD, List.getElem?_eq_getElem h2] at b
      simp only [Option.getD_some] at a b
      rw [a, b]
    · have s1 := h.small _ (List.getElem_mem h1)
      have s2 := h'.small _ (List.getElem_mem h2)
      have hp : 256 ≤ 2 ^ j := by
        have : (2 : Nat) ^ 8 ≤ 2 ^ j := Nat.pow_le_pow_right (by decide) (by omega)
        omega
      rw [Nat.testBit_lt_two_pow (by omega), Nat.testBit_lt_two_pow (by omega)]
end Go.Sx
