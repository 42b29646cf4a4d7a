/- LatM: the spiral, plainly: where its runs begin, how many cells lie ahead of them, the number of a cell by its place. No condition. -/
import Derived.Test.YtppjcjbdkihnaaaNums
namespace Go.Lat

def kk (j : Nat) : Int := ((j + 2) / 2 : Nat)
def dx (j : Nat) : Int := if j % 4 = 0 then 1 else if j % 4 = 2 then -1 else 0
def dy (j : Nat) : Int := if j % 4 = 1 then 1 else if j % 4 = 3 then -1 else 0
def T : Nat → Int
  | 0 => 0
  | j + 1 => T j + kk j
def cx : Nat → Int
  | 0 => 0
  | j + 1 => cx j + dx j * kk j
def cy : Nat → Int
  | 0 => 0
  | j + 1 => cy j + dy j * kk j

theorem kk_pos (j : Nat) : 1 ≤ kk j := by unfold kk; omega
theorem kk_val (j : Nat) : 2 * kk j ≤ (j : Int) + 2 ∧ (j : Int) + 1 ≤ 2 * kk j := by unfold kk; omega

theorem T_mono {j j' : Nat} (h : j ≤ j') : T j ≤ T j' := by
  induction j' with
  | zero => have : j = 0 := by omega
            subst this; exact Int.le_refl _
  | succ i ih =>
    by_cases e : j = i + 1
    · subst e; exact Int.le_refl _
    · have := ih (by omega)
      have := kk_pos i
      simp only [T]
      omega

theorem T_ge (j : Nat) : (j : Int) ≤ T j := by
  induction j with
  | zero => simp [T]
  | succ i ih =>
    have := kk_pos i
    simp only [T]
    omega

/-- a number's run, and its place there -/
structure Seg (n : Int) (j : Nat) (t : Int) : Prop where
  eq : n = T j + t
  lo : 0 ≤ t
  hi : t ≤ kk j
  one : j = 0 ∨ 1 ≤ t

theorem Seg.unique {n : Int} {j j' : Nat} {t t' : Int} (h : Seg n j t) (h' : Seg n j' t') : j = j' ∧ t = t' := by
  have key : ∀ {j j' : Nat} {t t' : Int}, Seg n j t → Seg n j' t' → ¬ j < j' := by
    intro j j' t t' h h' hlt
    have h1 := T_mono (j := j + 1) (j' := j') hlt
    simp only [T] at h1
    have h2 := h.eq
    have h3 := h'.eq
    have h4 := h.hi
    rcases h'.one with h5 | h5
    · omega
    · omega
  have h1 := key h h'
  have h2 := key h' h
  have h3 : j = j' := by omega
  subst h3
  have h4 := h.eq
  have h5 := h'.eq
  exact ⟨rfl, by omega⟩

theorem Seg.next {n : Int} {j : Nat} {t : Int} (h : Seg n j t) : (t < kk j ∧ Seg (n + 1) j (t + 1)) ∨ (t = kk j ∧ Seg (n + 1) (j + 1) 1) := by
  have h1 := h.eq
  have h2 := h.lo
  have h3 := h.hi
  by_cases hc : t < kk j
  · exact .inl ⟨hc, by omega, by omega, by omega, .inr (by omega)⟩
  · have e : t = kk j := by omega
    have := kk_pos (j + 1)
    exact .inr ⟨e, by simp only [T]; omega, by omega, by omega, .inr (Int.le_refl _)⟩

theorem mul_sq (a : Int) : (a + 1) * (a + 1) = a * a + 2 * a + 1 := by
  rw [Int.add_mul, Int.mul_add]; omega

theorem four (m : Nat) :
    (cx (4 * m) = -(m : Int) ∧ cy (4 * m) = -(m : Int) ∧ T (4 * m) = 4 * ((m : Int) * m) + 2 * m) ∧
    (cx (4 * m + 1) = (m : Int) + 1 ∧ cy (4 * m + 1) = -(m : Int) ∧ T (4 * m + 1) = 4 * ((m : Int) * m) + 4 * m + 1) ∧
    (cx (4 * m + 2) = (m : Int) + 1 ∧ cy (4 * m + 2) = (m : Int) + 1 ∧ T (4 * m + 2) = 4 * ((m : Int) * m) + 6 * m + 2) ∧
    (cx (4 * m + 3) = -((m : Int) + 1) ∧ cy (4 * m + 3) = (m : Int) + 1 ∧ T (4 * m + 3) = 4 * ((m : Int) * m) + 8 * m + 4) := by
  have st : ∀ m : Nat, (cx (4 * m) = -(m : Int) ∧ cy (4 * m) = -(m : Int) ∧ T (4 * m) = 4 * ((m : Int) * m) + 2 * m) →
      (cx (4 * m + 1) = (m : Int) + 1 ∧ cy (4 * m + 1) = -(m : Int) ∧ T (4 * m + 1) = 4 * ((m : Int) * m) + 4 * m + 1) ∧
      (cx (4 * m + 2) = (m : Int) + 1 ∧ cy (4 * m + 2) = (m : Int) + 1 ∧ T (4 * m + 2) = 4 * ((m : Int) * m) + 6 * m + 2) ∧
      (cx (4 * m + 3) = -((m : Int) + 1) ∧ cy (4 * m + 3) = (m : Int) + 1 ∧ T (4 * m + 3) = 4 * ((m : Int) * m) + 8 * m + 4) ∧
      (cx (4 * m + 4) = -((m : Int) + 1) ∧ cy (4 * m + 4) = -((m : Int) + 1) ∧ T (4 * m + 4) = 4 * ((m : Int) * m) + 10 * m + 6) := by
    intro m ⟨h1, h2, h3⟩
    have k0 : kk (4 * m) = 2 * (m : Int) + 1 := by unfold kk; omega
    have k1 : kk (4 * m + 1) = 2 * (m : Int) + 1 := by unfold kk; omega
    have k2 : kk (4 * m + 2) = 2 * (m : Int) + 2 := by unfold kk; omega
    have k3 : kk (4 * m + 3) = 2 * (m : Int) + 2 := by unfold kk; omega
    have x0 : dx (4 * m) = 1 := by unfold dx; rw [if_pos (by omega)]
    have x1 : dx (4 * m + 1) = 0 := by unfold dx; rw [if_neg (by omega), if_neg (by omega)]
    have x2 : dx (4 * m + 2) = -1 := by unfold dx; rw [if_neg (by omega), if_pos (by omega)]
    have x3 : dx (4 * m + 3) = 0 := by unfold dx; rw [if_neg (by omega), if_neg (by omega)]
    have y0 : dy (4 * m) = 0 := by unfold dy; rw [if_neg (by omega), if_neg (by omega)]
    have y1 : dy (4 * m + 1) = 1 := by unfold dy; rw [if_pos (by omega)]
    have y2 : dy (4 * m + 2) = 0 := by unfold dy; rw [if_neg (by omega), if_neg (by omega)]
    have y3 : dy (4 * m + 3) = -1 := by unfold dy; rw [if_neg (by omega), if_pos (by omega)]
    have a1 : cx (4 * m + 1) = (m : Int) + 1 := by simp only [cx]; rw [h1, x0, k0]; omega
    have b1 : cy (4 * m + 1) = -(m : Int) := by simp only [cy]; rw [h2, y0, k0]; omega
    have c1 : T (4 * m + 1) = 4 * ((m : Int) * m) + 4 * m + 1 := by simp only [T]; rw [h3, k0]; omega
    have a2 : cx (4 * m + 2) = (m : Int) + 1 := by simp only [cx]; rw [show cx (4 * m) + dx (4 * m) * kk (4 * m) = cx (4 * m + 1) from rfl, a1, x1]; omega
    have b2 : cy (4 * m + 2) = (m : Int) + 1 := by simp only [cy]; rw [show cy (4 * m) + dy (4 * m) * kk (4 * m) = cy (4 * m + 1) from rfl, b1, y1, k1]; omega
    have c2 : T (4 * m + 2) = 4 * ((m : Int) * m) + 6 * m + 2 := by simp only [T]; rw [show T (4 * m) + kk (4 * m) = T (4 * m + 1) from rfl, c1, k1]; omega
    have a3 : cx (4 * m + 3) = -((m : Int) + 1) := by show cx (4 * m + 2) + dx (4 * m + 2) * kk (4 * m + 2) = _; rw [a2, x2, k2]; omega
    have b3 : cy (4 * m + 3) = (m : Int) + 1 := by show cy (4 * m + 2) + dy (4 * m + 2) * kk (4 * m + 2) = _; rw [b2, y2]; omega
    have c3 : T (4 * m + 3) = 4 * ((m : Int) * m) + 8 * m + 4 := by show T (4 * m + 2) + kk (4 * m + 2) = _; rw [c2, k2]; omega
    have a4 : cx (4 * m + 4) = -((m : Int) + 1) := by show cx (4 * m + 3) + dx (4 * m + 3) * kk (4 * m + 3) = _; rw [a3, x3]; omega
    have b4 : cy (4 * m + 4) = -((m : Int) + 1) := by show cy (4 * m + 3) + dy (4 * m + 3) * kk (4 * m + 3) = _; rw [b3, y3, k3]; omega
    have c4 : T (4 * m + 4) = 4 * ((m : Int) * m) + 10 * m + 6 := by show T (4 * m + 3) + kk (4 * m + 3) = _; rw [c3, k3]; omega
    exact ⟨⟨a1, b1, c1⟩, ⟨a2, b2, c2⟩, ⟨a3, b3, c3⟩, a4, b4, c4⟩
  have base : ∀ m : Nat, cx (4 * m) = -(m : Int) ∧ cy (4 * m) = -(m : Int) ∧ T (4 * m) = 4 * ((m : Int) * m) + 2 * m := by
    intro m
    induction m with
    | zero => simp [cx, cy, T]
    | succ m ih =>
      obtain ⟨_, _, _, h1, h2, h3⟩ := st m ih
      have e : 4 * (m + 1) = 4 * m + 4 := by omega
      rw [e]
      refine ⟨by rw [h1]; omega, by rw [h2]; omega, ?_⟩
      rw [h3]
      have e2 : ((m + 1 : Nat) : Int) = (m : Int) + 1 := by omega
      rw [e2, mul_sq]
      omega
  obtain ⟨h1, h2, h3, _⟩ := st m (base m)
  exact ⟨base m, h1, h2, h3⟩

def px (j : Nat) (t : Int) : Int := cx j + dx j * t
def py (j : Nat) (t : Int) : Int := cy j + dy j * t

/-- a run's cells, by its four kinds -/
theorem seg_cases {n : Int} {j : Nat} {t : Int} (h : Seg n j t) : ∃ m : Int, 0 ≤ m ∧ m ≤ n + 1 ∧ 0 ≤ t ∧
    ((n = 4 * (m * m) + 2 * m + t ∧ t ≤ 2 * m + 1 ∧ (m = 0 ∨ 1 ≤ t) ∧ px j t = -m + t ∧ py j t = -m ∧ dx j = 1 ∧ dy j = 0) ∨
     (n = 4 * (m * m) + 4 * m + 1 + t ∧ t ≤ 2 * m + 1 ∧ 1 ≤ t ∧ px j t = m + 1 ∧ py j t = -m + t ∧ dx j = 0 ∧ dy j = 1) ∨
     (n = 4 * (m * m) + 6 * m + 2 + t ∧ t ≤ 2 * m + 2 ∧ 1 ≤ t ∧ px j t = m + 1 - t ∧ py j t = m + 1 ∧ dx j = -1 ∧ dy j = 0) ∨
     (n = 4 * (m * m) + 8 * m + 4 + t ∧ t ≤ 2 * m + 2 ∧ 1 ≤ t ∧ px j t = -(m + 1) ∧ py j t = m + 1 - t ∧ dx j = 0 ∧ dy j = -1)) := by
  obtain ⟨m, d, hd, rfl⟩ : ∃ m d : Nat, d < 4 ∧ j = 4 * m + d := ⟨j / 4, j % 4, by omega, by omega⟩
  obtain ⟨f0, f1, f2, f3⟩ := four m
  have hm : (4 * m + d : Nat) ≤ T (4 * m + d) := T_ge _
  obtain ⟨h1, h2, h3, h4⟩ := h
  refine ⟨m, by omega, by omega, h2, ?_⟩
  have hk : kk (4 * m + d) = (((4 * m + d) + 2) / 2 : Nat) := rfl
  rcases (by omega : d = 0 ∨ d = 1 ∨ d = 2 ∨ d = 3) with rfl | rfl | rfl | rfl
  · have x : dx (4 * m + 0) = 1 := by unfold dx; rw [if_pos (by omega)]
    have y : dy (4 * m + 0) = 0 := by unfold dy; rw [if_neg (by omega), if_neg (by omega)]
    refine .inl ⟨?_, by omega, by omega, ?_, ?_, x, y⟩
    · rw [h1]; simp only [Nat.add_zero]; rw [f0.2.2]
    · unfold px; rw [x]; simp only [Nat.add_zero]; rw [f0.1]; omega
    · unfold py; rw [y]; simp only [Nat.add_zero]; rw [f0.2.1]; omega
  · have x : dx (4 * m + 1) = 0 := by unfold dx; rw [if_neg (by omega), if_neg (by omega)]
    have y : dy (4 * m + 1) = 1 := by unfold dy; rw [if_pos (by omega)]
    refine .inr (.inl ⟨by rw [h1, f1.2.2], by omega, by omega, ?_, ?_, x, y⟩)
    · unfold px; rw [x, f1.1]; omega
    · unfold py; rw [y, f1.2.1]; omega
  · have x : dx (4 * m + 2) = -1 := by unfold dx; rw [if_neg (by omega), if_pos (by omega)]
    have y : dy (4 * m + 2) = 0 := by unfold dy; rw [if_neg (by omega), if_neg (by omega)]
    refine .inr (.inr (.inl ⟨by rw [h1, f2.2.2], by omega, by omega, ?_, ?_, x, y⟩))
    · unfold px; rw [x, f2.1]; omega
    · unfold py; rw [y, f2.2.1]; omega
  · have x : dx (4 * m + 3) = 0 := by unfold dx; rw [if_neg (by omega), if_neg (by omega)]
    have y : dy (4 * m + 3) = -1 := by unfold dy; rw [if_neg (by omega), if_pos (by omega)]
    refine .inr (.inr (.inr ⟨by rw [h1, f3.2.2], by omega, by omega, ?_, ?_, x, y⟩))
    · unfold px; rw [x, f3.1]; omega
    · unfold py; rw [y, f3.2.1]; omega

def mag (x : Int) : Int := if x < 0 then -x else x
def far (x y : Int) : Int := max (mag x) (mag y)
/-- the number of a cell -/
def place (x y : Int) : Int :=
  let k := far x y
  let first := (2 * k - 1) * (2 * k - 1)
  if k = 0 then 0
  else if x = k ∧ y > -k then first + y + k - 1
  else if y = k then first + 3 * k - 1 - x
  else if x = -k then first + 5 * k - 1 - y
  else first + 7 * k - 1 + x

theorem sq1 (m : Int) : (2 * (m + 1) - 1) * (2 * (m + 1) - 1) = 4 * (m * m) + 4 * m + 1 := by
  have : 2 * (m + 1) - 1 = 2 * m + 1 := by omega
  rw [this, Int.add_mul, Int.mul_add]
  have : 2 * m * (2 * m) = 4 * (m * m) := by
    rw [Int.mul_assoc, Int.mul_left_comm m 2 m, ← Int.mul_assoc]; rfl
  omega
theorem sq2 (m : Int) : (2 * m - 1) * (2 * m - 1) = 4 * (m * m) - 4 * m + 1 := by
  rw [Int.sub_mul, Int.mul_sub]
  have : 2 * m * (2 * m) = 4 * (m * m) := by
    rw [Int.mul_assoc, Int.mul_left_comm m 2 m, ← Int.mul_assoc]; rfl
  omega
theorem sq3 (m : Int) : (2 * m + 1) * (2 * m + 1) = 4 * (m * m) + 4 * m + 1 := by
  rw [Int.add_mul, Int.mul_add]
  have : 2 * m * (2 * m) = 4 * (m * m) := by
    rw [Int.mul_assoc, Int.mul_left_comm m 2 m, ← Int.mul_assoc]; rfl
  omega

theorem place_seg {n : Int} {j : Nat} {t : Int} (h : Seg n j t) : place (px j t) (py j t) = n := by
  obtain ⟨m, h0, _, ht, h | h | h | h⟩ := seg_cases h <;> obtain ⟨e, h1, h2, ex, ey, _, _⟩ := h <;> rw [ex, ey]
  · by_cases hc : t = 2 * m + 1
    · have hf : far (-m + t) (-m) = m + 1 := by unfold far mag; split <;> split <;> omega
      unfold place
      simp only [hf, sq1]
      rw [if_neg (by omega), if_pos ⟨by omega, by omega⟩]
      omega
    · have hf : far (-m + t) (-m) = m := by unfold far mag; split <;> split <;> omega
      unfold place
      simp only [hf, sq2]
      split
      · have : m = 0 := by assumption
        subst this
        omega
      · rw [if_neg (by omega), if_neg (by omega)]
        split <;> omega
  · have hf : far (m + 1) (-m + t) = m + 1 := by unfold far mag; split <;> split <;> omega
    unfold place
    simp only [hf, sq1]
    rw [if_neg (by omega), if_pos ⟨trivial, by omega⟩]
    omega
  · have hf : far (m + 1 - t) (m + 1) = m + 1 := by unfold far mag; split <;> split <;> omega
    unfold place
    simp only [hf, sq1]
    rw [if_neg (by omega), if_neg (by omega), if_pos trivial]
    omega
  · have hf : far (-(m + 1)) (m + 1 - t) = m + 1 := by unfold far mag; split <;> split <;> omega
    unfold place
    simp only [hf, sq1]
    rw [if_neg (by omega), if_neg (by omega), if_neg (by omega), if_pos trivial]
    omega

theorem ring_seg {n : Int} {j : Nat} {t : Int} (h : Seg n j t) : 0 ≤ far (px j t) (py j t) ∧ far (px j t) (py j t) ≤ n + 2 ∧
    n < (2 * far (px j t) (py j t) + 1) * (2 * far (px j t) (py j t) + 1) ∧ (far (px j t) (py j t) = 0 ∨ (2 * far (px j t) (py j t) - 1) * (2 * far (px j t) (py j t) - 1) ≤ n) := by
  obtain ⟨m, h0, hmn, ht, h | h | h | h⟩ := seg_cases h <;> obtain ⟨e, h1, h2, ex, ey, _, _⟩ := h <;> rw [ex, ey]
  · by_cases hc : t = 2 * m + 1
    · have hf : far (-m + t) (-m) = m + 1 := by unfold far mag; split <;> split <;> omega
      rw [hf, sq1, sq3 (m + 1), mul_sq]
      omega
    · have hf : far (-m + t) (-m) = m := by unfold far mag; split <;> split <;> omega
      rw [hf, sq2, sq3]
      omega
  · have hf : far (m + 1) (-m + t) = m + 1 := by unfold far mag; split <;> split <;> omega
    rw [hf, sq1, sq3 (m + 1), mul_sq]
    omega
  · have hf : far (m + 1 - t) (m + 1) = m + 1 := by unfold far mag; split <;> split <;> omega
    rw [hf, sq1, sq3 (m + 1), mul_sq]
    omega
  · have hf : far (-(m + 1)) (m + 1 - t) = m + 1 := by unfold far mag; split <;> split <;> omega
    rw [hf, sq1, sq3 (m + 1), mul_sq]
    omega

/-- the next cell lies beside it -/
theorem next_seg {n : Int} {j j' : Nat} {t t' : Int} (h : Seg n j t) (h' : Seg (n + 1) j' t') :
    far (px j t - px j' t') (py j t - py j' t') = 1 ∧ (px j t = px j' t' ∨ py j t = py j' t') := by
  have hd : ∀ j, (dx j = 1 ∧ dy j = 0) ∨ (dx j = -1 ∧ dy j = 0) ∨ (dx j = 0 ∧ dy j = 1) ∨ (dx j = 0 ∧ dy j = -1) := by
    intro j
    unfold dx dy
    rcases (by omega : j % 4 = 0 ∨ j % 4 = 1 ∨ j % 4 = 2 ∨ j % 4 = 3) with e | e | e | e <;> rw [e] <;> decide
  have fin : ∀ a b : Int, ((a = 1 ∨ a = -1) ∧ b = 0) ∨ (a = 0 ∧ (b = 1 ∨ b = -1)) → far a b = 1 := by
    intro a b h
    unfold far mag
    split <;> split <;> omega
  rcases h.next with ⟨_, h1⟩ | ⟨e, h1⟩
  · obtain ⟨rfl, rfl⟩ := h1.unique h'
    have e1 : px j (t + 1) = px j t + dx j := by unfold px; rw [Int.mul_add]; omega
    have e2 : py j (t + 1) = py j t + dy j := by unfold py; rw [Int.mul_add]; omega
    rw [e1, e2]
    have := hd j
    exact ⟨fin _ _ (by omega), by omega⟩
  · obtain ⟨rfl, rfl⟩ := h1.unique h'
    have e1 : px (j + 1) 1 = px j t + dx (j + 1) := by unfold px; rw [e]; simp only [cx]; omega
    have e2 : py (j + 1) 1 = py j t + dy (j + 1) := by unfold py; rw [e]; simp only [cy]; omega
    rw [e1, e2]
    have := hd (j + 1)
    exact ⟨fin _ _ (by omega), by omega⟩

theorem turn_xy (j : Nat) : dx (j + 1) = -dy j ∧ dy (j + 1) = dx j := by
  unfold dx dy
  rcases (by omega : j % 4 = 0 ∨ j % 4 = 1 ∨ j % 4 = 2 ∨ j % 4 = 3) with e | e | e | e
  · have : (j + 1) % 4 = 1 := by omega
    rw [e, this]; decide
  · have : (j + 1) % 4 = 2 := by omega
    rw [e, this]; decide
  · have : (j + 1) % 4 = 3 := by omega
    rw [e, this]; decide
  · have : (j + 1) % 4 = 0 := by omega
    rw [e, this]; decide

theorem unit_xy (j : Nat) : (dx j = 1 ∧ dy j = 0) ∨ (dx j = -1 ∧ dy j = 0) ∨ (dx j = 0 ∧ dy j = 1) ∨ (dx j = 0 ∧ dy j = -1) := by
  unfold dx dy
  rcases (by omega : j % 4 = 0 ∨ j % 4 = 1 ∨ j % 4 = 2 ∨ j % 4 = 3) with e | e | e | e <;> rw [e] <;> decide

theorem c_bound (j : Nat) : (-((j : Int) + 1) ≤ cx j ∧ cx j ≤ (j : Int) + 1) ∧ (-((j : Int) + 1) ≤ cy j ∧ cy j ≤ (j : Int) + 1) := by
  obtain ⟨m, d, hd, rfl⟩ : ∃ m d : Nat, d < 4 ∧ j = 4 * m + d := ⟨j / 4, j % 4, by omega, by omega⟩
  obtain ⟨f0, f1, f2, f3⟩ := four m
  rcases (by omega : d = 0 ∨ d = 1 ∨ d = 2 ∨ d = 3) with rfl | rfl | rfl | rfl
  · simp only [Nat.add_zero]; rw [f0.1, f0.2.1]; omega
  · rw [f1.1, f1.2.1]; omega
  · rw [f2.1, f2.2.1]; omega
  · rw [f3.1, f3.2.1]; omega

theorem dmul (j : Nat) (k : Int) (h : 0 ≤ k) : (-k ≤ dx j * k ∧ dx j * k ≤ k) ∧ (-k ≤ dy j * k ∧ dy j * k ≤ k) := by
  rcases unit_xy j with ⟨h1, h2⟩ | ⟨h1, h2⟩ | ⟨h1, h2⟩ | ⟨h1, h2⟩ <;> rw [h1, h2] <;> omega

theorem small_seg {n : Int} {j : Nat} {t : Int} (h : Seg n j t) (hn : n ≤ 1000001) : far (px j t) (py j t) ≤ 501 ∧ (-501 ≤ px j t ∧ px j t ≤ 501) ∧ (-501 ≤ py j t ∧ py j t ≤ 501) := by
  obtain ⟨f0, _, _, f3⟩ := ring_seg h
  have hm : px j t ≤ far (px j t) (py j t) ∧ -px j t ≤ far (px j t) (py j t) ∧ py j t ≤ far (px j t) (py j t) ∧ -py j t ≤ far (px j t) (py j t) := by
    unfold far mag; split <;> split <;> omega
  generalize far (px j t) (py j t) = k at *
  have hk : k ≤ 501 := by
    rcases f3 with f3 | f3
    · omega
    · rcases Int.lt_or_le k 502 with h | h
      · omega
      · have h1 : 1003 * 1003 ≤ (2 * k - 1) * (2 * k - 1) := by
          calc (1003 : Int) * 1003 ≤ (2 * k - 1) * 1003 := Int.mul_le_mul_of_nonneg_right (by omega) (by decide)
            _ ≤ (2 * k - 1) * (2 * k - 1) := Int.mul_le_mul_of_nonneg_left (by omega) (by omega)
        omega
  omega
end Go.Lat
