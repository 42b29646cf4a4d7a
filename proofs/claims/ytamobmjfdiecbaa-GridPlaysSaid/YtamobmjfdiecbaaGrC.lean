/- GrC: in which cells points lie, and which boxes touch: what package grid tells, as contracts over whole numbers. Conditions: those of each theorem, on its arguments. -/
import Derived.Test.YtamobmjfdiecbaaBo
import Derived.Test.YtamobmjfdiecbaaLt
import Derived.Test.YtamobmjfdiecbaaFb
namespace Go.Proofs.Ytamobmjfdiecbaa
open Go Go.Sx Go.Fp
attribute [local irreducible] jn lv ld st nw asI asB asP asS asY asM asF asA asT lp rn ru rq cl dw dr bnd bn2 nz nn hd hr so eqW

/-- Go's quotient, and the one that is rounded down -/
theorem floor_div {n s : Int} (hs : 1 ≤ s) : n / s = if n.tmod s < 0 then n.tdiv s - 1 else n.tdiv s := by
  have h1 := Int.mul_tdiv_add_tmod n s
  have h2 : n.tmod s < s := Int.tmod_lt_of_pos n (by omega)
  have h3 : -s < n.tmod s := Int.lt_tmod_of_pos n (by omega)
  have h4 := Int.mul_ediv_add_emod n s
  have h5 := Int.emod_nonneg n (show s ≠ 0 by omega)
  have h6 := Int.emod_lt_of_pos n (show 0 < s by omega)
  generalize n.tdiv s = t at *
  generalize n / s = d at *
  generalize n.tmod s = m at *
  generalize n % s = r at *
  have hd : s * (d - t) = m - r := by rw [Int.mul_sub]; omega
  split
  · rcases Int.lt_or_le (d - t) (-1) with h | h
    · have : s * (d - t) ≤ s * -2 := Int.mul_le_mul_of_nonneg_left (by omega) (by omega)
      omega
    · rcases Int.lt_or_le (d - t) 0 with h' | h'
      · omega
      · have : s * 0 ≤ s * (d - t) := Int.mul_le_mul_of_nonneg_left (by omega) (by omega)
        omega
  · rcases Int.lt_or_le (d - t) 0 with h | h
    · have : s * (d - t) ≤ s * -1 := Int.mul_le_mul_of_nonneg_left (by omega) (by omega)
      omega
    · rcases Int.lt_or_le 0 (d - t) with h' | h'
      · have : s * 1 ≤ s * (d - t) := Int.mul_le_mul_of_nonneg_left (by omega) (by omega)
        omega
      · omega

theorem div_bound {n s : Int} (hs : 1 ≤ s) : (0 ≤ n → 0 ≤ n / s ∧ n / s ≤ n) ∧ (n < 0 → n ≤ n / s ∧ n / s < 0) := by
  have h4 := Int.mul_ediv_add_emod n s
  have h5 := Int.emod_nonneg n (show s ≠ 0 by omega)
  have h6 := Int.emod_lt_of_pos n (show 0 < s by omega)
  generalize n / s = d at *
  generalize n % s = r at *
  constructor
  · intro hn
    have h0 : 0 ≤ d := by
      rcases Int.lt_or_le d 0 with h | h
      · have : s * d ≤ s * -1 := Int.mul_le_mul_of_nonneg_left (by omega) (by omega)
        omega
      · exact h
    have : 1 * d ≤ s * d := Int.mul_le_mul_of_nonneg_right hs h0
    omega
  · intro hn
    have h0 : d < 0 := by
      rcases Int.lt_or_le d 0 with h | h
      · exact h
      · have : s * 0 ≤ s * d := Int.mul_le_mul_of_nonneg_left (by omega) (by omega)
        omega
    have h7 : s * (d + 1) ≤ 1 * (d + 1) := by
      have : (s - 1) * (d + 1) ≤ 0 := Int.mul_nonpos_of_nonneg_of_nonpos (by omega) (by omega)
      have e : (s - 1) * (d + 1) = s * (d + 1) - 1 * (d + 1) := Int.sub_mul _ _ _
      omega
    rw [Int.mul_add] at h7
    omega

theorem floor_k {n s : Int} (hn : -9223372036854775808 ≤ n ∧ n ≤ 9223372036854775807) (hs : 1 ≤ s) {w : World} {K : Value → World → Prop} (hK : K (.float .f64 (F (n / s))) w) : cl Try.prog 69 #[.int .i64 n, .int .i64 s] w K := by
  have hb := div_bound (n := n) hs
  have hf := floor_div (n := n) hs
  have hsg : 0 ≤ n → 0 ≤ n.tmod s := fun h => Int.tmod_nonneg s h
  have ht : -9223372036854775808 ≤ n.tdiv s ∧ n.tdiv s ≤ 9223372036854775807 ∧ (n.tmod s < 0 → -9223372036854775807 ≤ n.tdiv s) := by
    split at hf
    · omega
    · omega
  apply F69_calls
  unfold F69
  refine nz_mk (by omega) (lv_i (jn_mk (nz_mk (by omega) ?_)))
  rw [wr64 (n := n.tdiv s) (by omega) (by omega)]
  refine cond_split (fun h => ?_) (fun h => ?_)
  · have h' : n.tmod s < 0 := of_decide_eq_true h
    rw [if_pos h'] at hf
    have := ht.2.2 h'
    rw [wr64 (by omega) (by omega), ← hf]
    exact lv_i (asI_i rfl hK)
  · have h' : ¬ n.tmod s < 0 := of_decide_eq_false h
    rw [if_neg h'] at hf
    rw [← hf]
    exact asI_i rfl hK

theorem gcell_k {s x y : Int} (hx : -9223372036854775808 ≤ x ∧ x ≤ 9223372036854775807) (hy : -9223372036854775808 ≤ y ∧ y ≤ 9223372036854775807) (hs : 1 ≤ s) {w : World} {K : Value → World → Prop}
    (hK : K (.complex .f64 (F (x / s)) (F (y / s))) w) : cl Try.prog 45 #[.int .i64 s, .int .i64 x, .int .i64 y] w K := by
  apply F45_calls
  unfold F45
  exact floor_k hx hs (asF_i rfl (floor_k hy hs (asF_i rfl hK)))

theorem wholeF_k {q : Int} (hq : q.natAbs < 18446744073709551616) {w : World} {K : Value → World → Prop} (hK : K (.bool (decide (mag q ≤ 1048576))) w) : cl Try.prog 70 #[.float .f64 (F q)] w K := by
  by_cases hb : q.natAbs < 2 ^ 53
  · exact wholeN_k (N_F hb) hK
  · have hb' : 9007199254740992 ≤ q.natAbs := by
      have : (2 : Nat) ^ 53 = 9007199254740992 := by decide
      omega
    obtain ⟨r, m, place, h1, h2, h3, h4, h5⟩ := big_F hb' hq
    have hF : F q = r ∨ F q = 9223372036854775808 + r := by
      rw [h1]
      unfold Ieee.Format.word
      have hs : Ieee.double.signWeight = 9223372036854775808 := rfl
      rw [hs]
      split
      · exact .inr rfl
      · exact .inl rfl
    have hw : F q < 18446744073709551616 ∧ F q % 9223372036854775808 = r := by omega
    have hno : ¬ mag q ≤ 1048576 := by
      unfold mag
      split <;> omega
    rw [decide_eq_false hno] at hK
    apply F70_calls
    unfold F70
    refine jn_mk (abs_k hw.1 (asF_i rfl ?_))
    rw [hw.2]
    have ho : (FloatKind.format .f64).order r 4697254411347427328 = some .gt := big_order h3 h4
    rw [ho]
    exact cond_f rfl (asB_i rfl hK)

theorem cellF_k {a b : Int} (ha : a.natAbs < 18446744073709551616) (hb : b.natAbs < 18446744073709551616) {w : World} {K : Value → World → Prop} (hK : K (.bool (isCell a b)) w) : cl Try.prog 46 #[.complex .f64 (F a) (F b)] w K := by
  apply F46_calls
  unfold F46
  refine jn_mk (wholeF_k ha (asB_i rfl (cond_split (fun h => wholeF_k hb (asB_i rfl (asB_i rfl ?_))) (fun h => asB_i rfl ?_))))
  · simpa [isCell, h] using hK
  · simpa [isCell, h] using hK

theorem isCell_iff {a b : Int} : isCell a b = true ↔ (-1048576 ≤ a ∧ a ≤ 1048576) ∧ (-1048576 ≤ b ∧ b ≤ 1048576) := by
  unfold isCell mag
  simp only [Bool.and_eq_true, decide_eq_true_eq]
  split <;> split <;> omega

def sideOk (s : Int) : Bool := decide (1 ≤ s) && decide (s ≤ 1099511627776)
theorem side_k {s : Int} {w : World} {K : Value → World → Prop} (hK : K (.bool (sideOk s)) w) : cl Try.prog 44 #[.int .i64 s] w K := by
  apply F44_calls
  unfold F44
  refine jn_mk (cond_split (fun h => asB_i rfl ?_) (fun h => asB_i rfl ?_))
  · simpa [sideOk, h] using hK
  · simpa [sideOk, h] using hK

/-- the cells of a row, and of rows, told by their numbers -/
def rowC (x y : Int) (n : Nat) : List (Int × Int) := (List.range n).map fun (i : Nat) => (x + (i : Int), y)
def rowsC (x y : Int) (wide tall : Nat) : List (Int × Int) := (List.range tall).flatMap fun (j : Nat) => rowC x (y + (j : Int)) wide
theorem rowC_length (x y : Int) (n : Nat) : (rowC x y n).length = n := by simp [rowC]
theorem rowC_succ (x y : Int) (n : Nat) : rowC x y (n + 1) = rowC x y n ++ [(x + (n : Int), y)] := by simp [rowC, List.range_succ]
theorem rowsC_succ (x y : Int) (n t : Nat) : rowsC x y n (t + 1) = rowsC x y n t ++ rowC x (y + (t : Int)) n := by simp [rowsC, List.range_succ]
theorem rowsC_length (x y : Int) (n : Nat) : ∀ t, (rowsC x y n t).length = t * n
  | 0 => by simp [rowsC]
  | t + 1 => by rw [rowsC_succ, List.length_append, rowsC_length x y n t, rowC_length, Nat.add_mul, Nat.one_mul]
structure Span where
  lx : Int
  ly : Int
  hx : Int
  hy : Int
def spanOf (s : Int) (b : Bx) : Span := ⟨(b.x - b.r) / s, (b.y - b.r) / s, (b.x + b.r - 1) / s, (b.y + b.r - 1) / s⟩
def Span.ok (p : Span) : Bool := isCell p.lx p.ly && isCell p.hx p.hy
def Span.wide (p : Span) : Int := p.hx - p.lx + 1
def Span.tall (p : Span) : Int := p.hy - p.ly + 1
def cellsE (s : Int) (b : Bx) : Int :=
  if sideOk s = true then if b.right = true then if (spanOf s b).ok = true then if (spanOf s b).wide * (spanOf s b).tall > 1024 then 2 else 0 else 40 else 60 else 1
def cellsL' (s : Int) (b : Bx) : List (Int × Int) := if cellsE s b = 0 then rowsC (spanOf s b).lx (spanOf s b).ly (spanOf s b).wide.toNat (spanOf s b).tall.toNat else []
def cv (p : Int × Int) : Value := .complex .f64 (F p.1) (F p.2)

set_option maxRecDepth 100000 in
theorem sC : SlT Try.prog 52 49 (.complex .f64 0 0) 16 := ⟨rfl, ⟨_, rfl, rfl, rfl, rfl⟩, rfl⟩

theorem span_le {s : Int} {b : Bx} (hs : 1 ≤ s) (hb : b.right = true) : (spanOf s b).lx ≤ (spanOf s b).hx ∧ (spanOf s b).ly ≤ (spanOf s b).hy := by
  have h := right_iff.1 hb
  unfold spanOf
  exact ⟨Int.ediv_le_ediv (by omega) (by omega), Int.ediv_le_ediv (by omega) (by omega)⟩

theorem F_add {a b : Int} {K : Nat → Prop} (ha : a.natAbs < 2 ^ 52) (hb : b.natAbs < 2 ^ 52) (hK : K (F (a + b))) : so ((FloatKind.format .f64).add (F a) (F b)) K :=
  so_i (add_F (by omega) (by omega) (by omega)) hK
theorem F_sub {a b : Int} {K : Nat → Prop} (ha : a.natAbs < 2 ^ 52) (hb : b.natAbs < 2 ^ 52) (hK : K (F (a - b))) : so ((FloatKind.format .f64).sub (F a) (F b)) K :=
  so_i (sub_F (by omega) (by omega) (by omega)) hK
theorem f2i_F {n : Int} (h : n.natAbs < 2 ^ 53) {K : Int → Prop} (hK : K n) : f2i .f64 (F n) .i64 K := by
  have e1 : IntKind.min .i64 = -9223372036854775808 := by decide
  have e2 : IntKind.max .i64 = 9223372036854775807 := by decide
  have e3 : (2 : Nat) ^ 53 = 9007199254740992 := by decide
  exact ⟨n, toInt_F h, by omega, by omega, hK⟩
theorem F_one : F 1 = 4607182418800017408 := by decide

theorem cells_k {s : Int} {b : Bx} {w : World} {K : Value → World → Prop}
    (hK : ∀ p c w', Ext no w w' → Row w' w.heap.size 49 p c ((cellsL' s b).map cv) → K (.tuple #[.slice p (cellsL' s b).length c, .int .i64 (cellsE s b)]) w') :
    cl Try.prog 24 #[.int .i64 s, b.v] w K := by
  have bad : ∀ e, cellsE s b = e → e ≠ 0 → ∀ w', Ext no w w' → K (.tuple #[.slice none 0 0, .int .i64 e]) w' := by
    intro e he h0 w' hx
    have hl : cellsL' s b = [] := by unfold cellsL'; rw [if_neg (by rw [he]; exact h0)]
    have := hK none 0 w' hx (by rw [hl]; exact Row.nil _ _ _)
    rw [hl, he] at this
    exact this
  apply F24_calls
  unfold F24
  have hS := St.start w
  repeat (first | (refine asI_i rfl ?_) | (refine asB_i rfl ?_) | (refine asP_i rfl ?_) | (refine asS_i rfl ?_) | (refine asY_i rfl ?_) | (refine asM_i rfl ?_) | (refine asA_i rfl rfl ?_) | (refine asT_i rfl rfl ?_) | (refine lv_i ?_) | (refine St.nw hS ?_; clear hS; intro _ _ hS) | (refine St.dw hS ?_; clear hS; intro _ hS _) | (refine hS.ld0 0 rfl rfl ?_) | (refine hS.ld 0 rfl rfl ?_) | (refine hS.ld0 1 rfl rfl ?_) | (refine hS.ld 1 rfl rfl ?_) | (refine hS.ld0 2 rfl rfl ?_) | (refine hS.ld 2 rfl rfl ?_) | (refine hS.ld0 3 rfl rfl ?_) | (refine hS.ld 3 rfl rfl ?_) | (refine hS.ld0 4 rfl rfl ?_) | (refine hS.ld 4 rfl rfl ?_) | (refine hS.ld0 5 rfl rfl ?_) | (refine hS.ld 5 rfl rfl ?_) | (refine hS.ld0 6 rfl rfl ?_) | (refine hS.ld 6 rfl rfl ?_) | (refine hS.ld0 7 rfl rfl ?_) | (refine hS.ld 7 rfl rfl ?_) | (refine hS.hd0 0 rfl rfl ?_) | (refine hS.hd 0 rfl rfl ?_) | (refine hS.hd0 1 rfl rfl ?_) | (refine hS.hd 1 rfl rfl ?_) | (refine hS.hd0 2 rfl rfl ?_) | (refine hS.hd 2 rfl rfl ?_) | (refine hS.hd0 3 rfl rfl ?_) | (refine hS.hd 3 rfl rfl ?_) | (refine hS.hd0 4 rfl rfl ?_) | (refine hS.hd 4 rfl rfl ?_) | (refine hS.hd0 5 rfl rfl ?_) | (refine hS.hd 5 rfl rfl ?_) | (refine hS.hd0 6 rfl rfl ?_) | (refine hS.hd 6 rfl rfl ?_) | (refine hS.hd0 7 rfl rfl ?_) | (refine hS.hd 7 rfl rfl ?_) | (refine hS.st0 0 rfl rfl rfl ?_; clear hS; intro _ hS) | (refine hS.st 0 rfl rfl rfl ?_; clear hS; intro _ hS) | (refine hS.st0 1 rfl rfl rfl ?_; clear hS; intro _ hS) | (refine hS.st 1 rfl rfl rfl ?_; clear hS; intro _ hS) | (refine hS.st0 2 rfl rfl rfl ?_; clear hS; intro _ hS) | (refine hS.st 2 rfl rfl rfl ?_; clear hS; intro _ hS) | (refine hS.st0 3 rfl rfl rfl ?_; clear hS; intro _ hS) | (refine hS.st 3 rfl rfl rfl ?_; clear hS; intro _ hS) | (refine hS.st0 4 rfl rfl rfl ?_; clear hS; intro _ hS) | (refine hS.st 4 rfl rfl rfl ?_; clear hS; intro _ hS) | (refine hS.st0 5 rfl rfl rfl ?_; clear hS; intro _ hS) | (refine hS.st 5 rfl rfl rfl ?_; clear hS; intro _ hS) | (refine hS.st0 6 rfl rfl rfl ?_; clear hS; intro _ hS) | (refine hS.st 6 rfl rfl rfl ?_; clear hS; intro _ hS) | (refine hS.st0 7 rfl rfl rfl ?_; clear hS; intro _ hS) | (refine hS.st 7 rfl rfl rfl ?_; clear hS; intro _ hS) | (refine bnd_mk (by decide) (by decide) ?_) | (refine so_i rfl ?_))
  refine side_k ?_
  repeat (first | (refine asI_i rfl ?_) | (refine asB_i rfl ?_) | (refine asP_i rfl ?_) | (refine asS_i rfl ?_) | (refine asY_i rfl ?_) | (refine asM_i rfl ?_) | (refine asA_i rfl rfl ?_) | (refine asT_i rfl rfl ?_) | (refine lv_i ?_))
  refine cond_split (fun h => ?_) (fun h => ?_)
  · refine lv_i (bad 1 ?_ (by decide) _ hS.ext)
    unfold cellsE
    rw [if_neg (by simpa using h)]
  have hs : sideOk s = true := by simpa using h
  have hs1 : 1 ≤ s ∧ s ≤ 1099511627776 := by simpa [sideOk] using hs
  repeat (first | (refine right_k (b := b) ?_; intro _ x; replace hS := hS.to x; clear x) | (refine asI_i rfl ?_) | (refine asB_i rfl ?_) | (refine asP_i rfl ?_) | (refine asS_i rfl ?_) | (refine asY_i rfl ?_) | (refine asM_i rfl ?_) | (refine asA_i rfl rfl ?_) | (refine asT_i rfl rfl ?_) | (refine lv_i ?_) | (refine St.nw hS ?_; clear hS; intro _ _ hS) | (refine St.dw hS ?_; clear hS; intro _ hS _) | (refine hS.ld0 0 rfl rfl ?_) | (refine hS.ld 0 rfl rfl ?_) | (refine hS.ld0 1 rfl rfl ?_) | (refine hS.ld 1 rfl rfl ?_) | (refine hS.ld0 2 rfl rfl ?_) | (refine hS.ld 2 rfl rfl ?_) | (refine hS.ld0 3 rfl rfl ?_) | (refine hS.ld 3 rfl rfl ?_) | (refine hS.ld0 4 rfl rfl ?_) | (refine hS.ld 4 rfl rfl ?_) | (refine hS.ld0 5 rfl rfl ?_) | (refine hS.ld 5 rfl rfl ?_) | (refine hS.ld0 6 rfl rfl ?_) | (refine hS.ld 6 rfl rfl ?_) | (refine hS.ld0 7 rfl rfl ?_) | (refine hS.ld 7 rfl rfl ?_) | (refine hS.hd0 0 rfl rfl ?_) | (refine hS.hd 0 rfl rfl ?_) | (refine hS.hd0 1 rfl rfl ?_) | (refine hS.hd 1 rfl rfl ?_) | (refine hS.hd0 2 rfl rfl ?_) | (refine hS.hd 2 rfl rfl ?_) | (refine hS.hd0 3 rfl rfl ?_) | (refine hS.hd 3 rfl rfl ?_) | (refine hS.hd0 4 rfl rfl ?_) | (refine hS.hd 4 rfl rfl ?_) | (refine hS.hd0 5 rfl rfl ?_) | (refine hS.hd 5 rfl rfl ?_) | (refine hS.hd0 6 rfl rfl ?_) | (refine hS.hd 6 rfl rfl ?_) | (refine hS.hd0 7 rfl rfl ?_) | (refine hS.hd 7 rfl rfl ?_) | (refine hS.st0 0 rfl rfl rfl ?_; clear hS; intro _ hS) | (refine hS.st 0 rfl rfl rfl ?_; clear hS; intro _ hS) | (refine hS.st0 1 rfl rfl rfl ?_; clear hS; intro _ hS) | (refine hS.st 1 rfl rfl rfl ?_; clear hS; intro _ hS) | (refine hS.st0 2 rfl rfl rfl ?_; clear hS; intro _ hS) | (refine hS.st 2 rfl rfl rfl ?_; clear hS; intro _ hS) | (refine hS.st0 3 rfl rfl rfl ?_; clear hS; intro _ hS) | (refine hS.st 3 rfl rfl rfl ?_; clear hS; intro _ hS) | (refine hS.st0 4 rfl rfl rfl ?_; clear hS; intro _ hS) | (refine hS.st 4 rfl rfl rfl ?_; clear hS; intro _ hS) | (refine hS.st0 5 rfl rfl rfl ?_; clear hS; intro _ hS) | (refine hS.st 5 rfl rfl rfl ?_; clear hS; intro _ hS) | (refine hS.st0 6 rfl rfl rfl ?_; clear hS; intro _ hS) | (refine hS.st 6 rfl rfl rfl ?_; clear hS; intro _ hS) | (refine hS.st0 7 rfl rfl rfl ?_; clear hS; intro _ hS) | (refine hS.st 7 rfl rfl rfl ?_; clear hS; intro _ hS) | (refine bnd_mk (by decide) (by decide) ?_) | (refine so_i rfl ?_))
  refine cond_split (fun h => ?_) (fun h => ?_)
  · refine lv_i (bad 60 ?_ (by decide) _ hS.ext)
    unfold cellsE
    have hr : ¬ b.right = true := by
      intro hr
      unfold Bx.rightE at h
      rw [if_pos hr] at h
      simp at h
    rw [if_pos hs, if_neg hr]
  have hr : b.right = true := by
    unfold Bx.rightE at h
    by_cases hr : b.right = true
    · exact hr
    · rw [if_neg hr] at h; simp at h
  have hb := right_iff.1 hr
  repeat (first | (refine asI_i rfl ?_) | (refine asB_i rfl ?_) | (refine asP_i rfl ?_) | (refine asS_i rfl ?_) | (refine asY_i rfl ?_) | (refine asM_i rfl ?_) | (refine asA_i rfl rfl ?_) | (refine asT_i rfl rfl ?_) | (refine lv_i ?_) | (refine St.nw hS ?_; clear hS; intro _ _ hS) | (refine St.dw hS ?_; clear hS; intro _ hS _) | (refine hS.ld0 0 rfl rfl ?_) | (refine hS.ld 0 rfl rfl ?_) | (refine hS.ld0 1 rfl rfl ?_) | (refine hS.ld 1 rfl rfl ?_) | (refine hS.ld0 2 rfl rfl ?_) | (refine hS.ld 2 rfl rfl ?_) | (refine hS.ld0 3 rfl rfl ?_) | (refine hS.ld 3 rfl rfl ?_) | (refine hS.ld0 4 rfl rfl ?_) | (refine hS.ld 4 rfl rfl ?_) | (refine hS.ld0 5 rfl rfl ?_) | (refine hS.ld 5 rfl rfl ?_) | (refine hS.ld0 6 rfl rfl ?_) | (refine hS.ld 6 rfl rfl ?_) | (refine hS.ld0 7 rfl rfl ?_) | (refine hS.ld 7 rfl rfl ?_) | (refine hS.hd0 0 rfl rfl ?_) | (refine hS.hd 0 rfl rfl ?_) | (refine hS.hd0 1 rfl rfl ?_) | (refine hS.hd 1 rfl rfl ?_) | (refine hS.hd0 2 rfl rfl ?_) | (refine hS.hd 2 rfl rfl ?_) | (refine hS.hd0 3 rfl rfl ?_) | (refine hS.hd 3 rfl rfl ?_) | (refine hS.hd0 4 rfl rfl ?_) | (refine hS.hd 4 rfl rfl ?_) | (refine hS.hd0 5 rfl rfl ?_) | (refine hS.hd 5 rfl rfl ?_) | (refine hS.hd0 6 rfl rfl ?_) | (refine hS.hd 6 rfl rfl ?_) | (refine hS.hd0 7 rfl rfl ?_) | (refine hS.hd 7 rfl rfl ?_) | (refine hS.st0 0 rfl rfl rfl ?_; clear hS; intro _ hS) | (refine hS.st 0 rfl rfl rfl ?_; clear hS; intro _ hS) | (refine hS.st0 1 rfl rfl rfl ?_; clear hS; intro _ hS) | (refine hS.st 1 rfl rfl rfl ?_; clear hS; intro _ hS) | (refine hS.st0 2 rfl rfl rfl ?_; clear hS; intro _ hS) | (refine hS.st 2 rfl rfl rfl ?_; clear hS; intro _ hS) | (refine hS.st0 3 rfl rfl rfl ?_; clear hS; intro _ hS) | (refine hS.st 3 rfl rfl rfl ?_; clear hS; intro _ hS) | (refine hS.st0 4 rfl rfl rfl ?_; clear hS; intro _ hS) | (refine hS.st 4 rfl rfl rfl ?_; clear hS; intro _ hS) | (refine hS.st0 5 rfl rfl rfl ?_; clear hS; intro _ hS) | (refine hS.st 5 rfl rfl rfl ?_; clear hS; intro _ hS) | (refine hS.st0 6 rfl rfl rfl ?_; clear hS; intro _ hS) | (refine hS.st 6 rfl rfl rfl ?_; clear hS; intro _ hS) | (refine hS.st0 7 rfl rfl rfl ?_; clear hS; intro _ hS) | (refine hS.st 7 rfl rfl rfl ?_; clear hS; intro _ hS) | (refine bnd_mk (by decide) (by decide) ?_) | (refine so_i rfl ?_))
  have e1 : IntKind.wrap .i64 (b.x - b.r) = b.x - b.r := wr64 (by omega) (by omega)
  have e2 : IntKind.wrap .i64 (b.y - b.r) = b.y - b.r := wr64 (by omega) (by omega)
  have e3 : IntKind.wrap .i64 (IntKind.wrap .i64 (b.x + b.r) - 1) = b.x + b.r - 1 := by rw [wr64 (n := b.x + b.r) (by omega) (by omega), wr64 (by omega) (by omega)]
  have e4 : IntKind.wrap .i64 (IntKind.wrap .i64 (b.y + b.r) - 1) = b.y + b.r - 1 := by rw [wr64 (n := b.y + b.r) (by omega) (by omega), wr64 (by omega) (by omega)]
  rw [e1, e2]
  refine gcell_k (by omega) (by omega) hs1.1 (asC_i rfl ?_)
  repeat (first | (refine asI_i rfl ?_) | (refine asB_i rfl ?_) | (refine asP_i rfl ?_) | (refine asS_i rfl ?_) | (refine asY_i rfl ?_) | (refine asM_i rfl ?_) | (refine asA_i rfl rfl ?_) | (refine asT_i rfl rfl ?_) | (refine lv_i ?_) | (refine St.nw hS ?_; clear hS; intro _ _ hS) | (refine St.dw hS ?_; clear hS; intro _ hS _) | (refine hS.ld0 0 rfl rfl ?_) | (refine hS.ld 0 rfl rfl ?_) | (refine hS.ld0 1 rfl rfl ?_) | (refine hS.ld 1 rfl rfl ?_) | (refine hS.ld0 2 rfl rfl ?_) | (refine hS.ld 2 rfl rfl ?_) | (refine hS.ld0 3 rfl rfl ?_) | (refine hS.ld 3 rfl rfl ?_) | (refine hS.ld0 4 rfl rfl ?_) | (refine hS.ld 4 rfl rfl ?_) | (refine hS.ld0 5 rfl rfl ?_) | (refine hS.ld 5 rfl rfl ?_) | (refine hS.ld0 6 rfl rfl ?_) | (refine hS.ld 6 rfl rfl ?_) | (refine hS.ld0 7 rfl rfl ?_) | (refine hS.ld 7 rfl rfl ?_) | (refine hS.hd0 0 rfl rfl ?_) | (refine hS.hd 0 rfl rfl ?_) | (refine hS.hd0 1 rfl rfl ?_) | (refine hS.hd 1 rfl rfl ?_) | (refine hS.hd0 2 rfl rfl ?_) | (refine hS.hd 2 rfl rfl ?_) | (refine hS.hd0 3 rfl rfl ?_) | (refine hS.hd 3 rfl rfl ?_) | (refine hS.hd0 4 rfl rfl ?_) | (refine hS.hd 4 rfl rfl ?_) | (refine hS.hd0 5 rfl rfl ?_) | (refine hS.hd 5 rfl rfl ?_) | (refine hS.hd0 6 rfl rfl ?_) | (refine hS.hd 6 rfl rfl ?_) | (refine hS.hd0 7 rfl rfl ?_) | (refine hS.hd 7 rfl rfl ?_) | (refine hS.st0 0 rfl rfl rfl ?_; clear hS; intro _ hS) | (refine hS.st 0 rfl rfl rfl ?_; clear hS; intro _ hS) | (refine hS.st0 1 rfl rfl rfl ?_; clear hS; intro _ hS) | (refine hS.st 1 rfl rfl rfl ?_; clear hS; intro _ hS) | (refine hS.st0 2 rfl rfl rfl ?_; clear hS; intro _ hS) | (refine hS.st 2 rfl rfl rfl ?_; clear hS; intro _ hS) | (refine hS.st0 3 rfl rfl rfl ?_; clear hS; intro _ hS) | (refine hS.st 3 rfl rfl rfl ?_; clear hS; intro _ hS) | (refine hS.st0 4 rfl rfl rfl ?_; clear hS; intro _ hS) | (refine hS.st 4 rfl rfl rfl ?_; clear hS; intro _ hS) | (refine hS.st0 5 rfl rfl rfl ?_; clear hS; intro _ hS) | (refine hS.st 5 rfl rfl rfl ?_; clear hS; intro _ hS) | (refine hS.st0 6 rfl rfl rfl ?_; clear hS; intro _ hS) | (refine hS.st 6 rfl rfl rfl ?_; clear hS; intro _ hS) | (refine hS.st0 7 rfl rfl rfl ?_; clear hS; intro _ hS) | (refine hS.st 7 rfl rfl rfl ?_; clear hS; intro _ hS) | (refine bnd_mk (by decide) (by decide) ?_) | (refine so_i rfl ?_))
  rw [e3, e4]
  refine gcell_k (by omega) (by omega) hs1.1 (asC_i rfl ?_)
  repeat (first | (refine asI_i rfl ?_) | (refine asB_i rfl ?_) | (refine asP_i rfl ?_) | (refine asS_i rfl ?_) | (refine asY_i rfl ?_) | (refine asM_i rfl ?_) | (refine asA_i rfl rfl ?_) | (refine asT_i rfl rfl ?_) | (refine lv_i ?_) | (refine St.nw hS ?_; clear hS; intro _ _ hS) | (refine St.dw hS ?_; clear hS; intro _ hS _) | (refine hS.ld0 0 rfl rfl ?_) | (refine hS.ld 0 rfl rfl ?_) | (refine hS.ld0 1 rfl rfl ?_) | (refine hS.ld 1 rfl rfl ?_) | (refine hS.ld0 2 rfl rfl ?_) | (refine hS.ld 2 rfl rfl ?_) | (refine hS.ld0 3 rfl rfl ?_) | (refine hS.ld 3 rfl rfl ?_) | (refine hS.ld0 4 rfl rfl ?_) | (refine hS.ld 4 rfl rfl ?_) | (refine hS.ld0 5 rfl rfl ?_) | (refine hS.ld 5 rfl rfl ?_) | (refine hS.ld0 6 rfl rfl ?_) | (refine hS.ld 6 rfl rfl ?_) | (refine hS.ld0 7 rfl rfl ?_) | (refine hS.ld 7 rfl rfl ?_) | (refine hS.hd0 0 rfl rfl ?_) | (refine hS.hd 0 rfl rfl ?_) | (refine hS.hd0 1 rfl rfl ?_) | (refine hS.hd 1 rfl rfl ?_) | (refine hS.hd0 2 rfl rfl ?_) | (refine hS.hd 2 rfl rfl ?_) | (refine hS.hd0 3 rfl rfl ?_) | (refine hS.hd 3 rfl rfl ?_) | (refine hS.hd0 4 rfl rfl ?_) | (refine hS.hd 4 rfl rfl ?_) | (refine hS.hd0 5 rfl rfl ?_) | (refine hS.hd 5 rfl rfl ?_) | (refine hS.hd0 6 rfl rfl ?_) | (refine hS.hd 6 rfl rfl ?_) | (refine hS.hd0 7 rfl rfl ?_) | (refine hS.hd 7 rfl rfl ?_) | (refine hS.st0 0 rfl rfl rfl ?_; clear hS; intro _ hS) | (refine hS.st 0 rfl rfl rfl ?_; clear hS; intro _ hS) | (refine hS.st0 1 rfl rfl rfl ?_; clear hS; intro _ hS) | (refine hS.st 1 rfl rfl rfl ?_; clear hS; intro _ hS) | (refine hS.st0 2 rfl rfl rfl ?_; clear hS; intro _ hS) | (refine hS.st 2 rfl rfl rfl ?_; clear hS; intro _ hS) | (refine hS.st0 3 rfl rfl rfl ?_; clear hS; intro _ hS) | (refine hS.st 3 rfl rfl rfl ?_; clear hS; intro _ hS) | (refine hS.st0 4 rfl rfl rfl ?_; clear hS; intro _ hS) | (refine hS.st 4 rfl rfl rfl ?_; clear hS; intro _ hS) | (refine hS.st0 5 rfl rfl rfl ?_; clear hS; intro _ hS) | (refine hS.st 5 rfl rfl rfl ?_; clear hS; intro _ hS) | (refine hS.st0 6 rfl rfl rfl ?_; clear hS; intro _ hS) | (refine hS.st 6 rfl rfl rfl ?_; clear hS; intro _ hS) | (refine hS.st0 7 rfl rfl rfl ?_; clear hS; intro _ hS) | (refine hS.st 7 rfl rfl rfl ?_; clear hS; intro _ hS) | (refine bnd_mk (by decide) (by decide) ?_) | (refine so_i rfl ?_))
  have hsp : spanOf s b = ⟨(b.x - b.r) / s, (b.y - b.r) / s, (b.x + b.r - 1) / s, (b.y + b.r - 1) / s⟩ := rfl
  have hle := span_le hs1.1 hr
  have d1 := div_bound (n := b.x - b.r) hs1.1
  have d2 := div_bound (n := b.y - b.r) hs1.1
  have d3 := div_bound (n := b.x + b.r - 1) hs1.1
  have d4 := div_bound (n := b.y + b.r - 1) hs1.1
  have hE : cellsE s b = if (spanOf s b).ok = true then if (spanOf s b).wide * (spanOf s b).tall > 1024 then 2 else 0 else 40 := by
    unfold cellsE
    rw [if_pos hs, if_pos hr]
  unfold cellsL' at hK
  generalize hp : spanOf s b = p at *
  obtain ⟨lx, ly, hx, hy⟩ := p
  simp only [Span.mk.injEq] at hsp
  obtain ⟨rfl, rfl, rfl, rfl⟩ := hsp
  generalize (b.x - b.r) / s = lx at *
  generalize (b.y - b.r) / s = ly at *
  generalize (b.x + b.r - 1) / s = ux at *
  generalize (b.y + b.r - 1) / s = uy at *
  simp only at hle
  have na : lx.natAbs < 18446744073709551616 ∧ ly.natAbs < 18446744073709551616 ∧ ux.natAbs < 18446744073709551616 ∧ uy.natAbs < 18446744073709551616 := by
    refine ⟨?_, ?_, ?_, ?_⟩
    · rcases Int.lt_or_le (b.x - b.r) 0 with h | h
      · have := d1.2 h; omega
      · have := d1.1 h; omega
    · rcases Int.lt_or_le (b.y - b.r) 0 with h | h
      · have := d2.2 h; omega
      · have := d2.1 h; omega
    · rcases Int.lt_or_le (b.x + b.r - 1) 0 with h | h
      · have := d3.2 h; omega
      · have := d3.1 h; omega
    · rcases Int.lt_or_le (b.y + b.r - 1) 0 with h | h
      · have := d4.2 h; omega
      · have := d4.1 h; omega
  clear d1 d2 d3 d4 e1 e2 e3 e4
  refine jn_of (fun t w' => t = [.bool (!(Span.mk lx ly ux uy).ok)] ∧ Ext no w w') ?_ ?_
  · rintro _ w1 ⟨rfl, hx1⟩
    refine asB_i rfl (cond_split (fun h => ?_) (fun h => ?_))
    · refine lv_i (bad 40 ?_ (by decide) _ hx1)
      rw [hE, if_neg (by simpa using h)]
    have hok : (Span.mk lx ly ux uy).ok = true := by simpa using h
    rw [if_pos hok] at hE
    have hc : ((-1048576 ≤ lx ∧ lx ≤ 1048576) ∧ (-1048576 ≤ ly ∧ ly ≤ 1048576)) ∧ ((-1048576 ≤ ux ∧ ux ≤ 1048576) ∧ (-1048576 ≤ uy ∧ uy ≤ 1048576)) := by
      simp only [Span.ok, Bool.and_eq_true, isCell_iff] at hok
      exact hok
    refine F_sub (by omega) (by omega) (F_sub (by omega) (by omega) (f2i_F (by omega) (f2i_F (by omega) (lv_i (lv_i ?_)))))
    have hwd : (Span.mk lx ly ux uy).wide = ux - lx + 1 := rfl
    have htl : (Span.mk lx ly ux uy).tall = uy - ly + 1 := rfl
    rw [wr64 (n := ux - lx + 1) (by omega) (by omega), wr64 (n := uy - ly + 1) (by omega) (by omega)]
    rw [hwd, htl] at hE hK
    generalize hW : ux - lx + 1 = W at *
    generalize hT : uy - ly + 1 = T at *
    have hW1 : 1 ≤ W ∧ W ≤ 2097153 := by omega
    have hT1 : 1 ≤ T ∧ T ≤ 2097153 := by omega
    have hWT : 1 ≤ W * T ∧ W * T ≤ 2097153 * 2097153 := by
      constructor
      · have : 1 * 1 ≤ W * T := Int.mul_le_mul hW1.1 hT1.1 (by decide) (by omega)
        omega
      · exact Int.mul_le_mul hW1.2 hT1.2 (by omega) (by decide)
    rw [wr64 (n := W * T) (by omega) (by omega)]
    refine cond_split (fun h => ?_) (fun h => ?_)
    · refine lv_i (bad 2 ?_ (by decide) _ hx1)
      rw [hE, if_pos (of_decide_eq_true h)]
    have hle : ¬ W * T > 1024 := of_decide_eq_false h
    rw [if_neg hle] at hE
    rw [if_pos hE, hE] at hK
    obtain ⟨Wn, rfl⟩ : ∃ n : Nat, W = (n : Int) := ⟨W.toNat, by omega⟩
    obtain ⟨Tn, rfl⟩ : ∃ n : Nat, T = (n : Int) := ⟨T.toNat, by omega⟩
    simp only [Int.toNat_natCast] at hK
    have hcap : ((Wn : Int) * (Tn : Int)) = ((Wn * Tn : Nat) : Int) := by simp
    rw [hcap] at hle hWT ⊢
    have hcap1 : Wn * Tn ≤ 1024 := by omega
    refine sC.make0 (by omega) (le_maxLen (by omega)) ?_
    intro w2 hrow hx2
    refine asS_i rfl ?_
    have hx02 := hx1.trans hx2
    have hvs : ∀ (lst : List (Int × Int)), (∀ u ∈ lst.map cv, one u = true) := by
      intro lst u hu
      simp only [List.mem_map] at hu
      obtain ⟨q, _, rfl⟩ := hu
      rfl
    refine lp_mk (fun t : Nat × (Option Addr × Nat × Nat) => [.complex .f64 (F lx) (F (ly + (t.1 : Int))), .slice t.2.1 t.2.2.1 t.2.2.2, .int .i64 (t.1 : Int)])
      (fun m t w' => m = Tn - t.1 ∧ t.1 ≤ Tn ∧ Ext no w w' ∧ t.2.2.1 = (rowsC lx ly Wn t.1).length ∧ Row w' w.heap.size 49 t.2.1 t.2.2.2 ((rowsC lx ly Wn t.1).map cv)) Tn (0, (some ⟨w1.heap.size, 0, none⟩, 0, Wn * Tn)) (by simp) ⟨rfl, Nat.zero_le _, hx02, rfl, hrow.mono hx1.size⟩ ?_
    rintro _ ⟨j, p, n, c⟩ w3 ⟨rfl, hj, hx3, hn, hr3⟩ J hJ
    simp only at hj hn hr3 hJ ⊢
    subst hn
    refine asC_i rfl (asS_i rfl (asI_i rfl (cond_split (fun h => ?_) (fun h => ?_))))
    · have hjT : j < Tn := by
        have := of_decide_eq_true h
        omega
      refine lp_mk (fun t : Nat × (Option Addr × Nat × Nat) => [.slice t.2.1 t.2.2.1 t.2.2.2, .complex .f64 (F (lx + (t.1 : Int))) (F (ly + (j : Int))), .int .i64 (t.1 : Int)])
        (fun m t w' => m = Wn - t.1 ∧ t.1 ≤ Wn ∧ Ext no w w' ∧ t.2.2.1 = (rowsC lx ly Wn j ++ rowC lx (ly + (j : Int)) t.1).length ∧ Row w' w.heap.size 49 t.2.1 t.2.2.2 ((rowsC lx ly Wn j ++ rowC lx (ly + (j : Int)) t.1).map cv)) Wn (0, (p, (rowsC lx ly Wn j).length, c)) (by simp)
        ⟨rfl, Nat.zero_le _, hx3, by simp [rowC], by simpa [rowC] using hr3⟩ ?_
      rintro _ ⟨i, p, n, c⟩ w4 ⟨rfl, hi, hx4, hn, hr4⟩ J2 hJ2
      simp only at hi hn hr4 hJ2 ⊢
      subst hn
      refine asS_i rfl (asC_i rfl (asI_i rfl (cond_split (fun h => ?_) (fun h => ?_))))
      · have hiW : i < Wn := by
          have := of_decide_eq_true h
          omega
        have hlen : (rowsC lx ly Wn j ++ rowC lx (ly + (j : Int)) i).length = j * Wn + i := by
          rw [List.length_append, rowsC_length, rowC_length]
        have hlen2 : j * Wn + i < 1024 := by
          have : (j + 1) * Wn ≤ Tn * Wn := Nat.mul_le_mul_right _ hjT
          rw [Nat.add_mul, Nat.mul_comm Tn Wn] at this
          omega
        refine sC.app1 hr4 (by simp) hx4.size rfl (le_maxLen (by omega)) (by omega) ?_
        intro p' c' w5 hr5 hE5 hM5
        have hx5 : Ext no w w5 := hx4.then hE5 fun k hk hkb => by
          obtain ⟨q, hq, rfl⟩ := hkb
          have := (hr4.at hq).1
          omega
        refine asS_i rfl ?_
        rw [← F_one, ← F_zero]
        refine F_add (by omega) (by decide) (F_add (by omega) (by decide) ?_)
        have ei : IntKind.wrap .i64 ((i : Int) + 1) = ((i + 1 : Nat) : Int) := by rw [wr64 (by omega) (by omega)]; omega
        rw [ei, Int.add_zero]
        have eF : lx + (i : Int) + 1 = lx + ((i + 1 : Nat) : Int) := by omega
        rw [eF]
        have erow : rowC lx (ly + (j : Int)) (i + 1) = rowC lx (ly + (j : Int)) i ++ [(lx + (i : Int), ly + (j : Int))] := by
          simp [rowC, List.range_succ]
        refine hJ2 (Wn - (i + 1)) (i + 1, (p', (rowsC lx ly Wn j ++ rowC lx (ly + (j : Int)) i).length + 1, c')) w5 (by omega) ⟨rfl, hiW, hx5, ?_, ?_⟩
        · simp only [erow, List.length_append, List.length_singleton]
          omega
        · simp only [erow]
          rw [← List.append_assoc, List.map_append]
          exact hr5
      · have hiW : i = Wn := by
          have := of_decide_eq_false h
          omega
        subst hiW
        rw [← F_one, ← F_zero]
        refine F_add (by omega) (by decide) (F_add (by omega) (by decide) ?_)
        have ej : IntKind.wrap .i64 ((j : Int) + 1) = ((j + 1 : Nat) : Int) := by rw [wr64 (by omega) (by omega)]; omega
        rw [ej, Int.add_zero]
        have eF : ly + (j : Int) + 1 = ly + ((j + 1 : Nat) : Int) := by omega
        rw [eF]
        have erows : rowsC lx ly i (j + 1) = rowsC lx ly i j ++ rowC lx (ly + (j : Int)) i := by
          simp [rowsC, List.range_succ]
        refine hJ (Tn - (j + 1)) (j + 1, (p, (rowsC lx ly i j ++ rowC lx (ly + (j : Int)) i).length, c)) w4 (by omega) ⟨rfl, hjT, hx4, ?_, ?_⟩
        · simp only [erows]
        · simp only [erows]
          exact hr4
    · have hjT : j = Tn := by
        have := of_decide_eq_false h
        omega
      subst hjT
      exact lv_i (hK p c w3 hx3 hr3)
  · intro J hJ
    refine cellF_k na.1 na.2.1 (asB_i rfl (cond_split (fun h => hJ _ _ ⟨?_, hS.ext⟩) (fun h => cellF_k na.2.2.1 na.2.2.2 (asB_i rfl (hJ _ _ ⟨?_, hS.ext⟩)))))
    · simp only [Span.ok]
      have : isCell lx ly = false := by simpa using h
      rw [this]; rfl
    · simp only [Span.ok]
      have : isCell lx ly = true := by simpa using h
      rw [this]; rfl
end Go.Proofs.Ytamobmjfdiecbaa
