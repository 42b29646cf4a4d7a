/- Lt: floats of package math, and cells of package lattice, told as contracts over whole numbers. Conditions: those of each theorem, on its arguments. -/
import Derived.Test.YtamobmjfdiecbaaF
import Derived.Test.YtamobmjfdiecbaaSk
import Derived.Test.YtamobmjfdiecbaaFn
import Derived.Test.YtamobmjfdiecbaaNums
import Derived.Laws.Externs
namespace Go.Proofs.Ytamobmjfdiecbaa
open Go Go.Sx Go.Fp

theorem asC_i {k : FloatKind} {v : Value} {x y : Nat} {K : Nat → Nat → Prop} (e : v = .complex k x y) (h : K x y) : asC k v K := ⟨x, y, e, h⟩
def mag (x : Int) : Int := if x < 0 then -x else x
theorem nearest_F (n : Int) : FloatKind.nearest .f64 n = F n := rfl

theorem so_add {x y : Nat} {a b : Int} {K : Nat → Prop} (hx : N x a) (hy : N y b) (h : (a + b).natAbs < 2 ^ 53) (hK : ∀ z, N z (a + b) → K z) : so ((FloatKind.format .f64).add x y) K := by
  obtain ⟨z, hz, hn⟩ := add_N hx hy h
  exact so_i hz (hK z hn)
theorem so_sub {x y : Nat} {a b : Int} {K : Nat → Prop} (hx : N x a) (hy : N y b) (h : (a - b).natAbs < 2 ^ 53) (hK : ∀ z, N z (a - b) → K z) : so ((FloatKind.format .f64).sub x y) K := by
  obtain ⟨z, hz, hn⟩ := sub_N hx hy h
  exact so_i hz (hK z hn)
theorem so_mul {x y : Nat} {a b : Int} {K : Nat → Prop} (hx : N x a) (hy : N y b) (h : (a * b).natAbs < 2 ^ 53) (hK : ∀ z, N z (a * b) → K z) : so ((FloatKind.format .f64).mul x y) K := by
  obtain ⟨z, hz, hn⟩ := mul_N hx hy h
  exact so_i hz (hK z hn)

theorem N_zero : N 0 0 := N_lit (by decide) (by decide)
theorem N_one : N 4607182418800017408 1 := N_lit (by decide) (by decide)
theorem N_mone : N 13830554455654793216 (-1) := N_lit (by decide) (by decide)

theorem ord_eq {x y : Nat} {a b : Int} (hx : N x a) (hy : N y b) : ((FloatKind.format .f64).order x y == some .eq) = decide (a = b) := by
  have : (FloatKind.format .f64).order x y = some (compare a b) := order_N hx hy
  rw [this]
  simp only [compare, compareOfLessAndEq]
  split
  · have : a ≠ b := by omega
    simp [this]
  · split <;> simp_all
theorem ord_lt {x y : Nat} {a b : Int} (hx : N x a) (hy : N y b) : ((FloatKind.format .f64).order x y == some .lt) = decide (a < b) := by
  have : (FloatKind.format .f64).order x y = some (compare a b) := order_N hx hy
  rw [this]
  simp only [compare, compareOfLessAndEq]
  split
  · simp_all
  · split <;> simp_all
theorem ord_gt {x y : Nat} {a b : Int} (hx : N x a) (hy : N y b) : ((FloatKind.format .f64).order x y == some .gt) = decide (b < a) := by
  have : (FloatKind.format .f64).order x y = some (compare a b) := order_N hx hy
  rw [this]
  simp only [compare, compareOfLessAndEq]
  split
  · have : ¬ b < a := by omega
    simp [this]
  · split
    · have : ¬ b < a := by omega
      simp [this]
    · have : b < a := by omega
      simp [this]

/-! ### what the model itself has -/
theorem bits_k {x : Nat} {w : World} {K : Value → World → Prop} (hK : K (.int .u64 (x : Int)) w) : xt Try.prog 91 #[.float .f64 x] w K :=
  ⟨_, w, by rw [run_callFunc_extern Try.func91 (by kernel_rfl) (by kernel_rfl) (by kernel_rfl) (e := Extern.MathFloatBits.float64bits) (by kernel_rfl)]; rfl, hK⟩
theorem frombits_k {x : Nat} {w : World} {K : Value → World → Prop} (hK : K (.float .f64 x) w) : xt Try.prog 90 #[.int .u64 (x : Int)] w K :=
  ⟨_, w, by rw [run_callFunc_extern Try.func90 (by kernel_rfl) (by kernel_rfl) (by kernel_rfl) (e := Extern.MathFloatBits.float64frombits) (by kernel_rfl)]; rfl, hK⟩
theorem archTrunc_k {x : Nat} {s : Bool} {m : Nat} {i : Int} (hd : FloatKind.f64.decode x = .number s m i) {w : World} {K : Value → World → Prop} (hK : K (.float .f64 (FloatKind.f64.encode ((Ieee.Datum.number s m i).integral .zero))) w) : xt Try.prog 92 #[.float .f64 x] w K := by
  refine ⟨_, w, ?_, hK⟩
  rw [run_callFunc_extern Try.func92 (by kernel_rfl) (by kernel_rfl) (by kernel_rfl) (e := Extern.MathFloor.toIntegral "math.archTrunc" .zero) (by kernel_rfl)]
  have e : Extern.MathFloor.toIntegral "math.archTrunc" .zero #[.float .f64 x] = (match FloatKind.f64.decode x with
    | .nan s t =>
      if FloatKind.f64.format.quiet t = t then pure (.float .f64 x) else do
      let kept ← choose (.extern "math.Floor,Ceil,Trunc,RoundToEven.signallingNaN kept" 2)
      pure (.float .f64 (if kept == 1 then x else FloatKind.f64.encode (.nan s (FloatKind.f64.format.quiet t))))
    | d => pure (.float .f64 (FloatKind.f64.encode (d.integral .zero)))) := rfl
  rw [e, hd]
  rfl

theorem wrapU64 {n : Int} (h : 0 ≤ n) (h' : n < 18446744073709551616) : IntKind.wrap .u64 n = n := by
  have : IntKind.wrap .u64 n = n % 18446744073709551616 := by simp [IntKind.wrap, IntKind.bits, IntKind.signed]
  rw [this]; omega

theorem andNot_top {x : Nat} (h : x < 18446744073709551616) : Go.bits .andNot .u64 (x : Int) 9223372036854775808 = ((x % 9223372036854775808 : Nat) : Int) := by
  have e2 : (~~~ (BitVec.ofInt IntKind.u64.bits (9223372036854775808 : Int))).toNat = 2 ^ 63 - 1 := by decide
  have hx : x < 2 ^ IntKind.u64.bits := by simpa [IntKind.bits] using h
  simp only [Go.bits, BitVec.toNat_and, ofInt_nat _ _ hx, e2, and_mask]
  have : x % 2 ^ 63 < 2 ^ 63 := Nat.mod_lt _ (by decide)
  exact wrapU64 (by omega) (by omega)

theorem abs_k {x : Nat} (hx : x < 18446744073709551616) {w : World} {K : Value → World → Prop} (hK : K (.float .f64 (x % 9223372036854775808)) w) : cl Try.prog 81 #[.float .f64 x] w K := by
  apply F81_calls
  unfold F81
  refine bits_k (asI_i rfl ?_)
  rw [andNot_top hx]
  exact frombits_k (asF_i rfl hK)

theorem N_word {x : Nat} {n : Int} (h : N x n) : x < 18446744073709551616 ∧ N (x % 9223372036854775808) (mag n) := by
  have hn := h.1
  have hm : (mag n).natAbs < 2 ^ 53 := by unfold mag; split <;> omega
  obtain ⟨_, rfl | ⟨rfl, rfl⟩⟩ := h
  · by_cases h0 : n = 0
    · subst h0
      rw [F_zero]
      exact ⟨by decide, N_zero⟩
    · have ha : (mag n).natAbs = n.natAbs := by unfold mag; split <;> omega
      have hmz : mag n ≠ 0 := by unfold mag; split <;> omega
      have hpos : ¬ mag n < 0 := by unfold mag; split <;> omega
      have e1 := F_eq h0 hn
      have e2 := F_eq hmz hm
      rw [ha, decide_eq_false hpos] at e2
      have kb := kept_bound (m := n.natAbs) (by omega) hn
      have hl := log_le (m := n.natAbs) (by omega) hn
      generalize n.natAbs * 2 ^ (52 - n.natAbs.log2) = q at *
      have e52 : (2 : Nat) ^ 52 = 4503599627370496 := by decide
      have e53 : (2 : Nat) ^ 53 = 9007199254740992 := by decide
      have hr : (n.natAbs.log2 + 1022) * 2 ^ 52 + q < 9223372036854775808 := by omega
      generalize (n.natAbs.log2 + 1022) * 2 ^ 52 + q = r at *
      have hs : Ieee.double.signWeight = 9223372036854775808 := rfl
      have hw : F n = r ∨ F n = 9223372036854775808 + r := by
        rw [e1]
        unfold Ieee.Format.word
        rw [hs]
        split
        · exact .inr rfl
        · exact .inl rfl
      have hw2 : F (mag n) = r := by
        rw [e2]
        rfl
      refine ⟨by omega, hm, .inl ?_⟩
      rw [hw2]
      omega
  · exact ⟨by decide, N_zero⟩

theorem absN_k {x : Nat} {n : Int} (hx : N x n) {w : World} {K : Value → World → Prop} (hK : ∀ z, N z (mag n) → K (.float .f64 z) w) : cl Try.prog 81 #[.float .f64 x] w K :=
  abs_k (N_word hx).1 (hK _ (N_word hx).2)

theorem trunc_N {s : Bool} {n : Int} {k : Nat} (h : n.natAbs < 2 ^ 53) (hs : n ≠ 0 → s = decide (n < 0)) : N (FloatKind.f64.encode ((Ieee.Datum.number s (n.natAbs * 2 ^ k) (-(k : Int))).integral .zero)) n := by
  have hc : Ieee.Toward.zero.cut s ((n.natAbs * 2 ^ k) <<< (-(k : Int)).toNat) (-(-(k : Int))).toNat = n.natAbs := by
    have e1 : (-(k : Int)).toNat = 0 := by omega
    have e2 : (-(-(k : Int))).toNat = k := by omega
    rw [e1, e2, Nat.shiftLeft_eq, Nat.pow_zero, Nat.mul_one]
    unfold Ieee.Toward.cut
    by_cases h0 : n.natAbs = 0
    · have : n.natAbs * 2 ^ k = 0 := by rw [h0, Nat.zero_mul]
      rw [this, h0]
      simp
    · have hm : min k ((n.natAbs * 2 ^ k).log2 + 2) = k := Nat.min_eq_left (by rw [log_mul h0]; omega)
      have hg : 1 <<< min k ((n.natAbs * 2 ^ k).log2 + 2) = 2 ^ k := by rw [hm, Nat.shiftLeft_eq, Nat.one_mul]
      simp only [hg, Nat.mul_div_cancel _ (Nat.two_pow_pos k)]
      simp
  unfold Ieee.Datum.integral
  simp only [hc]
  have := write_N (n := n) (k := 0) (s := s) h hs
  rw [Nat.pow_zero, Nat.mul_one] at this
  exact this

theorem truncN_k {x : Nat} {n : Int} (hx : N x n) {w : World} {K : Value → World → Prop} (hK : ∀ z, N z n → K (.float .f64 z) w) : cl Try.prog 82 #[.float .f64 x] w K := by
  apply F82_calls
  unfold F82
  obtain ⟨s, k, hk, hs⟩ := hx.read
  exact archTrunc_k hk (asF_i rfl (hK _ (trunc_N hx.1 hs)))

theorem wholeN_k {x : Nat} {n : Int} (hx : N x n) {w : World} {K : Value → World → Prop} (hK : K (.bool (decide (mag n ≤ 1048576))) w) : cl Try.prog 70 #[.float .f64 x] w K := by
  apply F70_calls
  unfold F70
  refine jn_mk (absN_k hx ?_)
  intro z hz
  refine asF_i rfl ?_
  have hM : N 4697254411347427328 1048576 := N_lit (by decide) (by decide)
  rw [ord_lt hz hM, ord_eq hz hM]
  refine cond_split (fun h => truncN_k hx ?_) (fun h => asB_i rfl ?_)
  · intro y hy
    refine asF_i rfl (asB_i rfl ?_)
    rw [ord_eq hx hy]
    have : mag n ≤ 1048576 := by
      simp only [Bool.or_eq_true, decide_eq_true_eq] at h
      omega
    rw [decide_eq_true this] at hK
    simpa using hK
  · have : ¬ mag n ≤ 1048576 := by
      simp only [Bool.or_eq_false_iff, decide_eq_false_iff_not] at h
      omega
    rw [decide_eq_false this] at hK
    exact hK

theorem whole15_k {w : World} {K : Value → World → Prop} (hK : K (.bool false) w) : cl Try.prog 70 #[.float .f64 4609434218613702656] w K := by
  apply F70_calls
  unfold F70
  refine jn_mk (abs_k (by decide) (asF_i rfl (cond_t (by decide) ?_)))
  apply F82_calls
  unfold F82
  refine archTrunc_k (s := false) (m := 6755399441055744) (i := -52) (by decide) (asF_i rfl (asF_i rfl (asB_i rfl ?_)))
  have : ((FloatKind.format .f64).order 4609434218613702656 (FloatKind.f64.encode ((Ieee.Datum.number false 6755399441055744 (-52)).integral .zero)) == some .eq) = false := by decide
  rw [this]
  exact hK

def isCell (a b : Int) : Bool := decide (mag a ≤ 1048576) && decide (mag b ≤ 1048576)

theorem cell_k {x y : Nat} {a b : Int} (hx : N x a) (hy : N y b) {w : World} {K : Value → World → Prop} (hK : K (.bool (isCell a b)) w) : cl Try.prog 46 #[.complex .f64 x y] w K := by
  apply F46_calls
  unfold F46
  refine jn_mk (wholeN_k hx (asB_i rfl (cond_split (fun h => wholeN_k hy (asB_i rfl (asB_i rfl ?_))) (fun h => asB_i rfl ?_))))
  · simpa [isCell, h] using hK
  · simpa [isCell, h] using hK

end Go.Proofs.Ytamobmjfdiecbaa
