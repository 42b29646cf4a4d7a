/- LatC: what the functions of package lattice do with cells, told as contracts over whole numbers. Conditions: those of each theorem, on its arguments. -/
import Derived.Test.YtppjcjbdkihnaaaF
import Derived.Test.YtppjcjbdkihnaaaSk
import Derived.Test.YtppjcjbdkihnaaaFn
import Derived.Test.YtppjcjbdkihnaaaLatM
import Derived.Laws.Externs
namespace Go.Proofs.Ytppjcjbdkihnaaa
open Go Go.Sx Go.Fp

theorem asC_i {k : FloatKind} {v : Value} {x y : Nat} {K : Nat → Nat → Prop} (e : v = .complex k x y) (h : K x y) : asC k v K := ⟨x, y, e, h⟩
theorem nearest_F (n : Int) : FloatKind.nearest .f64 n = F n := rfl

theorem so_add {x y : Nat} {a b : Int} {K : Nat → Prop} (hx : N x a) (hy : N y b) (h : (a + b).natAbs < 2 ^ 53) (hK : ∀ z, N z (a + b) → K z) : so ((FloatKind.format .f64).add x y) K := by
  obtain ⟨z, hz, hn⟩ := add_N hx hy h
  exact so_i hz (hK z hn)
theorem so_sub {x y : Nat} {a b : Int} {K : Nat → Prop} (hx : N x a) (hy : N y b) (h : (a - b).natAbs < 2 ^ 53) (hK : ∀ z, N z (a - b) → K z) : so ((FloatKind.format .f64).sub x y) K := by
  obtain ⟨z, hz, hn⟩ := sub_N hx hy h
  exact so_i hz (hK z hn)
theorem so_mul {x y : Nat} {a b : Int} {K : Nat → Prop} (hx : N x a) (hy : N y b) (h : (a * b).natAbs < 2 ^ 53) (hK : ∀ z, N z (a * b) → K z) : so ((FloatKind.format .f64).mul x y) K := by
  obtain ⟨z, hz, hn⟩ := mul_N hx hy h
  exact so_i hz (hK z hn)

theorem N_zero : N 0 0 := N_lit (by decide) (by decide)
theorem N_one : N 4607182418800017408 1 := N_lit (by decide) (by decide)
theorem N_mone : N 13830554455654793216 (-1) := N_lit (by decide) (by decide)

theorem ord_eq {x y : Nat} {a b : Int} (hx : N x a) (hy : N y b) : ((FloatKind.format .f64).order x y == some .eq) = decide (a = b) := by
  have : (FloatKind.format .f64).order x y = some (compare a b) := order_N hx hy
  rw [this]
  simp only [compare, compareOfLessAndEq]
  split
  · have : a ≠ b := by omega
    simp [this]
  · split <;> simp_all
theorem ord_lt {x y : Nat} {a b : Int} (hx : N x a) (hy : N y b) : ((FloatKind.format .f64).order x y == some .lt) = decide (a < b) := by
  have : (FloatKind.format .f64).order x y = some (compare a b) := order_N hx hy
  rw [this]
  simp only [compare, compareOfLessAndEq]
  split
  · simp_all
  · split <;> simp_all
theorem ord_gt {x y : Nat} {a b : Int} (hx : N x a) (hy : N y b) : ((FloatKind.format .f64).order x y == some .gt) = decide (b < a) := by
  have : (FloatKind.format .f64).order x y = some (compare a b) := order_N hx hy
  rw [this]
  simp only [compare, compareOfLessAndEq]
  split
  · have : ¬ b < a := by omega
    simp [this]
  · split
    · have : ¬ b < a := by omega
      simp [this]
    · have : b < a := by omega
      simp [this]

/-! ### what the model itself has -/
theorem bits_k {x : Nat} {w : World} {K : Value → World → Prop} (hK : K (.int .u64 (x : Int)) w) : xt Try.prog 20 #[.float .f64 x] w K :=
  ⟨_, w, by rw [run_callFunc_extern Try.func20 (by kernel_rfl) (by kernel_rfl) (by kernel_rfl) (e := Extern.MathFloatBits.float64bits) (by kernel_rfl)]; rfl, hK⟩
theorem frombits_k {x : Nat} {w : World} {K : Value → World → Prop} (hK : K (.float .f64 x) w) : xt Try.prog 19 #[.int .u64 (x : Int)] w K :=
  ⟨_, w, by rw [run_callFunc_extern Try.func19 (by kernel_rfl) (by kernel_rfl) (by kernel_rfl) (e := Extern.MathFloatBits.float64frombits) (by kernel_rfl)]; rfl, hK⟩
theorem archTrunc_k {x : Nat} {s : Bool} {m : Nat} {i : Int} (hd : FloatKind.f64.decode x = .number s m i) {w : World} {K : Value → World → Prop} (hK : K (.float .f64 (FloatKind.f64.encode ((Ieee.Datum.number s m i).integral .zero))) w) : xt Try.prog 21 #[.float .f64 x] w K := by
  refine ⟨_, w, ?_, hK⟩
  rw [run_callFunc_extern Try.func21 (by kernel_rfl) (by kernel_rfl) (by kernel_rfl) (e := Extern.MathFloor.toIntegral "math.archTrunc" .zero) (by kernel_rfl)]
  have e : Extern.MathFloor.toIntegral "math.archTrunc" .zero #[.float .f64 x] = (match FloatKind.f64.decode x with
    | .nan s t =>
      if FloatKind.f64.format.quiet t = t then pure (.float .f64 x) else do
      let kept ← choose (.extern "math.Floor,Ceil,Trunc,RoundToEven.signallingNaN kept" 2)
      pure (.float .f64 (if kept == 1 then x else FloatKind.f64.encode (.nan s (FloatKind.f64.format.quiet t))))
    | d => pure (.float .f64 (FloatKind.f64.encode (d.integral .zero)))) := rfl
  rw [e, hd]
  rfl

theorem wru64 {n : Int} (h : 0 ≤ n) (h' : n < 18446744073709551616) : IntKind.wrap .u64 n = n := by
  have : IntKind.wrap .u64 n = n % 18446744073709551616 := by simp [IntKind.wrap, IntKind.bits, IntKind.signed]
  rw [this]; omega

theorem andNot_top {x : Nat} (h : x < 18446744073709551616) : Go.bits .andNot .u64 (x : Int) 9223372036854775808 = ((x % 9223372036854775808 : Nat) : Int) := by
  have e2 : (~~~ (BitVec.ofInt IntKind.u64.bits (9223372036854775808 : Int))).toNat = 2 ^ 63 - 1 := by decide
  have hx : x < 2 ^ IntKind.u64.bits := by simpa [IntKind.bits] using h
  simp only [Go.bits, BitVec.toNat_and, ofInt_nat _ _ hx, e2, and_mask]
  have : x % 2 ^ 63 < 2 ^ 63 := Nat.mod_lt _ (by decide)
  exact wru64 (by omega) (by omega)

theorem abs_k {x : Nat} (hx : x < 18446744073709551616) {w : World} {K : Value → World → Prop} (hK : K (.float .f64 (x % 9223372036854775808)) w) : cl Try.prog 16 #[.float .f64 x] w K := by
  apply F16_calls
  unfold F16
  refine bits_k (asI_i rfl ?_)
  rw [andNot_top hx]
  exact frombits_k (asF_i rfl hK)

theorem N_word {x : Nat} {n : Int} (h : N x n) : x < 18446744073709551616 ∧ N (x % 9223372036854775808) (Lat.mag n) := by
  have hn := h.1
  have hm : (Lat.mag n).natAbs < 2 ^ 53 := by unfold Lat.mag; split <;> omega
  obtain ⟨_, rfl | ⟨rfl, rfl⟩⟩ := h
  · by_cases h0 : n = 0
    · subst h0
      rw [F_zero]
      exact ⟨by decide, N_zero⟩
    · have ha : (Lat.mag n).natAbs = n.natAbs := by unfold Lat.mag; split <;> omega
      have hmz : Lat.mag n ≠ 0 := by unfold Lat.mag; split <;> omega
      have hpos : ¬ Lat.mag n < 0 := by unfold Lat.mag; split <;> omega
      have e1 := F_eq h0 hn
      have e2 := F_eq hmz hm
      rw [ha, decide_eq_false hpos] at e2
      have kb := kept_bound (m := n.natAbs) (by omega) hn
      have hl := log_le (m := n.natAbs) (by omega) hn
      generalize n.natAbs * 2 ^ (52 - n.natAbs.log2) = q at *
      have e52 : (2 : Nat) ^ 52 = 4503599627370496 := by decide
      have e53 : (2 : Nat) ^ 53 = 9007199254740992 := by decide
      have hr : (n.natAbs.log2 + 1022) * 2 ^ 52 + q < 9223372036854775808 := by omega
      generalize (n.natAbs.log2 + 1022) * 2 ^ 52 + q = r at *
      have hs : Ieee.double.signWeight = 9223372036854775808 := rfl
      have hw : F n = r ∨ F n = 9223372036854775808 + r := by
        rw [e1]
        unfold Ieee.Format.word
        rw [hs]
        split
        · exact .inr rfl
        · exact .inl rfl
      have hw2 : F (Lat.mag n) = r := by
        rw [e2]
        rfl
      refine ⟨by omega, hm, .inl ?_⟩
      rw [hw2]
      omega
  · exact ⟨by decide, N_zero⟩

theorem absN_k {x : Nat} {n : Int} (hx : N x n) {w : World} {K : Value → World → Prop} (hK : ∀ z, N z (Lat.mag n) → K (.float .f64 z) w) : cl Try.prog 16 #[.float .f64 x] w K :=
  abs_k (N_word hx).1 (hK _ (N_word hx).2)

theorem trunc_N {s : Bool} {n : Int} {k : Nat} (h : n.natAbs < 2 ^ 53) (hs : n ≠ 0 → s = decide (n < 0)) : N (FloatKind.f64.encode ((Ieee.Datum.number s (n.natAbs * 2 ^ k) (-(k : Int))).integral .zero)) n := by
  have hc : Ieee.Toward.zero.cut s ((n.natAbs * 2 ^ k) <<< (-(k : Int)).toNat) (-(-(k : Int))).toNat = n.natAbs := by
    have e1 : (-(k : Int)).toNat = 0 := by omega
    have e2 : (-(-(k : Int))).toNat = k := by omega
    rw [e1, e2, Nat.shiftLeft_eq, Nat.pow_zero, Nat.mul_one]
    unfold Ieee.Toward.cut
    by_cases h0 : n.natAbs = 0
    · have : n.natAbs * 2 ^ k = 0 := by rw [h0, Nat.zero_mul]
      rw [this, h0]
      simp
    · have hm : min k ((n.natAbs * 2 ^ k).log2 + 2) = k := Nat.min_eq_left (by rw [log_mul h0]; omega)
      have hg : 1 <<< min k ((n.natAbs * 2 ^ k).log2 + 2) = 2 ^ k := by rw [hm, Nat.shiftLeft_eq, Nat.one_mul]
      simp only [hg, Nat.mul_div_cancel _ (Nat.two_pow_pos k)]
      simp
  unfold Ieee.Datum.integral
  simp only [hc]
  have := write_N (n := n) (k := 0) (s := s) h hs
  rw [Nat.pow_zero, Nat.mul_one] at this
  exact this

theorem truncN_k {x : Nat} {n : Int} (hx : N x n) {w : World} {K : Value → World → Prop} (hK : ∀ z, N z n → K (.float .f64 z) w) : cl Try.prog 18 #[.float .f64 x] w K := by
  apply F18_calls
  unfold F18
  obtain ⟨s, k, hk, hs⟩ := hx.read
  exact archTrunc_k hk (asF_i rfl (hK _ (trunc_N hx.1 hs)))

theorem wholeN_k {x : Nat} {n : Int} (hx : N x n) {w : World} {K : Value → World → Prop} (hK : K (.bool (decide (Lat.mag n ≤ 1048576))) w) : cl Try.prog 15 #[.float .f64 x] w K := by
  apply F15_calls
  unfold F15
  refine jn_mk (absN_k hx ?_)
  intro z hz
  refine asF_i rfl ?_
  have hM : N 4697254411347427328 1048576 := N_lit (by decide) (by decide)
  rw [ord_lt hz hM, ord_eq hz hM]
  refine cond_split (fun h => truncN_k hx ?_) (fun h => asB_i rfl ?_)
  · intro y hy
    refine asF_i rfl (asB_i rfl ?_)
    rw [ord_eq hx hy]
    have : Lat.mag n ≤ 1048576 := by
      simp only [Bool.or_eq_true, decide_eq_true_eq] at h
      omega
    rw [decide_eq_true this] at hK
    simpa using hK
  · have : ¬ Lat.mag n ≤ 1048576 := by
      simp only [Bool.or_eq_false_iff, decide_eq_false_iff_not] at h
      omega
    rw [decide_eq_false this] at hK
    exact hK

theorem whole15_k {w : World} {K : Value → World → Prop} (hK : K (.bool false) w) : cl Try.prog 15 #[.float .f64 4609434218613702656] w K := by
  apply F15_calls
  unfold F15
  refine jn_mk (abs_k (by decide) (asF_i rfl (cond_t (by decide) ?_)))
  apply F18_calls
  unfold F18
  refine archTrunc_k (s := false) (m := 6755399441055744) (i := -52) (by decide) (asF_i rfl (asF_i rfl (asB_i rfl ?_)))
  have : ((FloatKind.format .f64).order 4609434218613702656 (FloatKind.f64.encode ((Ieee.Datum.number false 6755399441055744 (-52)).integral .zero)) == some .eq) = false := by decide
  rw [this]
  exact hK

def isCell (a b : Int) : Bool := decide (Lat.mag a ≤ 1048576) && decide (Lat.mag b ≤ 1048576)

theorem cell_k {x y : Nat} {a b : Int} (hx : N x a) (hy : N y b) {w : World} {K : Value → World → Prop} (hK : K (.bool (isCell a b)) w) : cl Try.prog 11 #[.complex .f64 x y] w K := by
  apply F11_calls
  unfold F11
  refine jn_mk (wholeN_k hx (asB_i rfl (cond_split (fun h => wholeN_k hy (asB_i rfl (asB_i rfl ?_))) (fun h => asB_i rfl ?_))))
  · simpa [isCell, h] using hK
  · simpa [isCell, h] using hK

theorem max_N {x y : Nat} {a b : Int} (hx : N x a) (hy : N y b) {w : World} {K : Value → Prop} (hK : ∀ z, N z (max a b) → K (.float .f64 z)) : rq Try.prog (Builtin.max_ #[30, 30] 30 #[.float .f64 x, .float .f64 y]) w K := by
  have ho : FloatKind.f64.format.order x y = some (compare a b) := order_N hx hy
  have hr : (Builtin.max_ #[30, 30] 30 #[.float .f64 x, .float .f64 y]) = Builtin.max2 (.float .f64 x) (.float .f64 y) := by
    simp [Builtin.max_]
  rw [hr]
  unfold Builtin.max2
  simp only [ho, compare, compareOfLessAndEq]
  split
  · rename_i h
    split at h
    · cases h
    · split at h <;> cases h
  · rename_i h
    split at h
    · exact ⟨_, rfl, hK y (hy.at (by omega))⟩
    · split at h <;> cases h
  · rename_i h
    split at h
    · cases h
    · split at h
      · cases h
      · exact ⟨_, rfl, hK x (hx.at (by omega))⟩
  · rename_i h
    split at h
    · cases h
    · split at h
      · refine ⟨_, rfl, hK _ ?_⟩
        split
        · exact hy.at (by omega)
        · exact hx.at (by omega)
      · cases h

theorem f2i_N {x : Nat} {n : Int} (h : N x n) {K : Int → Prop} (hK : K n) : f2i .f64 x .i64 K := by
  have hb := h.lt
  have e1 : IntKind.min .i64 = -9223372036854775808 := by decide
  have e2 : IntKind.max .i64 = 9223372036854775807 := by decide
  exact ⟨n, toInt_N h, by omega, by omega, hK⟩

theorem far_k {x y : Nat} {a b : Int} (hx : N x a) (hy : N y b) {w : World} {K : Value → World → Prop} (hK : K (.int .i64 (Lat.far a b)) w) : cl Try.prog 12 #[.complex .f64 x y] w K := by
  apply F12_calls
  unfold F12
  refine lv_i (absN_k hx ?_)
  intro z hz
  refine asF_i rfl (absN_k hy ?_)
  intro v hv
  refine asF_i rfl (max_N hz hv ?_)
  intro u hu
  exact asF_i rfl (f2i_N hu (lv_i hK))

theorem isCell_iff {a b : Int} : isCell a b = true ↔ (-1048576 ≤ a ∧ a ≤ 1048576) ∧ (-1048576 ≤ b ∧ b ≤ 1048576) := by
  unfold isCell Lat.mag
  simp only [Bool.and_eq_true, decide_eq_true_eq]
  split <;> split <;> omega

theorem Far_k {x y u v : Nat} {a b c d : Int} (hx : N x a) (hy : N y b) (hu : N u c) (hv : N v d) (h1 : isCell a b = true) (h2 : isCell c d = true) {w : World} {K : Value → World → Prop}
    (hK : K (.tuple #[.int .i64 (Lat.far (a - c) (b - d)), .int .i64 0]) w) : cl Try.prog 6 #[.complex .f64 x y, .complex .f64 u v] w K := by
  have b1 := isCell_iff.1 h1
  have b2 := isCell_iff.1 h2
  apply F6_calls
  unfold F6
  refine lv_i (lv_i (jn_mk (cell_k hx hy (asB_i rfl (cond_f (by rw [h1]; rfl) (cell_k hu hv (asB_i rfl (asB_i rfl (cond_f (by rw [h2]; rfl) ?_)))))))))
  refine so_sub hx hu (by omega) fun f hf => so_sub hy hv (by omega) fun g hg => far_k hf hg (asI_i rfl (lv_i (lv_i hK)))

theorem sign_k {x : Nat} {a : Int} (hx : N x a) {w : World} {K : Value → World → Prop} (hK : ∀ z, N z (if a < 0 then -1 else if 0 < a then 1 else 0) → K (.float .f64 z) w) : cl Try.prog 17 #[.float .f64 x] w K := by
  apply F17_calls
  unfold F17
  rw [ord_lt hx N_zero, ord_gt hx N_zero]
  refine cond_split (fun h => ?_) (fun h => cond_split (fun h' => ?_) (fun h' => ?_))
  · exact hK _ (N_mone.at (by rw [if_pos (of_decide_eq_true h)]))
  · exact hK _ (N_one.at (by rw [if_neg (of_decide_eq_false h), if_pos (of_decide_eq_true h')]))
  · exact hK _ (N_zero.at (by rw [if_neg (of_decide_eq_false h), if_neg (of_decide_eq_false h')]))

def sg (a : Int) : Int := if a < 0 then -1 else if 0 < a then 1 else 0

theorem unit_k {x y : Nat} {a b : Int} (hx : N x a) (hy : N y b) {w : World} {K : Value → World → Prop} (hK : ∀ u v, N u (sg a) → N v (sg b) → K (.complex .f64 u v) w) : cl Try.prog 13 #[.complex .f64 x y] w K := by
  apply F13_calls
  unfold F13
  exact sign_k hx fun u hu => asF_i rfl (sign_k hy fun v hv => asF_i rfl (hK u v hu hv))

theorem place_k {x y : Nat} {a b : Int} (hx : N x a) (hy : N y b) (hc : isCell a b = true) {w : World} {K : Value → World → Prop}
    (hK : K (.tuple (if Lat.far a b > 500 then #[.int .i64 0, .int .i64 2] else #[.int .i64 (Lat.place a b), .int .i64 0])) w) : cl Try.prog 7 #[.complex .f64 x y] w K := by
  have b1 := isCell_iff.1 hc
  apply F7_calls
  unfold F7
  refine lv_i (lv_i (cell_k hx hy (asB_i rfl (cond_f (by rw [hc]; rfl) (far_k hx hy (asI_i rfl (cond_split (fun h => ?_) (fun h => ?_))))))))
  · rw [if_pos (of_decide_eq_true h)] at hK
    exact lv_i (lv_i hK)
  · have h5 : ¬ Lat.far a b > 500 := of_decide_eq_false h
    rw [if_neg h5] at hK
    refine far_k hx hy (asI_i rfl (lv_i (f2i_N hx (f2i_N hy (lv_i (lv_i (lv_i ?_)))))))
    have hk0 : 0 ≤ Lat.far a b ∧ a ≤ Lat.far a b ∧ -a ≤ Lat.far a b ∧ b ≤ Lat.far a b ∧ -b ≤ Lat.far a b := by unfold Lat.far Lat.mag; split <;> split <;> omega
    generalize hk : Lat.far a b = k at *
    have e1 : IntKind.wrap .i64 (IntKind.wrap .i64 (2 * k) - 1) = 2 * k - 1 := by rw [wr64 (n := 2 * k) (by omega) (by omega), wr64 (by omega) (by omega)]
    rw [e1]
    have hsq : -1 ≤ (2 * k - 1) * (2 * k - 1) ∧ (2 * k - 1) * (2 * k - 1) ≤ 1000000 := by
      constructor
      · by_cases h0 : k = 0
        · subst h0; decide
        · have : 0 ≤ (2 * k - 1) * (2 * k - 1) := Int.mul_nonneg (by omega) (by omega)
          omega
      · by_cases h0 : k = 0
        · subst h0; decide
        · calc (2 * k - 1) * (2 * k - 1) ≤ 999 * (2 * k - 1) := Int.mul_le_mul_of_nonneg_right (by omega) (by omega)
            _ ≤ 999 * 999 := Int.mul_le_mul_of_nonneg_left (by omega) (by decide)
            _ ≤ 1000000 := by decide
    have hpl : Lat.place a b = if k = 0 then 0 else if a = k ∧ b > -k then (2 * k - 1) * (2 * k - 1) + b + k - 1 else if b = k then (2 * k - 1) * (2 * k - 1) + 3 * k - 1 - a else if a = -k then (2 * k - 1) * (2 * k - 1) + 5 * k - 1 - b else (2 * k - 1) * (2 * k - 1) + 7 * k - 1 + a := by
      unfold Lat.place
      rw [hk]
    rw [hpl] at hK
    generalize (2 * k - 1) * (2 * k - 1) = f at *
    rw [wr64 (n := f) (by omega) (by omega)]
    have ek : IntKind.wrap .i64 (0 - k) = -k := by rw [wr64 (by omega) (by omega)]; omega
    rw [ek]
    refine cond_split (fun h => ?_) (fun h => ?_)
    · have h0 : k = 0 := by simpa using h
      rw [if_pos h0] at hK
      exact lv_i (lv_i hK)
    have h0 : ¬ k = 0 := by simpa using h
    rw [if_neg h0] at hK
    refine jn_of (fun s w' => s = [.bool (decide (a = k ∧ b > -k))] ∧ w' = w) ?_ ?_
    · rintro _ _ ⟨rfl, rfl⟩
      refine asB_i rfl (cond_split (fun h => ?_) (fun h => ?_))
      · rw [if_pos (of_decide_eq_true h)] at hK
        have e : IntKind.wrap .i64 (IntKind.wrap .i64 (IntKind.wrap .i64 (f + b) + k) - 1) = f + b + k - 1 := by
          rw [wr64 (n := f + b) (by omega) (by omega), wr64 (n := f + b + k) (by omega) (by omega), wr64 (by omega) (by omega)]
        rw [e]
        exact lv_i (lv_i hK)
      · rw [if_neg (of_decide_eq_false h)] at hK
        refine cond_split (fun h => ?_) (fun h => ?_)
        · have h1 : b = k := by simpa using h
          rw [if_pos h1] at hK
          have e : IntKind.wrap .i64 (IntKind.wrap .i64 (IntKind.wrap .i64 (f + IntKind.wrap .i64 (3 * k)) - 1) - a) = f + 3 * k - 1 - a := by
            rw [wr64 (n := 3 * k) (by omega) (by omega), wr64 (n := f + 3 * k) (by omega) (by omega), wr64 (n := f + 3 * k - 1) (by omega) (by omega), wr64 (by omega) (by omega)]
          rw [e]
          exact lv_i (lv_i hK)
        · have h1 : ¬ b = k := by simpa using h
          rw [if_neg h1] at hK
          refine cond_split (fun h => ?_) (fun h => ?_)
          · have h2 : a = -k := by simpa using h
            rw [if_pos h2] at hK
            have e : IntKind.wrap .i64 (IntKind.wrap .i64 (IntKind.wrap .i64 (f + IntKind.wrap .i64 (5 * k)) - 1) - b) = f + 5 * k - 1 - b := by
              rw [wr64 (n := 5 * k) (by omega) (by omega), wr64 (n := f + 5 * k) (by omega) (by omega), wr64 (n := f + 5 * k - 1) (by omega) (by omega), wr64 (by omega) (by omega)]
            rw [e]
            exact lv_i (lv_i hK)
          · have h2 : ¬ a = -k := by simpa using h
            rw [if_neg h2] at hK
            have e : IntKind.wrap .i64 (IntKind.wrap .i64 (IntKind.wrap .i64 (f + IntKind.wrap .i64 (7 * k)) - 1) + a) = f + 7 * k - 1 + a := by
              rw [wr64 (n := 7 * k) (by omega) (by omega), wr64 (n := f + 7 * k) (by omega) (by omega), wr64 (n := f + 7 * k - 1) (by omega) (by omega), wr64 (by omega) (by omega)]
            rw [e]
            exact lv_i (lv_i hK)
    · intro J hJ
      refine cond_split (fun h => hJ _ _ ⟨?_, rfl⟩) (fun h => hJ _ _ ⟨?_, rfl⟩)
      · have h1 : a = k := by simpa using h
        simp [h1]
      · have h1 : ¬ a = k := by simpa using h
        simp [h1]
end Go.Proofs.Ytppjcjbdkihnaaa
