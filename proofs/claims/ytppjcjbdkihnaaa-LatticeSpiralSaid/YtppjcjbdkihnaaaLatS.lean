/- LatS: the spiral by the program; the document's examples of cells come out; the law LatticeSpiral is true for every input. Conditions: those of the law's argument as it is read. -/
import Derived.Test.YtppjcjbdkihnaaaLatC
namespace Go.Proofs.Ytppjcjbdkihnaaa
open Go Go.Sx Go.Fp
attribute [local irreducible] jn lv ld st nw asI asB asP asS asY asM asF asA asT lp rn ru rq cl dw dr bnd bn2 nz nn hd hr so eqW

/-- a way as long as a number says -/
theorem so_scale {wx wy kf : Nat} {a b k : Int} (hx : N wx a) (hy : N wy b) (hk : N kf k) (h1 : (a * k).natAbs < 2 ^ 52) (h2 : (b * k).natAbs < 2 ^ 52) {K : Nat → Nat → Prop}
    (hK : ∀ x y, N x (a * k) → N y (b * k) → K x y) :
    so ((FloatKind.format .f64).mul wx kf) fun f18 => so ((FloatKind.format .f64).mul wy 0) fun f19 => so ((FloatKind.format .f64).sub f18 f19) fun f20 => so ((FloatKind.format .f64).mul wx 0) fun f21 => so ((FloatKind.format .f64).mul wy kf) fun f22 => so ((FloatKind.format .f64).add f21 f22) fun f23 => K f20 f23 := by
  refine so_mul hx hk (by omega) fun f18 g18 => so_mul hy N_zero (by rw [Int.mul_zero]; decide) fun f19 g19 => ?_
  rw [Int.mul_zero] at g19
  refine so_sub g18 g19 (by omega) fun f20 g20 => so_mul hx N_zero (by rw [Int.mul_zero]; decide) fun f21 g21 => so_mul hy hk (by omega) fun f22 g22 => ?_
  rw [Int.mul_zero] at g21
  exact so_add g21 g22 (by omega) fun f23 g23 => hK _ _ (g20.at (by omega)) (g23.at (by omega))

/-- a way that is turned -/
theorem so_turn {wx wy : Nat} {a b : Int} (hx : N wx a) (hy : N wy b) (h1 : a.natAbs < 2 ^ 52) (h2 : b.natAbs < 2 ^ 52) {K : Nat → Nat → Prop}
    (hK : ∀ x y, N x (-b) → N y a → K x y) :
    so ((FloatKind.format .f64).mul wx 0) fun f28 => so ((FloatKind.format .f64).mul wy 4607182418800017408) fun f29 => so ((FloatKind.format .f64).sub f28 f29) fun f30 => so ((FloatKind.format .f64).mul wx 4607182418800017408) fun f31 => so ((FloatKind.format .f64).mul wy 0) fun f32 => so ((FloatKind.format .f64).add f31 f32) fun f33 => K f30 f33 := by
  refine so_mul hx N_zero (by rw [Int.mul_zero]; decide) fun f28 g28 => so_mul hy N_one (by rw [Int.mul_one]; omega) fun f29 g29 => ?_
  rw [Int.mul_zero] at g28
  rw [Int.mul_one] at g29
  refine so_sub g28 g29 (by omega) fun f30 g30 => so_mul hx N_one (by rw [Int.mul_one]; omega) fun f31 g31 => so_mul hy N_zero (by rw [Int.mul_zero]; decide) fun f32 g32 => ?_
  rw [Int.mul_one] at g31
  rw [Int.mul_zero] at g32
  exact so_add g31 g32 (by omega) fun f33 g33 => hK _ _ (g30.at (by omega)) (g33.at (by omega))

theorem spiral_k {n : Int} {w : World} {K : Value → World → Prop}
    (hbad : n < 0 ∨ n > 1000000 → K (.tuple #[.complex .f64 0 0, .int .i64 1]) w)
    (hK : 0 ≤ n ∧ n ≤ 1000000 → ∀ j t x y, Lat.Seg n j t → N x (Lat.px j t) → N y (Lat.py j t) → (Lat.px j t).natAbs ≤ 2000002 → (Lat.py j t).natAbs ≤ 2000002 → K (.tuple #[.complex .f64 x y, .int .i64 0]) w) :
    cl Try.prog 5 #[.int .i64 n] w K := by
  apply F5_calls
  unfold F5
  refine lv_i (jn_of (fun s w' => s = [.bool (decide (n < 0 ∨ n > 1000000))] ∧ w = w') ?_ ?_)
  · rintro _ _ ⟨rfl, rfl⟩
    refine asB_i rfl (cond_split (fun h => lv_i (hbad (of_decide_eq_true h))) (fun h => lv_i ?_))
    have hn : 0 ≤ n ∧ n ≤ 1000000 := by
      have := of_decide_eq_false h
      omega
    refine lp_mk (fun s : Int × (Nat × Nat) × (Nat × Nat) × Int => [.int .i64 s.1, .complex .f64 s.2.1.1 s.2.1.2, .complex .f64 s.2.2.1.1 s.2.2.1.2, .int .i64 s.2.2.2])
      (fun m s w1 => m = s.1.toNat ∧ w = w1 ∧ ∃ j : Nat, n = Lat.T j + s.1 ∧ (j = 0 ∨ 1 ≤ s.1) ∧ 0 ≤ s.1 ∧ N s.2.1.1 (Lat.cx j) ∧ N s.2.1.2 (Lat.cy j) ∧ N s.2.2.1.1 (Lat.dx j) ∧ N s.2.2.1.2 (Lat.dy j) ∧ s.2.2.2 = (j : Int) + 2)
      n.toNat (n, (0, 0), (4607182418800017408, 0), 2) rfl ⟨rfl, rfl, 0, by simp [Lat.T], .inl rfl, hn.1, N_zero, N_zero, N_one, N_zero, rfl⟩ ?_
    rintro _ ⟨r, ⟨x, y⟩, ⟨u, v⟩, run⟩ _ ⟨rfl, rfl, j, hr, h1, h0, hx, hy, hu, hv, hrun⟩ J hJ
    simp only at hr h1 h0 hx hy hu hv hrun hJ ⊢
    subst hrun
    have hT := Lat.T_ge j
    have hb := Lat.c_bound j
    have ek : IntKind.wrap .i64 (Int.tdiv ((j : Int) + 2) 2) = Lat.kk j := by
      have e : ((j : Int) + 2) = ((j + 2 : Nat) : Int) := by omega
      have e2 : Int.tdiv ((j + 2 : Nat) : Int) 2 = (((j + 2) / 2 : Nat) : Int) := rfl
      rw [e, e2, wr64 (by omega) (by omega)]
      rfl
    have hk := Lat.kk_val j
    have hk1 := Lat.kk_pos j
    refine asI_i rfl ⟨_, _, rfl, ⟨_, _, rfl, asI_i rfl (lv_i ?_)⟩⟩
    rw [ek]
    refine cond_split (fun h => ?_) (fun h => ?_)
    · have hgt : r > Lat.kk j := of_decide_eq_true h
      have hd := Lat.dmul j (Lat.kk j) (by omega)
      have hkN : N (FloatKind.nearest .f64 (Lat.kk j)) (Lat.kk j) := N_F (by omega)
      refine so_scale hu hv hkN (by omega) (by omega) fun f20 f23 g20 g23 => ?_
      refine so_add hx g20 (by omega) fun f24 g24 => so_add hy g23 (by omega) fun f25 g25 => lv_i (lv_i ?_)
      have hun := Lat.unit_xy j
      refine so_turn hu hv (by omega) (by omega) fun f30 f33 g30 g33 => ?_
      rw [wr64 (n := r - Lat.kk j) (by omega) (by omega), wr64 (n := (j : Int) + 2 + 1) (by omega) (by omega)]
      have ht := Lat.turn_xy j
      refine hJ (r - Lat.kk j).toNat (r - Lat.kk j, (f24, f25), (f30, f33), (j : Int) + 2 + 1) _ (by omega) ⟨rfl, rfl, j + 1, ?_, .inr (by simp only; omega), by simp only; omega, g24, g25, g30.at ht.1.symm, g33.at ht.2.symm, by simp only; omega⟩
      simp only [Lat.T]
      omega
    · have hle : ¬ r > Lat.kk j := of_decide_eq_false h
      have hd := Lat.dmul j r h0
      have hkN : N (FloatKind.nearest .f64 r) r := N_F (by omega)
      refine so_scale hu hv hkN (by omega) (by omega) fun f20 f23 g20 g23 => ?_
      refine so_add hx g20 (by omega) fun f24 g24 => so_add hy g23 (by omega) fun f25 g25 => lv_i ?_
      refine hK hn j r f24 f25 ⟨hr, h0, by omega, h1⟩ g24 g25 ?_ ?_
      · unfold Lat.px; omega
      · unfold Lat.py; omega
  · intro J hJ
    refine cond_split (fun h => hJ _ _ ⟨?_, rfl⟩) (fun h => hJ _ _ ⟨?_, rfl⟩)
    · have := of_decide_eq_true h
      rw [decide_eq_true (.inl this)]
    · have h1 := of_decide_eq_false h
      congr 2
      simp only [gt_iff_lt, h1, false_or]
end Go.Proofs.Ytppjcjbdkihnaaa
