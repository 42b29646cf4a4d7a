/- GrL1: the law GridShifts comes out true for every input. Conditions: those of the law's arguments as they are read. -/
import Derived.Test.YtamobmjfdiecbaaGrA
import Derived.Test.YtamobmjfdiecbaaFl
import Derived.Test.YtamobmjfdiecbaaOpS
namespace Go.Proofs.Ytamobmjfdiecbaa
open Go Go.Sx Go.Fp
attribute [local irreducible] jn lv ld st nw asI asB asP asS asY asM asF asA asT lp rn ru rq cl dw dr bnd bn2 nz nn hd hr so eqW
attribute [local irreducible] callOk

theorem vec_of {z : List Value} (h : FitsAll [.int .i64, .int .i64] z) : ∃ x y : Int, z = [.int .i64 x, .int .i64 y] ∧ I64 x ∧ I64 y := by
  obtain ⟨_, _, rfl, ⟨x0, rfl, h0⟩, _, _, rfl, ⟨x1, rfl, h1⟩, rfl⟩ := h
  exact ⟨x0, x1, rfl, i64_of h0, i64_of h1⟩
theorem bx_of' {z : List Value} (h : FitsAll [.int .i64, .int .i64, .int .i64] z) : ∃ b : Bx, z = b.cells ∧ I64 b.x ∧ I64 b.y ∧ I64 b.r := by
  obtain ⟨_, _, rfl, ⟨x0, rfl, h0⟩, _, _, rfl, ⟨x1, rfl, h1⟩, _, _, rfl, ⟨x2, rfl, h2⟩, rfl⟩ := h
  exact ⟨⟨x0, x1, x2⟩, rfl, i64_of h0, i64_of h1, i64_of h2⟩

theorem and63' (x : Int) : 0 ≤ Go.bits .and .i64 x 63 ∧ Go.bits .and .i64 x 63 ≤ 63 := by
  have h : ∀ a : Nat, a ≤ 63 → 0 ≤ IntKind.wrap .i64 (a : Int) ∧ IntKind.wrap .i64 (a : Int) ≤ 63 := fun a ha => by
    rw [wr64 (by omega) (by omega)]; omega
  simp only [Go.bits]
  refine h _ ?_
  rw [BitVec.toNat_and]
  refine Nat.le_trans Nat.and_le_right ?_
  decide

theorem order_self {a : Int} (h : a.natAbs < 2 ^ 53) : ((FloatKind.format .f64).order (F a) (F a) == some .eq) = true := by
  have : (FloatKind.format .f64).order (F a) (F a) = some (compare a a) := order_F h h
  rw [this, compare_self]
  rfl
where compare_self {a : Int} : compare a a = .eq := by simp

theorem gcellE_zero {s x y : Int} (h : gcellE s x y = 0) : (1 ≤ s ∧ s ≤ 1099511627776) ∧ (-1048576 ≤ x / s ∧ x / s ≤ 1048576) ∧ (-1048576 ≤ y / s ∧ y / s ≤ 1048576) := by
  unfold gcellE at h
  split at h
  · rename_i hs
    split at h
    · rename_i hc
      exact ⟨by simpa [sideOk] using hs, isCell_iff.1 hc⟩
    · cases h
  · cases h

theorem gridShifts_law (W : World) (s : Int) (_hs : (Lit.int .i64 s).wf = true) (z1 : List Value) (F1 : FitsAll [.int .i64, .int .i64] z1) (n : Int) (_hn : (Lit.int .i64 n).wf = true) :
    cl Try.prog 8 #[.int .i64 s, .agg z1.toArray, .int .i64 n] W fun v w' => v = .bool true ∧ Ext no W w' := by
  obtain ⟨x, y, rfl, hx, hy⟩ := vec_of F1
  have hk := and63' n
  generalize hkk : Go.bits .and .i64 n 63 = k at hk
  apply F8_calls
  unfold F8
  have hS := St.start W
  (refine St.nw hS ?_; clear hS; intro r1 _ hS)
  refine gawake_k fun w2 hx2 => asB_i rfl ?_
  replace hS := hS.to hx2
  rw [hkk]
  refine lv_i (hS.ld0 0 rfl rfl (asI_i rfl (hS.ld 0 rfl rfl (asI_i rfl ?_))))
  refine gCell_k hx hy fun w3 hx3 => ?_
  replace hS := hS.to hx3
  refine asT_i (l := [cv (gcellP s x y), .int .i64 (gcellE s x y)]) rfl rfl (asC_i rfl (asI_i rfl (lv_i ?_)))
  refine jn_of (fun t w' => ∃ b, t = [.bool b] ∧ w' = w3 ∧ (b = false → gcellE s x y = 0 ∧ x ≤ 1152921504606846976)) ?_ ?_
  · rintro _ w3 ⟨b, rfl, rfl, hb⟩
    refine asB_i rfl (cond_split (fun _ => ⟨rfl, hS.ext⟩) (fun hf => ?_))
    obtain ⟨h0, h1⟩ := hb hf
    obtain ⟨hs1, hxc, hyc⟩ := gcellE_zero h0
    refine hS.ld0 0 rfl rfl (asI_i rfl (hS.ld 0 rfl rfl (asI_i rfl ?_)))
    have hks : 0 ≤ k * s ∧ k * s ≤ 63 * 1099511627776 := ⟨Int.mul_nonneg hk.1 (by omega), Int.mul_le_mul hk.2 hs1.2 (by omega) (by decide)⟩
    obtain ⟨hx1, hx2⟩ := hx
    rw [wr64 (n := k * s) (by omega) (by omega), wr64 (n := x + k * s) (by omega) (by omega)]
    refine gCell_k (by unfold I64; omega) hy fun w4 hx4 => ?_
    replace hS := hS.to hx4
    refine asT_i (l := [cv (gcellP s (x + k * s) y), .int .i64 (gcellE s (x + k * s) y)]) rfl rfl (asC_i rfl (asI_i rfl (lv_i ?_)))
    have ediv : (x + k * s) / s = x / s + k := Int.add_mul_ediv_right _ _ (by omega)
    refine cond_split (fun h => ?_) (fun h => ?_)
    · refine ⟨?_, hS.ext⟩
      have h' : gcellE s (x + k * s) y ≠ 0 := by simpa using h
      have : gcellE s (x + k * s) y = 40 := by
        unfold gcellE at h' h0 ⊢
        split at h0
        · rename_i hso
          rw [if_pos hso] at h' ⊢
          split at h'
          · exact absurd rfl h'
          · rename_i hc
            rw [if_neg hc]
        · cases h0
      rw [this]
      rfl
    · have h' : gcellE s (x + k * s) y = 0 := by simpa using h
      obtain ⟨_, hxc2, _⟩ := gcellE_zero h'
      have e1 : gcellP s x y = (x / s, y / s) := by unfold gcellP; rw [if_pos h0]
      have e2 : gcellP s (x + k * s) y = (x / s + k, y / s) := by unfold gcellP; rw [if_pos h', ediv]
      rw [e1, e2]
      refine jn_of (fun t w' => t = [.bool true] ∧ w' = w4) ?_ ?_
      · rintro _ w4 ⟨rfl, rfl⟩
        exact asB_i rfl ⟨rfl, hS.ext⟩
      · intro J hJ
        refine F_add (a := x / s) (b := k) (by omega) (by omega) ?_
        refine cond_t (order_self (by omega)) (hJ _ _ ⟨?_, rfl⟩)
        simp only
        rw [order_self (a := y / s) (by omega)]
  · intro J hJ
    refine cond_f rfl (cond_split (fun h => hJ _ _ ⟨_, rfl, rfl, fun h => by cases h⟩) (fun h => ?_))
    refine hS.ld0 0 rfl rfl (asI_i rfl (hJ _ _ ⟨_, rfl, rfl, fun h2 => ⟨by simpa using h, ?_⟩⟩))
    have := of_decide_eq_false h2
    omega
end Go.Proofs.Ytamobmjfdiecbaa
