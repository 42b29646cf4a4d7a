/- PhR: how far a box is pushed, by the document. Conditions: those of each theorem, on its arguments. -/
import Derived.Test.YtamobmjfdiecbaaGreatDoorMgPhysicsSteps5
import Derived.Test.YtamobmjfdiecbaaGreatDoorMgPhysicsSteps6
import Derived.Test.YtamobmjfdiecbaaGreatDoorMgPhysicsSteps4
import Derived.Test.YtamobmjfdiecbaaGreatDoorRows
import Derived.ProofKit
import Derived.OpenShut
import Derived.LaidMore
import Derived.Stop.Joined
namespace Go.Proofs.YtamobmjfdiecbaaGreatDoor
open Go Go.Sx
attribute [local irreducible] jn lv ld st nw asI asB asP asS asY asM asF asA asT lp rn ru rq cl dw dr bnd bn2 nz nn hd hr so eqW

theorem rpush_k {a : Bx} {axis d : Int} {w : World} {l : Option Addr} {n c : Nat} {bs : List Bx} (hL : Reads w l (fl bs)) (hn : bs.length = n) (hm : n ≤ 1125899906842624) {K : Value → World → Prop}
    (hK : ∀ w', Ext no w w' → K (t3 (pushV a axis d bs)) w') : cl Tryz.prog 41 #[a.v, .int .i64 axis, .int .i64 d, .slice l n c] w K := by
  subst hn
  apply F41_calls
  unfold F41
  have hS := St.start w
  (refine St.nw hS ?_; clear hS; intro ra _ hS)
  repeat (first | (refine rright_k ?_; intro _ x; replace hS := hS.to x; clear x) | (refine asI_i rfl ?_) | (refine asB_i rfl ?_) | (refine asP_i rfl ?_) | (refine asS_i rfl ?_) | (refine asY_i rfl ?_) | (refine asM_i rfl ?_) | (refine asA_i rfl rfl ?_) | (refine asT_i rfl rfl ?_) | (refine lv_i ?_) | (refine St.dw hS ?_; clear hS; intro _ hS _) | (refine hS.ld0 0 rfl rfl ?_) | (refine hS.ld 0 rfl rfl ?_) | (refine hS.ld0 1 rfl rfl ?_) | (refine hS.ld 1 rfl rfl ?_) | (refine hS.ld0 2 rfl rfl ?_) | (refine hS.ld 2 rfl rfl ?_) | (refine hS.ld0 3 rfl rfl ?_) | (refine hS.ld 3 rfl rfl ?_) | (refine hS.ld0 4 rfl rfl ?_) | (refine hS.ld 4 rfl rfl ?_) | (refine hS.ld0 5 rfl rfl ?_) | (refine hS.ld 5 rfl rfl ?_) | (refine hS.ld0 6 rfl rfl ?_) | (refine hS.ld 6 rfl rfl ?_) | (refine hS.ld0 7 rfl rfl ?_) | (refine hS.ld 7 rfl rfl ?_) | (refine hS.hd0 0 rfl rfl ?_) | (refine hS.hd 0 rfl rfl ?_) | (refine hS.hd0 1 rfl rfl ?_) | (refine hS.hd 1 rfl rfl ?_) | (refine hS.hd0 2 rfl rfl ?_) | (refine hS.hd 2 rfl rfl ?_) | (refine hS.hd0 3 rfl rfl ?_) | (refine hS.hd 3 rfl rfl ?_) | (refine hS.hd0 4 rfl rfl ?_) | (refine hS.hd 4 rfl rfl ?_) | (refine hS.hd0 5 rfl rfl ?_) | (refine hS.hd 5 rfl rfl ?_) | (refine hS.hd0 6 rfl rfl ?_) | (refine hS.hd 6 rfl rfl ?_) | (refine hS.hd0 7 rfl rfl ?_) | (refine hS.hd 7 rfl rfl ?_) | (refine hS.st0 0 rfl rfl rfl ?_; clear hS; intro _ hS) | (refine hS.st 0 rfl rfl rfl ?_; clear hS; intro _ hS) | (refine hS.st0 1 rfl rfl rfl ?_; clear hS; intro _ hS) | (refine hS.st 1 rfl rfl rfl ?_; clear hS; intro _ hS) | (refine hS.st0 2 rfl rfl rfl ?_; clear hS; intro _ hS) | (refine hS.st 2 rfl rfl rfl ?_; clear hS; intro _ hS) | (refine hS.st0 3 rfl rfl rfl ?_; clear hS; intro _ hS) | (refine hS.st 3 rfl rfl rfl ?_; clear hS; intro _ hS) | (refine hS.st0 4 rfl rfl rfl ?_; clear hS; intro _ hS) | (refine hS.st 4 rfl rfl rfl ?_; clear hS; intro _ hS) | (refine hS.st0 5 rfl rfl rfl ?_; clear hS; intro _ hS) | (refine hS.st 5 rfl rfl rfl ?_; clear hS; intro _ hS) | (refine hS.st0 6 rfl rfl rfl ?_; clear hS; intro _ hS) | (refine hS.st 6 rfl rfl rfl ?_; clear hS; intro _ hS) | (refine hS.st0 7 rfl rfl rfl ?_; clear hS; intro _ hS) | (refine hS.st 7 rfl rfl rfl ?_; clear hS; intro _ hS) | (refine bnd_mk (by decide) (by decide) ?_) | (refine so_i rfl ?_))
  refine rights_k (Reads.no hS.ext hL) rfl hm ?_
  intro w1 x
  replace hS := hS.to x
  repeat (first | (refine asI_i rfl ?_) | (refine asB_i rfl ?_) | (refine asP_i rfl ?_) | (refine asS_i rfl ?_) | (refine asY_i rfl ?_) | (refine asM_i rfl ?_) | (refine asA_i rfl rfl ?_) | (refine asT_i rfl rfl ?_) | (refine lv_i ?_) | (refine St.dw hS ?_; clear hS; intro _ hS _) | (refine hS.ld0 0 rfl rfl ?_) | (refine hS.ld 0 rfl rfl ?_) | (refine hS.ld0 1 rfl rfl ?_) | (refine hS.ld 1 rfl rfl ?_) | (refine hS.ld0 2 rfl rfl ?_) | (refine hS.ld 2 rfl rfl ?_) | (refine hS.ld0 3 rfl rfl ?_) | (refine hS.ld 3 rfl rfl ?_) | (refine hS.ld0 4 rfl rfl ?_) | (refine hS.ld 4 rfl rfl ?_) | (refine hS.ld0 5 rfl rfl ?_) | (refine hS.ld 5 rfl rfl ?_) | (refine hS.ld0 6 rfl rfl ?_) | (refine hS.ld 6 rfl rfl ?_) | (refine hS.ld0 7 rfl rfl ?_) | (refine hS.ld 7 rfl rfl ?_) | (refine hS.hd0 0 rfl rfl ?_) | (refine hS.hd 0 rfl rfl ?_) | (refine hS.hd0 1 rfl rfl ?_) | (refine hS.hd 1 rfl rfl ?_) | (refine hS.hd0 2 rfl rfl ?_) | (refine hS.hd 2 rfl rfl ?_) | (refine hS.hd0 3 rfl rfl ?_) | (refine hS.hd 3 rfl rfl ?_) | (refine hS.hd0 4 rfl rfl ?_) | (refine hS.hd 4 rfl rfl ?_) | (refine hS.hd0 5 rfl rfl ?_) | (refine hS.hd 5 rfl rfl ?_) | (refine hS.hd0 6 rfl rfl ?_) | (refine hS.hd 6 rfl rfl ?_) | (refine hS.hd0 7 rfl rfl ?_) | (refine hS.hd 7 rfl rfl ?_) | (refine hS.st0 0 rfl rfl rfl ?_; clear hS; intro _ hS) | (refine hS.st 0 rfl rfl rfl ?_; clear hS; intro _ hS) | (refine hS.st0 1 rfl rfl rfl ?_; clear hS; intro _ hS) | (refine hS.st 1 rfl rfl rfl ?_; clear hS; intro _ hS) | (refine hS.st0 2 rfl rfl rfl ?_; clear hS; intro _ hS) | (refine hS.st 2 rfl rfl rfl ?_; clear hS; intro _ hS) | (refine hS.st0 3 rfl rfl rfl ?_; clear hS; intro _ hS) | (refine hS.st 3 rfl rfl rfl ?_; clear hS; intro _ hS) | (refine hS.st0 4 rfl rfl rfl ?_; clear hS; intro _ hS) | (refine hS.st 4 rfl rfl rfl ?_; clear hS; intro _ hS) | (refine hS.st0 5 rfl rfl rfl ?_; clear hS; intro _ hS) | (refine hS.st 5 rfl rfl rfl ?_; clear hS; intro _ hS) | (refine hS.st0 6 rfl rfl rfl ?_; clear hS; intro _ hS) | (refine hS.st 6 rfl rfl rfl ?_; clear hS; intro _ hS) | (refine hS.st0 7 rfl rfl rfl ?_; clear hS; intro _ hS) | (refine hS.st 7 rfl rfl rfl ?_; clear hS; intro _ hS) | (refine bnd_mk (by decide) (by decide) ?_) | (refine so_i rfl ?_))
  refine jn_of (fun s w' => s = [.bool (!(allR bs && a.right))] ∧ St w w' [(ra, a.cells, 27)]) ?_ ?_
  · clear hS
    rintro _ w2 ⟨rfl, hS⟩
    refine asB_i rfl (cond_split (fun h => ?_) (fun h => ?_))
    · repeat (first | (refine asI_i rfl ?_) | (refine asB_i rfl ?_) | (refine asP_i rfl ?_) | (refine asS_i rfl ?_) | (refine asY_i rfl ?_) | (refine asM_i rfl ?_) | (refine asA_i rfl rfl ?_) | (refine asT_i rfl rfl ?_) | (refine lv_i ?_) | (refine St.dw hS ?_; clear hS; intro _ hS _) | (refine hS.ld0 0 rfl rfl ?_) | (refine hS.ld 0 rfl rfl ?_) | (refine hS.ld0 1 rfl rfl ?_) | (refine hS.ld 1 rfl rfl ?_) | (refine hS.ld0 2 rfl rfl ?_) | (refine hS.ld 2 rfl rfl ?_) | (refine hS.ld0 3 rfl rfl ?_) | (refine hS.ld 3 rfl rfl ?_) | (refine hS.ld0 4 rfl rfl ?_) | (refine hS.ld 4 rfl rfl ?_) | (refine hS.ld0 5 rfl rfl ?_) | (refine hS.ld 5 rfl rfl ?_) | (refine hS.ld0 6 rfl rfl ?_) | (refine hS.ld 6 rfl rfl ?_) | (refine hS.ld0 7 rfl rfl ?_) | (refine hS.ld 7 rfl rfl ?_) | (refine hS.hd0 0 rfl rfl ?_) | (refine hS.hd 0 rfl rfl ?_) | (refine hS.hd0 1 rfl rfl ?_) | (refine hS.hd 1 rfl rfl ?_) | (refine hS.hd0 2 rfl rfl ?_) | (refine hS.hd 2 rfl rfl ?_) | (refine hS.hd0 3 rfl rfl ?_) | (refine hS.hd 3 rfl rfl ?_) | (refine hS.hd0 4 rfl rfl ?_) | (refine hS.hd 4 rfl rfl ?_) | (refine hS.hd0 5 rfl rfl ?_) | (refine hS.hd 5 rfl rfl ?_) | (refine hS.hd0 6 rfl rfl ?_) | (refine hS.hd 6 rfl rfl ?_) | (refine hS.hd0 7 rfl rfl ?_) | (refine hS.hd 7 rfl rfl ?_) | (refine hS.st0 0 rfl rfl rfl ?_; clear hS; intro _ hS) | (refine hS.st 0 rfl rfl rfl ?_; clear hS; intro _ hS) | (refine hS.st0 1 rfl rfl rfl ?_; clear hS; intro _ hS) | (refine hS.st 1 rfl rfl rfl ?_; clear hS; intro _ hS) | (refine hS.st0 2 rfl rfl rfl ?_; clear hS; intro _ hS) | (refine hS.st 2 rfl rfl rfl ?_; clear hS; intro _ hS) | (refine hS.st0 3 rfl rfl rfl ?_; clear hS; intro _ hS) | (refine hS.st 3 rfl rfl rfl ?_; clear hS; intro _ hS) | (refine hS.st0 4 rfl rfl rfl ?_; clear hS; intro _ hS) | (refine hS.st 4 rfl rfl rfl ?_; clear hS; intro _ hS) | (refine hS.st0 5 rfl rfl rfl ?_; clear hS; intro _ hS) | (refine hS.st 5 rfl rfl rfl ?_; clear hS; intro _ hS) | (refine hS.st0 6 rfl rfl rfl ?_; clear hS; intro _ hS) | (refine hS.st 6 rfl rfl rfl ?_; clear hS; intro _ hS) | (refine hS.st0 7 rfl rfl rfl ?_; clear hS; intro _ hS) | (refine hS.st 7 rfl rfl rfl ?_; clear hS; intro _ hS) | (refine bnd_mk (by decide) (by decide) ?_) | (refine so_i rfl ?_))
      have hk := hK _ hS.ext
      have e : pushV a axis d bs = (0, 0, 60) := by
        unfold pushV
        rw [if_neg]
        rintro ⟨h1, h2⟩
        rw [h1, h2] at h
        cases h
      rw [e] at hk
      exact hk
    have hR : allR bs = true ∧ a.right = true := by simpa using h
    refine rwithin_k ?_
    repeat (first | (refine asI_i rfl ?_) | (refine asB_i rfl ?_) | (refine asP_i rfl ?_) | (refine asS_i rfl ?_) | (refine asY_i rfl ?_) | (refine asM_i rfl ?_) | (refine asA_i rfl rfl ?_) | (refine asT_i rfl rfl ?_) | (refine lv_i ?_))
    refine jn_of (fun s w' => s = [.bool (!(decide (axis = 0 ∨ axis = 1) && within d))] ∧ St w w' [(ra, a.cells, 27)]) ?_ ?_
    · clear hS
      rintro _ w2 ⟨rfl, hS⟩
      refine asB_i rfl (cond_split (fun h => ?_) (fun h => ?_))
      · repeat (first | (refine asI_i rfl ?_) | (refine asB_i rfl ?_) | (refine asP_i rfl ?_) | (refine asS_i rfl ?_) | (refine asY_i rfl ?_) | (refine asM_i rfl ?_) | (refine asA_i rfl rfl ?_) | (refine asT_i rfl rfl ?_) | (refine lv_i ?_) | (refine St.dw hS ?_; clear hS; intro _ hS _) | (refine hS.ld0 0 rfl rfl ?_) | (refine hS.ld 0 rfl rfl ?_) | (refine hS.ld0 1 rfl rfl ?_) | (refine hS.ld 1 rfl rfl ?_) | (refine hS.ld0 2 rfl rfl ?_) | (refine hS.ld 2 rfl rfl ?_) | (refine hS.ld0 3 rfl rfl ?_) | (refine hS.ld 3 rfl rfl ?_) | (refine hS.ld0 4 rfl rfl ?_) | (refine hS.ld 4 rfl rfl ?_) | (refine hS.ld0 5 rfl rfl ?_) | (refine hS.ld 5 rfl rfl ?_) | (refine hS.ld0 6 rfl rfl ?_) | (refine hS.ld 6 rfl rfl ?_) | (refine hS.ld0 7 rfl rfl ?_) | (refine hS.ld 7 rfl rfl ?_) | (refine hS.hd0 0 rfl rfl ?_) | (refine hS.hd 0 rfl rfl ?_) | (refine hS.hd0 1 rfl rfl ?_) | (refine hS.hd 1 rfl rfl ?_) | (refine hS.hd0 2 rfl rfl ?_) | (refine hS.hd 2 rfl rfl ?_) | (refine hS.hd0 3 rfl rfl ?_) | (refine hS.hd 3 rfl rfl ?_) | (refine hS.hd0 4 rfl rfl ?_) | (refine hS.hd 4 rfl rfl ?_) | (refine hS.hd0 5 rfl rfl ?_) | (refine hS.hd 5 rfl rfl ?_) | (refine hS.hd0 6 rfl rfl ?_) | (refine hS.hd 6 rfl rfl ?_) | (refine hS.hd0 7 rfl rfl ?_) | (refine hS.hd 7 rfl rfl ?_) | (refine hS.st0 0 rfl rfl rfl ?_; clear hS; intro _ hS) | (refine hS.st 0 rfl rfl rfl ?_; clear hS; intro _ hS) | (refine hS.st0 1 rfl rfl rfl ?_; clear hS; intro _ hS) | (refine hS.st 1 rfl rfl rfl ?_; clear hS; intro _ hS) | (refine hS.st0 2 rfl rfl rfl ?_; clear hS; intro _ hS) | (refine hS.st 2 rfl rfl rfl ?_; clear hS; intro _ hS) | (refine hS.st0 3 rfl rfl rfl ?_; clear hS; intro _ hS) | (refine hS.st 3 rfl rfl rfl ?_; clear hS; intro _ hS) | (refine hS.st0 4 rfl rfl rfl ?_; clear hS; intro _ hS) | (refine hS.st 4 rfl rfl rfl ?_; clear hS; intro _ hS) | (refine hS.st0 5 rfl rfl rfl ?_; clear hS; intro _ hS) | (refine hS.st 5 rfl rfl rfl ?_; clear hS; intro _ hS) | (refine hS.st0 6 rfl rfl rfl ?_; clear hS; intro _ hS) | (refine hS.st 6 rfl rfl rfl ?_; clear hS; intro _ hS) | (refine hS.st0 7 rfl rfl rfl ?_; clear hS; intro _ hS) | (refine hS.st 7 rfl rfl rfl ?_; clear hS; intro _ hS) | (refine bnd_mk (by decide) (by decide) ?_) | (refine so_i rfl ?_))
        have hk := hK _ hS.ext
        have e : pushV a axis d bs = (0, 0, 1) := by
          unfold pushV
          rw [if_pos hR, if_neg]
          rintro ⟨h1, h2⟩
          rw [h2, decide_eq_true h1] at h
          cases h
        rw [e] at hk
        exact hk
      have hA : (axis = 0 ∨ axis = 1) ∧ within d = true := by
        rw [Bool.not_eq_false', Bool.and_eq_true] at h
        exact ⟨of_decide_eq_true h.1, h.2⟩
      have hd := within_iff.1 hA.2
      have hv : pushV a axis d bs = (sgn d * (pushF (sgn d) a (axis != 0) bs 0 (mgn d, -1)).1, (pushF (sgn d) a (axis != 0) bs 0 (mgn d, -1)).2, 0) := by
        unfold pushV
        rw [if_pos hR, if_pos hA]
      rw [hv] at hK
      have hmag : 0 ≤ mgn d ∧ mgn d ≤ 1152921504606846976 := by unfold mgn; split <;> omega
      have em : (if IntKind.wrap .i64 ((0 : Int) - d) > d then IntKind.wrap .i64 ((0 : Int) - d) else d) = mgn d := by
        rw [wr64 (n := 0 - d) (by omega) (by omega)]
        unfold mgn
        split <;> split <;> omega
      rw [em]
      repeat (first | (refine asI_i rfl ?_) | (refine asB_i rfl ?_) | (refine asP_i rfl ?_) | (refine asS_i rfl ?_) | (refine asY_i rfl ?_) | (refine asM_i rfl ?_) | (refine asA_i rfl rfl ?_) | (refine asT_i rfl rfl ?_) | (refine lv_i ?_))
      refine lp_mk (fun s : (Int × Int) × Nat => [.int .i64 s.1.1, .int .i64 s.1.2, .int .i64 (s.2 : Int)])
        (fun m s w' => m = bs.length - s.2 ∧ s.2 ≤ bs.length ∧ St w w' [(ra, a.cells, 27)] ∧ 0 ≤ s.1.1 ∧ s.1.1 ≤ mgn d ∧ pushF (sgn d) a (axis != 0) (bs.drop s.2) s.2 s.1 = pushF (sgn d) a (axis != 0) bs 0 (mgn d, -1)) bs.length ((mgn d, -1), 0) rfl
        ⟨rfl, Nat.zero_le _, hS, hmag.1, Int.le_refl _, rfl⟩ ?_
      clear hS
      rintro _ ⟨p, i⟩ w4 ⟨rfl, hi, hS, hp0, hp1, hF⟩ J hJ
      simp only at hi hp0 hp1 hF hJ ⊢
      repeat (first | (refine asI_i rfl ?_) | (refine asB_i rfl ?_) | (refine asP_i rfl ?_) | (refine asS_i rfl ?_) | (refine asY_i rfl ?_) | (refine asM_i rfl ?_) | (refine asA_i rfl rfl ?_) | (refine asT_i rfl rfl ?_) | (refine lv_i ?_))
      refine cond_split (fun hc => ?_) (fun hc => ?_)
      · have hil : i < bs.length := by simpa using hc
        have hb : bs[i]? = some bs[i] := List.getElem?_eq_getElem hil
        generalize bs[i] = b at hb
        have hbr : b.right = true := by
          have := hR.1
          rw [allR, List.all_eq_true] at this
          exact this b (List.mem_of_getElem? hb)
        refine jn_of (fun s w' => s = [.int .i64 (stepP (sgn d) a (axis != 0) b i p).1, .int .i64 (stepP (sgn d) a (axis != 0) b i p).2] ∧ St w w' [(ra, a.cells, 27)]) ?_ ?_
        · clear hS
          rintro _ w5 ⟨rfl, hS⟩
          repeat (first | (refine asI_i rfl ?_) | (refine asB_i rfl ?_) | (refine asP_i rfl ?_) | (refine asS_i rfl ?_) | (refine asY_i rfl ?_) | (refine asM_i rfl ?_) | (refine asA_i rfl rfl ?_) | (refine asT_i rfl rfl ?_) | (refine lv_i ?_))
          have ei : IntKind.wrap .i64 ((i : Int) + 1) = ((i + 1 : Nat) : Int) := by rw [wr64 (by omega) (by omega)]; omega
          rw [ei]
          have hle := stepP_le (s := sgn d) (a := a) (b := b) (k := axis != 0) (i := i) hp0
          refine hJ (bs.length - (i + 1)) (stepP (sgn d) a (axis != 0) b i p, i + 1) w5 (by omega) ⟨rfl, by simp only; omega, hS, hle.1, Int.le_trans hle.2 hp1, ?_⟩
          rw [← hF, drop_cons hb]
          simp only [pushF]
          congr 1
        · intro J2 hJ2
          repeat (first | (refine asI_i rfl ?_) | (refine asB_i rfl ?_) | (refine asP_i rfl ?_) | (refine asS_i rfl ?_) | (refine asY_i rfl ?_) | (refine asM_i rfl ?_) | (refine asA_i rfl rfl ?_) | (refine asT_i rfl rfl ?_) | (refine lv_i ?_) | (refine St.dw hS ?_; clear hS; intro _ hS _) | (refine hS.ld0 0 rfl rfl ?_) | (refine hS.ld 0 rfl rfl ?_) | (refine hS.ld0 1 rfl rfl ?_) | (refine hS.ld 1 rfl rfl ?_) | (refine hS.ld0 2 rfl rfl ?_) | (refine hS.ld 2 rfl rfl ?_) | (refine hS.ld0 3 rfl rfl ?_) | (refine hS.ld 3 rfl rfl ?_) | (refine hS.ld0 4 rfl rfl ?_) | (refine hS.ld 4 rfl rfl ?_) | (refine hS.ld0 5 rfl rfl ?_) | (refine hS.ld 5 rfl rfl ?_) | (refine hS.ld0 6 rfl rfl ?_) | (refine hS.ld 6 rfl rfl ?_) | (refine hS.ld0 7 rfl rfl ?_) | (refine hS.ld 7 rfl rfl ?_) | (refine hS.hd0 0 rfl rfl ?_) | (refine hS.hd 0 rfl rfl ?_) | (refine hS.hd0 1 rfl rfl ?_) | (refine hS.hd 1 rfl rfl ?_) | (refine hS.hd0 2 rfl rfl ?_) | (refine hS.hd 2 rfl rfl ?_) | (refine hS.hd0 3 rfl rfl ?_) | (refine hS.hd 3 rfl rfl ?_) | (refine hS.hd0 4 rfl rfl ?_) | (refine hS.hd 4 rfl rfl ?_) | (refine hS.hd0 5 rfl rfl ?_) | (refine hS.hd 5 rfl rfl ?_) | (refine hS.hd0 6 rfl rfl ?_) | (refine hS.hd 6 rfl rfl ?_) | (refine hS.hd0 7 rfl rfl ?_) | (refine hS.hd 7 rfl rfl ?_) | (refine hS.st0 0 rfl rfl rfl ?_; clear hS; intro _ hS) | (refine hS.st 0 rfl rfl rfl ?_; clear hS; intro _ hS) | (refine hS.st0 1 rfl rfl rfl ?_; clear hS; intro _ hS) | (refine hS.st 1 rfl rfl rfl ?_; clear hS; intro _ hS) | (refine hS.st0 2 rfl rfl rfl ?_; clear hS; intro _ hS) | (refine hS.st 2 rfl rfl rfl ?_; clear hS; intro _ hS) | (refine hS.st0 3 rfl rfl rfl ?_; clear hS; intro _ hS) | (refine hS.st 3 rfl rfl rfl ?_; clear hS; intro _ hS) | (refine hS.st0 4 rfl rfl rfl ?_; clear hS; intro _ hS) | (refine hS.st 4 rfl rfl rfl ?_; clear hS; intro _ hS) | (refine hS.st0 5 rfl rfl rfl ?_; clear hS; intro _ hS) | (refine hS.st 5 rfl rfl rfl ?_; clear hS; intro _ hS) | (refine hS.st0 6 rfl rfl rfl ?_; clear hS; intro _ hS) | (refine hS.st 6 rfl rfl rfl ?_; clear hS; intro _ hS) | (refine hS.st0 7 rfl rfl rfl ?_; clear hS; intro _ hS) | (refine hS.st 7 rfl rfl rfl ?_; clear hS; intro _ hS) | (refine bnd_mk (by decide) (by decide) ?_) | (refine so_i rfl ?_))
          refine bx_at (Reads.no hS.ext hL) rfl hb ?_
          intro ad c0 c1 c2
          refine ld_mk c0 (asI_i rfl (ld_mk c1 (asI_i rfl (ld_mk c2 (asI_i rfl ?_)))))
          clear c0 c1 c2
          rcases hA.1 with rfl | rfl
          · repeat (first | (refine rgap_k (a := a) (b := b) (axis := 0) hR.2 hbr ?_; intro _ x; replace hS := hS.to x; clear x) | (refine asI_i rfl ?_) | (refine asB_i rfl ?_) | (refine asP_i rfl ?_) | (refine asS_i rfl ?_) | (refine asY_i rfl ?_) | (refine asM_i rfl ?_) | (refine asA_i rfl rfl ?_) | (refine asT_i rfl rfl ?_) | (refine lv_i ?_) | (refine St.dw hS ?_; clear hS; intro _ hS _) | (refine hS.ld0 0 rfl rfl ?_) | (refine hS.ld 0 rfl rfl ?_) | (refine hS.ld0 1 rfl rfl ?_) | (refine hS.ld 1 rfl rfl ?_) | (refine hS.ld0 2 rfl rfl ?_) | (refine hS.ld 2 rfl rfl ?_) | (refine hS.ld0 3 rfl rfl ?_) | (refine hS.ld 3 rfl rfl ?_) | (refine hS.ld0 4 rfl rfl ?_) | (refine hS.ld 4 rfl rfl ?_) | (refine hS.ld0 5 rfl rfl ?_) | (refine hS.ld 5 rfl rfl ?_) | (refine hS.ld0 6 rfl rfl ?_) | (refine hS.ld 6 rfl rfl ?_) | (refine hS.ld0 7 rfl rfl ?_) | (refine hS.ld 7 rfl rfl ?_) | (refine hS.hd0 0 rfl rfl ?_) | (refine hS.hd 0 rfl rfl ?_) | (refine hS.hd0 1 rfl rfl ?_) | (refine hS.hd 1 rfl rfl ?_) | (refine hS.hd0 2 rfl rfl ?_) | (refine hS.hd 2 rfl rfl ?_) | (refine hS.hd0 3 rfl rfl ?_) | (refine hS.hd 3 rfl rfl ?_) | (refine hS.hd0 4 rfl rfl ?_) | (refine hS.hd 4 rfl rfl ?_) | (refine hS.hd0 5 rfl rfl ?_) | (refine hS.hd 5 rfl rfl ?_) | (refine hS.hd0 6 rfl rfl ?_) | (refine hS.hd 6 rfl rfl ?_) | (refine hS.hd0 7 rfl rfl ?_) | (refine hS.hd 7 rfl rfl ?_) | (refine hS.st0 0 rfl rfl rfl ?_; clear hS; intro _ hS) | (refine hS.st 0 rfl rfl rfl ?_; clear hS; intro _ hS) | (refine hS.st0 1 rfl rfl rfl ?_; clear hS; intro _ hS) | (refine hS.st 1 rfl rfl rfl ?_; clear hS; intro _ hS) | (refine hS.st0 2 rfl rfl rfl ?_; clear hS; intro _ hS) | (refine hS.st 2 rfl rfl rfl ?_; clear hS; intro _ hS) | (refine hS.st0 3 rfl rfl rfl ?_; clear hS; intro _ hS) | (refine hS.st 3 rfl rfl rfl ?_; clear hS; intro _ hS) | (refine hS.st0 4 rfl rfl rfl ?_; clear hS; intro _ hS) | (refine hS.st 4 rfl rfl rfl ?_; clear hS; intro _ hS) | (refine hS.st0 5 rfl rfl rfl ?_; clear hS; intro _ hS) | (refine hS.st 5 rfl rfl rfl ?_; clear hS; intro _ hS) | (refine hS.st0 6 rfl rfl rfl ?_; clear hS; intro _ hS) | (refine hS.st 6 rfl rfl rfl ?_; clear hS; intro _ hS) | (refine hS.st0 7 rfl rfl rfl ?_; clear hS; intro _ hS) | (refine hS.st 7 rfl rfl rfl ?_; clear hS; intro _ hS) | (refine bnd_mk (by decide) (by decide) ?_) | (refine so_i rfl ?_))
            refine bx_at (Reads.no hS.ext hL) rfl hb ?_
            intro ad c0 c1 c2
            refine ld_mk c0 (asI_i rfl (ld_mk c1 (asI_i rfl ?_)))
            repeat (first | (refine rpart_k (b := b) (axis := 0) ?_; intro _ x; replace hS := hS.to x; clear x) | (refine rpart_k (b := a) (axis := 0) ?_; intro _ x; replace hS := hS.to x; clear x) | (refine asI_i rfl ?_) | (refine asB_i rfl ?_) | (refine asP_i rfl ?_) | (refine asS_i rfl ?_) | (refine asY_i rfl ?_) | (refine asM_i rfl ?_) | (refine asA_i rfl rfl ?_) | (refine asT_i rfl rfl ?_) | (refine lv_i ?_) | (refine St.dw hS ?_; clear hS; intro _ hS _) | (refine hS.ld0 0 rfl rfl ?_) | (refine hS.ld 0 rfl rfl ?_) | (refine hS.ld0 1 rfl rfl ?_) | (refine hS.ld 1 rfl rfl ?_) | (refine hS.ld0 2 rfl rfl ?_) | (refine hS.ld 2 rfl rfl ?_) | (refine hS.ld0 3 rfl rfl ?_) | (refine hS.ld 3 rfl rfl ?_) | (refine hS.ld0 4 rfl rfl ?_) | (refine hS.ld 4 rfl rfl ?_) | (refine hS.ld0 5 rfl rfl ?_) | (refine hS.ld 5 rfl rfl ?_) | (refine hS.ld0 6 rfl rfl ?_) | (refine hS.ld 6 rfl rfl ?_) | (refine hS.ld0 7 rfl rfl ?_) | (refine hS.ld 7 rfl rfl ?_) | (refine hS.hd0 0 rfl rfl ?_) | (refine hS.hd 0 rfl rfl ?_) | (refine hS.hd0 1 rfl rfl ?_) | (refine hS.hd 1 rfl rfl ?_) | (refine hS.hd0 2 rfl rfl ?_) | (refine hS.hd 2 rfl rfl ?_) | (refine hS.hd0 3 rfl rfl ?_) | (refine hS.hd 3 rfl rfl ?_) | (refine hS.hd0 4 rfl rfl ?_) | (refine hS.hd 4 rfl rfl ?_) | (refine hS.hd0 5 rfl rfl ?_) | (refine hS.hd 5 rfl rfl ?_) | (refine hS.hd0 6 rfl rfl ?_) | (refine hS.hd 6 rfl rfl ?_) | (refine hS.hd0 7 rfl rfl ?_) | (refine hS.hd 7 rfl rfl ?_) | (refine hS.st0 0 rfl rfl rfl ?_; clear hS; intro _ hS) | (refine hS.st 0 rfl rfl rfl ?_; clear hS; intro _ hS) | (refine hS.st0 1 rfl rfl rfl ?_; clear hS; intro _ hS) | (refine hS.st 1 rfl rfl rfl ?_; clear hS; intro _ hS) | (refine hS.st0 2 rfl rfl rfl ?_; clear hS; intro _ hS) | (refine hS.st 2 rfl rfl rfl ?_; clear hS; intro _ hS) | (refine hS.st0 3 rfl rfl rfl ?_; clear hS; intro _ hS) | (refine hS.st 3 rfl rfl rfl ?_; clear hS; intro _ hS) | (refine hS.st0 4 rfl rfl rfl ?_; clear hS; intro _ hS) | (refine hS.st 4 rfl rfl rfl ?_; clear hS; intro _ hS) | (refine hS.st0 5 rfl rfl rfl ?_; clear hS; intro _ hS) | (refine hS.st 5 rfl rfl rfl ?_; clear hS; intro _ hS) | (refine hS.st0 6 rfl rfl rfl ?_; clear hS; intro _ hS) | (refine hS.st 6 rfl rfl rfl ?_; clear hS; intro _ hS) | (refine hS.st0 7 rfl rfl rfl ?_; clear hS; intro _ hS) | (refine hS.st 7 rfl rfl rfl ?_; clear hS; intro _ hS) | (refine bnd_mk (by decide) (by decide) ?_) | (refine so_i rfl ?_))
            have h1 := right_at hbr false
            have h2 := right_at hR.2 false
            have hside : IntKind.wrap .i64 (b.at false - a.at false) = b.at false - a.at false := wr64 (by omega) (by omega)
            refine jn_of (fun s w' => s = [.bool (decide (0 < d ∧ 0 < b.at false - a.at false ∨ d < 0 ∧ b.at false - a.at false < 0))] ∧ St w w' [(ra, a.cells, 27)]) ?_ ?_
            · clear hS
              rintro _ w6 ⟨rfl, hS⟩
              repeat (first | (refine asI_i rfl ?_) | (refine asB_i rfl ?_) | (refine asP_i rfl ?_) | (refine asS_i rfl ?_) | (refine asY_i rfl ?_) | (refine asM_i rfl ?_) | (refine asA_i rfl rfl ?_) | (refine asT_i rfl rfl ?_) | (refine lv_i ?_))
              have hah : ∀ h : stepC (sgn d) a false b p.1, 0 < d ∧ 0 < b.at false - a.at false ∨ d < 0 ∧ b.at false - a.at false < 0 := fun h => by
                obtain ⟨q1, q2, q3, q4⟩ := h
                unfold sgn at q1
                unfold mgn at hp1
                split at q1
                · exact .inr ⟨by assumption, by omega⟩
                · refine .inl ⟨?_, by omega⟩
                  rw [if_neg (by assumption)] at hp1
                  omega
              have hsg : 0 < d ∧ 0 < b.at false - a.at false ∨ d < 0 ∧ b.at false - a.at false < 0 → 0 < sgn d * (b.at false - a.at false) := fun h => by
                unfold sgn
                rcases h with ⟨h, h'⟩ | ⟨h, h'⟩
                · rw [if_neg (by omega)]; omega
                · rw [if_pos h]; omega
              refine jn_of (fun s w' => s = [.bool (decide (stepC (sgn d) a false b p.1))] ∧ St w w' [(ra, a.cells, 27)]) ?_ ?_
              · clear hS
                rintro _ w7 ⟨rfl, hS⟩
                refine asB_i rfl (cond_split (fun hst => ?_) (fun hst => ?_))
                · have hst' := of_decide_eq_true hst
                  repeat (first | (refine asI_i rfl ?_) | (refine asB_i rfl ?_) | (refine asP_i rfl ?_) | (refine asS_i rfl ?_) | (refine asY_i rfl ?_) | (refine asM_i rfl ?_) | (refine asA_i rfl rfl ?_) | (refine asT_i rfl rfl ?_) | (refine lv_i ?_))
                  refine hJ2 _ _ ⟨?_, hS⟩
                  show _ = [Value.int .i64 (stepP (sgn d) a false b i p).1, Value.int .i64 (stepP (sgn d) a false b i p).2]
                  unfold stepP
                  rw [if_pos hst']
                  rfl
                · have hst' := of_decide_eq_false hst
                  refine hJ2 _ _ ⟨?_, hS⟩
                  show _ = [Value.int .i64 (stepP (sgn d) a false b i p).1, Value.int .i64 (stepP (sgn d) a false b i p).2]
                  unfold stepP
                  rw [if_neg hst']
              · intro J3 hJ3
                repeat (first | (refine asI_i rfl ?_) | (refine asB_i rfl ?_) | (refine asP_i rfl ?_) | (refine asS_i rfl ?_) | (refine asY_i rfl ?_) | (refine asM_i rfl ?_) | (refine asA_i rfl rfl ?_) | (refine asT_i rfl rfl ?_) | (refine lv_i ?_) | (refine St.dw hS ?_; clear hS; intro _ hS _) | (refine hS.ld0 0 rfl rfl ?_) | (refine hS.ld 0 rfl rfl ?_) | (refine hS.ld0 1 rfl rfl ?_) | (refine hS.ld 1 rfl rfl ?_) | (refine hS.ld0 2 rfl rfl ?_) | (refine hS.ld 2 rfl rfl ?_) | (refine hS.ld0 3 rfl rfl ?_) | (refine hS.ld 3 rfl rfl ?_) | (refine hS.ld0 4 rfl rfl ?_) | (refine hS.ld 4 rfl rfl ?_) | (refine hS.ld0 5 rfl rfl ?_) | (refine hS.ld 5 rfl rfl ?_) | (refine hS.ld0 6 rfl rfl ?_) | (refine hS.ld 6 rfl rfl ?_) | (refine hS.ld0 7 rfl rfl ?_) | (refine hS.ld 7 rfl rfl ?_) | (refine hS.hd0 0 rfl rfl ?_) | (refine hS.hd 0 rfl rfl ?_) | (refine hS.hd0 1 rfl rfl ?_) | (refine hS.hd 1 rfl rfl ?_) | (refine hS.hd0 2 rfl rfl ?_) | (refine hS.hd 2 rfl rfl ?_) | (refine hS.hd0 3 rfl rfl ?_) | (refine hS.hd 3 rfl rfl ?_) | (refine hS.hd0 4 rfl rfl ?_) | (refine hS.hd 4 rfl rfl ?_) | (refine hS.hd0 5 rfl rfl ?_) | (refine hS.hd 5 rfl rfl ?_) | (refine hS.hd0 6 rfl rfl ?_) | (refine hS.hd 6 rfl rfl ?_) | (refine hS.hd0 7 rfl rfl ?_) | (refine hS.hd 7 rfl rfl ?_) | (refine hS.st0 0 rfl rfl rfl ?_; clear hS; intro _ hS) | (refine hS.st 0 rfl rfl rfl ?_; clear hS; intro _ hS) | (refine hS.st0 1 rfl rfl rfl ?_; clear hS; intro _ hS) | (refine hS.st 1 rfl rfl rfl ?_; clear hS; intro _ hS) | (refine hS.st0 2 rfl rfl rfl ?_; clear hS; intro _ hS) | (refine hS.st 2 rfl rfl rfl ?_; clear hS; intro _ hS) | (refine hS.st0 3 rfl rfl rfl ?_; clear hS; intro _ hS) | (refine hS.st 3 rfl rfl rfl ?_; clear hS; intro _ hS) | (refine hS.st0 4 rfl rfl rfl ?_; clear hS; intro _ hS) | (refine hS.st 4 rfl rfl rfl ?_; clear hS; intro _ hS) | (refine hS.st0 5 rfl rfl rfl ?_; clear hS; intro _ hS) | (refine hS.st 5 rfl rfl rfl ?_; clear hS; intro _ hS) | (refine hS.st0 6 rfl rfl rfl ?_; clear hS; intro _ hS) | (refine hS.st 6 rfl rfl rfl ?_; clear hS; intro _ hS) | (refine hS.st0 7 rfl rfl rfl ?_; clear hS; intro _ hS) | (refine hS.st 7 rfl rfl rfl ?_; clear hS; intro _ hS) | (refine bnd_mk (by decide) (by decide) ?_) | (refine so_i rfl ?_))
                refine cond_split (fun t1 => ?_) (fun t1 => hJ3 _ _ ⟨?_, hS⟩)
                · have t1' := hsg (of_decide_eq_true t1)
                  refine cond_split (fun t2 => ?_) (fun t2 => hJ3 _ _ ⟨?_, hS⟩)
                  · have t2' : 0 ≤ gap a b false := of_decide_eq_true t2
                    repeat (first | (refine asI_i rfl ?_) | (refine asB_i rfl ?_) | (refine asP_i rfl ?_) | (refine asS_i rfl ?_) | (refine asY_i rfl ?_) | (refine asM_i rfl ?_) | (refine asA_i rfl rfl ?_) | (refine asT_i rfl rfl ?_) | (refine lv_i ?_) | (refine St.dw hS ?_; clear hS; intro _ hS _) | (refine hS.ld0 0 rfl rfl ?_) | (refine hS.ld 0 rfl rfl ?_) | (refine hS.ld0 1 rfl rfl ?_) | (refine hS.ld 1 rfl rfl ?_) | (refine hS.ld0 2 rfl rfl ?_) | (refine hS.ld 2 rfl rfl ?_) | (refine hS.ld0 3 rfl rfl ?_) | (refine hS.ld 3 rfl rfl ?_) | (refine hS.ld0 4 rfl rfl ?_) | (refine hS.ld 4 rfl rfl ?_) | (refine hS.ld0 5 rfl rfl ?_) | (refine hS.ld 5 rfl rfl ?_) | (refine hS.ld0 6 rfl rfl ?_) | (refine hS.ld 6 rfl rfl ?_) | (refine hS.ld0 7 rfl rfl ?_) | (refine hS.ld 7 rfl rfl ?_) | (refine hS.hd0 0 rfl rfl ?_) | (refine hS.hd 0 rfl rfl ?_) | (refine hS.hd0 1 rfl rfl ?_) | (refine hS.hd 1 rfl rfl ?_) | (refine hS.hd0 2 rfl rfl ?_) | (refine hS.hd 2 rfl rfl ?_) | (refine hS.hd0 3 rfl rfl ?_) | (refine hS.hd 3 rfl rfl ?_) | (refine hS.hd0 4 rfl rfl ?_) | (refine hS.hd 4 rfl rfl ?_) | (refine hS.hd0 5 rfl rfl ?_) | (refine hS.hd 5 rfl rfl ?_) | (refine hS.hd0 6 rfl rfl ?_) | (refine hS.hd 6 rfl rfl ?_) | (refine hS.hd0 7 rfl rfl ?_) | (refine hS.hd 7 rfl rfl ?_) | (refine hS.st0 0 rfl rfl rfl ?_; clear hS; intro _ hS) | (refine hS.st 0 rfl rfl rfl ?_; clear hS; intro _ hS) | (refine hS.st0 1 rfl rfl rfl ?_; clear hS; intro _ hS) | (refine hS.st 1 rfl rfl rfl ?_; clear hS; intro _ hS) | (refine hS.st0 2 rfl rfl rfl ?_; clear hS; intro _ hS) | (refine hS.st 2 rfl rfl rfl ?_; clear hS; intro _ hS) | (refine hS.st0 3 rfl rfl rfl ?_; clear hS; intro _ hS) | (refine hS.st 3 rfl rfl rfl ?_; clear hS; intro _ hS) | (refine hS.st0 4 rfl rfl rfl ?_; clear hS; intro _ hS) | (refine hS.st 4 rfl rfl rfl ?_; clear hS; intro _ hS) | (refine hS.st0 5 rfl rfl rfl ?_; clear hS; intro _ hS) | (refine hS.st 5 rfl rfl rfl ?_; clear hS; intro _ hS) | (refine hS.st0 6 rfl rfl rfl ?_; clear hS; intro _ hS) | (refine hS.st 6 rfl rfl rfl ?_; clear hS; intro _ hS) | (refine hS.st0 7 rfl rfl rfl ?_; clear hS; intro _ hS) | (refine hS.st 7 rfl rfl rfl ?_; clear hS; intro _ hS) | (refine bnd_mk (by decide) (by decide) ?_) | (refine so_i rfl ?_))
                    refine bx_at (Reads.no hS.ext hL) rfl hb ?_
                    intro ad c0 c1 c2
                    refine ld_mk c0 (asI_i rfl (ld_mk c1 (asI_i rfl (ld_mk c2 (asI_i rfl ?_)))))
                    refine rgap_k (a := a) (b := b) hR.2 hbr ?_
                    intro _ x
                    replace hS := hS.to x
                    have ew : (IntKind.wrap .i64 ((1 : Int) - 0) != 0) = true := by decide
                    rw [ew]
                    repeat (first | (refine asI_i rfl ?_) | (refine asB_i rfl ?_) | (refine asP_i rfl ?_) | (refine asS_i rfl ?_) | (refine asY_i rfl ?_) | (refine asM_i rfl ?_) | (refine asA_i rfl rfl ?_) | (refine asT_i rfl rfl ?_) | (refine lv_i ?_) | (refine St.dw hS ?_; clear hS; intro _ hS _) | (refine hS.ld0 0 rfl rfl ?_) | (refine hS.ld 0 rfl rfl ?_) | (refine hS.ld0 1 rfl rfl ?_) | (refine hS.ld 1 rfl rfl ?_) | (refine hS.ld0 2 rfl rfl ?_) | (refine hS.ld 2 rfl rfl ?_) | (refine hS.ld0 3 rfl rfl ?_) | (refine hS.ld 3 rfl rfl ?_) | (refine hS.ld0 4 rfl rfl ?_) | (refine hS.ld 4 rfl rfl ?_) | (refine hS.ld0 5 rfl rfl ?_) | (refine hS.ld 5 rfl rfl ?_) | (refine hS.ld0 6 rfl rfl ?_) | (refine hS.ld 6 rfl rfl ?_) | (refine hS.ld0 7 rfl rfl ?_) | (refine hS.ld 7 rfl rfl ?_) | (refine hS.hd0 0 rfl rfl ?_) | (refine hS.hd 0 rfl rfl ?_) | (refine hS.hd0 1 rfl rfl ?_) | (refine hS.hd 1 rfl rfl ?_) | (refine hS.hd0 2 rfl rfl ?_) | (refine hS.hd 2 rfl rfl ?_) | (refine hS.hd0 3 rfl rfl ?_) | (refine hS.hd 3 rfl rfl ?_) | (refine hS.hd0 4 rfl rfl ?_) | (refine hS.hd 4 rfl rfl ?_) | (refine hS.hd0 5 rfl rfl ?_) | (refine hS.hd 5 rfl rfl ?_) | (refine hS.hd0 6 rfl rfl ?_) | (refine hS.hd 6 rfl rfl ?_) | (refine hS.hd0 7 rfl rfl ?_) | (refine hS.hd 7 rfl rfl ?_) | (refine hS.st0 0 rfl rfl rfl ?_; clear hS; intro _ hS) | (refine hS.st 0 rfl rfl rfl ?_; clear hS; intro _ hS) | (refine hS.st0 1 rfl rfl rfl ?_; clear hS; intro _ hS) | (refine hS.st 1 rfl rfl rfl ?_; clear hS; intro _ hS) | (refine hS.st0 2 rfl rfl rfl ?_; clear hS; intro _ hS) | (refine hS.st 2 rfl rfl rfl ?_; clear hS; intro _ hS) | (refine hS.st0 3 rfl rfl rfl ?_; clear hS; intro _ hS) | (refine hS.st 3 rfl rfl rfl ?_; clear hS; intro _ hS) | (refine hS.st0 4 rfl rfl rfl ?_; clear hS; intro _ hS) | (refine hS.st 4 rfl rfl rfl ?_; clear hS; intro _ hS) | (refine hS.st0 5 rfl rfl rfl ?_; clear hS; intro _ hS) | (refine hS.st 5 rfl rfl rfl ?_; clear hS; intro _ hS) | (refine hS.st0 6 rfl rfl rfl ?_; clear hS; intro _ hS) | (refine hS.st 6 rfl rfl rfl ?_; clear hS; intro _ hS) | (refine hS.st0 7 rfl rfl rfl ?_; clear hS; intro _ hS) | (refine hS.st 7 rfl rfl rfl ?_; clear hS; intro _ hS) | (refine bnd_mk (by decide) (by decide) ?_) | (refine so_i rfl ?_))
                    refine cond_split (fun t3 => hJ3 _ _ ⟨?_, hS⟩) (fun t3 => hJ3 _ _ ⟨?_, hS⟩)
                    · have t3' : gap a b true < 0 := of_decide_eq_true t3
                      congr 2
                      refine Bool.eq_iff_iff.2 ⟨fun t4 => decide_eq_true ⟨t1', t2', of_decide_eq_true t4, t3'⟩, fun t4 => decide_eq_true (of_decide_eq_true t4).2.2.1⟩
                    · rw [decide_eq_false (fun hh : stepC (sgn d) a false b p.1 => of_decide_eq_false t3 hh.2.2.2)]
                  · rw [decide_eq_false (fun hh : stepC (sgn d) a false b p.1 => of_decide_eq_false t2 hh.2.1)]
                · rw [decide_eq_false (fun hh : stepC (sgn d) a false b p.1 => of_decide_eq_false t1 (hah hh))]
            · intro J3 hJ3
              have e3 : IntKind.wrap .i64 (b.at ((0 : Int) != 0) - a.at ((0 : Int) != 0)) = b.at false - a.at false := hside
              rw [e3]
              refine cond_split (fun t1 => cond_split (fun t2 => hJ3 _ _ ⟨?_, hS⟩) (fun t2 => cond_split (fun t3 => ?_) (fun t3 => hJ3 _ _ ⟨?_, hS⟩))) (fun t1 => cond_split (fun t3 => hJ3 _ _ ⟨?_, hS⟩) (fun t3 => hJ3 _ _ ⟨?_, hS⟩))
              · have u1 : 0 < d := of_decide_eq_true t1
                have u2 : 0 < b.at false - a.at false := of_decide_eq_true t2
                rw [decide_eq_true (.inl ⟨u1, u2⟩)]
              · have u1 : 0 < d := of_decide_eq_true t1
                have u3 : d < 0 := of_decide_eq_true t3
                omega
              · have u1 : 0 < d := of_decide_eq_true t1
                have u2 : ¬ 0 < b.at false - a.at false := of_decide_eq_false t2
                rw [decide_eq_false (by omega)]
              · have u1 : ¬ 0 < d := of_decide_eq_false t1
                have u3 : d < 0 := of_decide_eq_true t3
                congr 2
                refine Bool.eq_iff_iff.2 ⟨fun t4 => decide_eq_true (.inr ⟨u3, of_decide_eq_true t4⟩), fun t4 => decide_eq_true ?_⟩
                have := of_decide_eq_true t4
                omega
              · have u1 : ¬ 0 < d := of_decide_eq_false t1
                have u3 : ¬ d < 0 := of_decide_eq_false t3
                rw [decide_eq_false (by omega)]
          · repeat (first | (refine rgap_k (a := a) (b := b) (axis := 1) hR.2 hbr ?_; intro _ x; replace hS := hS.to x; clear x) | (refine asI_i rfl ?_) | (refine asB_i rfl ?_) | (refine asP_i rfl ?_) | (refine asS_i rfl ?_) | (refine asY_i rfl ?_) | (refine asM_i rfl ?_) | (refine asA_i rfl rfl ?_) | (refine asT_i rfl rfl ?_) | (refine lv_i ?_) | (refine St.dw hS ?_; clear hS; intro _ hS _) | (refine hS.ld0 0 rfl rfl ?_) | (refine hS.ld 0 rfl rfl ?_) | (refine hS.ld0 1 rfl rfl ?_) | (refine hS.ld 1 rfl rfl ?_) | (refine hS.ld0 2 rfl rfl ?_) | (refine hS.ld 2 rfl rfl ?_) | (refine hS.ld0 3 rfl rfl ?_) | (refine hS.ld 3 rfl rfl ?_) | (refine hS.ld0 4 rfl rfl ?_) | (refine hS.ld 4 rfl rfl ?_) | (refine hS.ld0 5 rfl rfl ?_) | (refine hS.ld 5 rfl rfl ?_) | (refine hS.ld0 6 rfl rfl ?_) | (refine hS.ld 6 rfl rfl ?_) | (refine hS.ld0 7 rfl rfl ?_) | (refine hS.ld 7 rfl rfl ?_) | (refine hS.hd0 0 rfl rfl ?_) | (refine hS.hd 0 rfl rfl ?_) | (refine hS.hd0 1 rfl rfl ?_) | (refine hS.hd 1 rfl rfl ?_) | (refine hS.hd0 2 rfl rfl ?_) | (refine hS.hd 2 rfl rfl ?_) | (refine hS.hd0 3 rfl rfl ?_) | (refine hS.hd 3 rfl rfl ?_) | (refine hS.hd0 4 rfl rfl ?_) | (refine hS.hd 4 rfl rfl ?_) | (refine hS.hd0 5 rfl rfl ?_) | (refine hS.hd 5 rfl rfl ?_) | (refine hS.hd0 6 rfl rfl ?_) | (refine hS.hd 6 rfl rfl ?_) | (refine hS.hd0 7 rfl rfl ?_) | (refine hS.hd 7 rfl rfl ?_) | (refine hS.st0 0 rfl rfl rfl ?_; clear hS; intro _ hS) | (refine hS.st 0 rfl rfl rfl ?_; clear hS; intro _ hS) | (refine hS.st0 1 rfl rfl rfl ?_; clear hS; intro _ hS) | (refine hS.st 1 rfl rfl rfl ?_; clear hS; intro _ hS) | (refine hS.st0 2 rfl rfl rfl ?_; clear hS; intro _ hS) | (refine hS.st 2 rfl rfl rfl ?_; clear hS; intro _ hS) | (refine hS.st0 3 rfl rfl rfl ?_; clear hS; intro _ hS) | (refine hS.st 3 rfl rfl rfl ?_; clear hS; intro _ hS) | (refine hS.st0 4 rfl rfl rfl ?_; clear hS; intro _ hS) | (refine hS.st 4 rfl rfl rfl ?_; clear hS; intro _ hS) | (refine hS.st0 5 rfl rfl rfl ?_; clear hS; intro _ hS) | (refine hS.st 5 rfl rfl rfl ?_; clear hS; intro _ hS) | (refine hS.st0 6 rfl rfl rfl ?_; clear hS; intro _ hS) | (refine hS.st 6 rfl rfl rfl ?_; clear hS; intro _ hS) | (refine hS.st0 7 rfl rfl rfl ?_; clear hS; intro _ hS) | (refine hS.st 7 rfl rfl rfl ?_; clear hS; intro _ hS) | (refine bnd_mk (by decide) (by decide) ?_) | (refine so_i rfl ?_))
            refine bx_at (Reads.no hS.ext hL) rfl hb ?_
            intro ad c0 c1 c2
            refine ld_mk c0 (asI_i rfl (ld_mk c1 (asI_i rfl ?_)))
            repeat (first | (refine rpart_k (b := b) (axis := 1) ?_; intro _ x; replace hS := hS.to x; clear x) | (refine rpart_k (b := a) (axis := 1) ?_; intro _ x; replace hS := hS.to x; clear x) | (refine asI_i rfl ?_) | (refine asB_i rfl ?_) | (refine asP_i rfl ?_) | (refine asS_i rfl ?_) | (refine asY_i rfl ?_) | (refine asM_i rfl ?_) | (refine asA_i rfl rfl ?_) | (refine asT_i rfl rfl ?_) | (refine lv_i ?_) | (refine St.dw hS ?_; clear hS; intro _ hS _) | (refine hS.ld0 0 rfl rfl ?_) | (refine hS.ld 0 rfl rfl ?_) | (refine hS.ld0 1 rfl rfl ?_) | (refine hS.ld 1 rfl rfl ?_) | (refine hS.ld0 2 rfl rfl ?_) | (refine hS.ld 2 rfl rfl ?_) | (refine hS.ld0 3 rfl rfl ?_) | (refine hS.ld 3 rfl rfl ?_) | (refine hS.ld0 4 rfl rfl ?_) | (refine hS.ld 4 rfl rfl ?_) | (refine hS.ld0 5 rfl rfl ?_) | (refine hS.ld 5 rfl rfl ?_) | (refine hS.ld0 6 rfl rfl ?_) | (refine hS.ld 6 rfl rfl ?_) | (refine hS.ld0 7 rfl rfl ?_) | (refine hS.ld 7 rfl rfl ?_) | (refine hS.hd0 0 rfl rfl ?_) | (refine hS.hd 0 rfl rfl ?_) | (refine hS.hd0 1 rfl rfl ?_) | (refine hS.hd 1 rfl rfl ?_) | (refine hS.hd0 2 rfl rfl ?_) | (refine hS.hd 2 rfl rfl ?_) | (refine hS.hd0 3 rfl rfl ?_) | (refine hS.hd 3 rfl rfl ?_) | (refine hS.hd0 4 rfl rfl ?_) | (refine hS.hd 4 rfl rfl ?_) | (refine hS.hd0 5 rfl rfl ?_) | (refine hS.hd 5 rfl rfl ?_) | (refine hS.hd0 6 rfl rfl ?_) | (refine hS.hd 6 rfl rfl ?_) | (refine hS.hd0 7 rfl rfl ?_) | (refine hS.hd 7 rfl rfl ?_) | (refine hS.st0 0 rfl rfl rfl ?_; clear hS; intro _ hS) | (refine hS.st 0 rfl rfl rfl ?_; clear hS; intro _ hS) | (refine hS.st0 1 rfl rfl rfl ?_; clear hS; intro _ hS) | (refine hS.st 1 rfl rfl rfl ?_; clear hS; intro _ hS) | (refine hS.st0 2 rfl rfl rfl ?_; clear hS; intro _ hS) | (refine hS.st 2 rfl rfl rfl ?_; clear hS; intro _ hS) | (refine hS.st0 3 rfl rfl rfl ?_; clear hS; intro _ hS) | (refine hS.st 3 rfl rfl rfl ?_; clear hS; intro _ hS) | (refine hS.st0 4 rfl rfl rfl ?_; clear hS; intro _ hS) | (refine hS.st 4 rfl rfl rfl ?_; clear hS; intro _ hS) | (refine hS.st0 5 rfl rfl rfl ?_; clear hS; intro _ hS) | (refine hS.st 5 rfl rfl rfl ?_; clear hS; intro _ hS) | (refine hS.st0 6 rfl rfl rfl ?_; clear hS; intro _ hS) | (refine hS.st 6 rfl rfl rfl ?_; clear hS; intro _ hS) | (refine hS.st0 7 rfl rfl rfl ?_; clear hS; intro _ hS) | (refine hS.st 7 rfl rfl rfl ?_; clear hS; intro _ hS) | (refine bnd_mk (by decide) (by decide) ?_) | (refine so_i rfl ?_))
            have h1 := right_at hbr true
            have h2 := right_at hR.2 true
            have hside : IntKind.wrap .i64 (b.at true - a.at true) = b.at true - a.at true := wr64 (by omega) (by omega)
            refine jn_of (fun s w' => s = [.bool (decide (0 < d ∧ 0 < b.at true - a.at true ∨ d < 0 ∧ b.at true - a.at true < 0))] ∧ St w w' [(ra, a.cells, 27)]) ?_ ?_
            · clear hS
              rintro _ w6 ⟨rfl, hS⟩
              repeat (first | (refine asI_i rfl ?_) | (refine asB_i rfl ?_) | (refine asP_i rfl ?_) | (refine asS_i rfl ?_) | (refine asY_i rfl ?_) | (refine asM_i rfl ?_) | (refine asA_i rfl rfl ?_) | (refine asT_i rfl rfl ?_) | (refine lv_i ?_))
              have hah : ∀ h : stepC (sgn d) a true b p.1, 0 < d ∧ 0 < b.at true - a.at true ∨ d < 0 ∧ b.at true - a.at true < 0 := fun h => by
                obtain ⟨q1, q2, q3, q4⟩ := h
                unfold sgn at q1
                unfold mgn at hp1
                split at q1
                · exact .inr ⟨by assumption, by omega⟩
                · refine .inl ⟨?_, by omega⟩
                  rw [if_neg (by assumption)] at hp1
                  omega
              have hsg : 0 < d ∧ 0 < b.at true - a.at true ∨ d < 0 ∧ b.at true - a.at true < 0 → 0 < sgn d * (b.at true - a.at true) := fun h => by
                unfold sgn
                rcases h with ⟨h, h'⟩ | ⟨h, h'⟩
                · rw [if_neg (by omega)]; omega
                · rw [if_pos h]; omega
              refine jn_of (fun s w' => s = [.bool (decide (stepC (sgn d) a true b p.1))] ∧ St w w' [(ra, a.cells, 27)]) ?_ ?_
              · clear hS
                rintro _ w7 ⟨rfl, hS⟩
                refine asB_i rfl (cond_split (fun hst => ?_) (fun hst => ?_))
                · have hst' := of_decide_eq_true hst
                  repeat (first | (refine asI_i rfl ?_) | (refine asB_i rfl ?_) | (refine asP_i rfl ?_) | (refine asS_i rfl ?_) | (refine asY_i rfl ?_) | (refine asM_i rfl ?_) | (refine asA_i rfl rfl ?_) | (refine asT_i rfl rfl ?_) | (refine lv_i ?_))
                  refine hJ2 _ _ ⟨?_, hS⟩
                  show _ = [Value.int .i64 (stepP (sgn d) a true b i p).1, Value.int .i64 (stepP (sgn d) a true b i p).2]
                  unfold stepP
                  rw [if_pos hst']
                  rfl
                · have hst' := of_decide_eq_false hst
                  refine hJ2 _ _ ⟨?_, hS⟩
                  show _ = [Value.int .i64 (stepP (sgn d) a true b i p).1, Value.int .i64 (stepP (sgn d) a true b i p).2]
                  unfold stepP
                  rw [if_neg hst']
              · intro J3 hJ3
                repeat (first | (refine asI_i rfl ?_) | (refine asB_i rfl ?_) | (refine asP_i rfl ?_) | (refine asS_i rfl ?_) | (refine asY_i rfl ?_) | (refine asM_i rfl ?_) | (refine asA_i rfl rfl ?_) | (refine asT_i rfl rfl ?_) | (refine lv_i ?_) | (refine St.dw hS ?_; clear hS; intro _ hS _) | (refine hS.ld0 0 rfl rfl ?_) | (refine hS.ld 0 rfl rfl ?_) | (refine hS.ld0 1 rfl rfl ?_) | (refine hS.ld 1 rfl rfl ?_) | (refine hS.ld0 2 rfl rfl ?_) | (refine hS.ld 2 rfl rfl ?_) | (refine hS.ld0 3 rfl rfl ?_) | (refine hS.ld 3 rfl rfl ?_) | (refine hS.ld0 4 rfl rfl ?_) | (refine hS.ld 4 rfl rfl ?_) | (refine hS.ld0 5 rfl rfl ?_) | (refine hS.ld 5 rfl rfl ?_) | (refine hS.ld0 6 rfl rfl ?_) | (refine hS.ld 6 rfl rfl ?_) | (refine hS.ld0 7 rfl rfl ?_) | (refine hS.ld 7 rfl rfl ?_) | (refine hS.hd0 0 rfl rfl ?_) | (refine hS.hd 0 rfl rfl ?_) | (refine hS.hd0 1 rfl rfl ?_) | (refine hS.hd 1 rfl rfl ?_) | (refine hS.hd0 2 rfl rfl ?_) | (refine hS.hd 2 rfl rfl ?_) | (refine hS.hd0 3 rfl rfl ?_) | (refine hS.hd 3 rfl rfl ?_) | (refine hS.hd0 4 rfl rfl ?_) | (refine hS.hd 4 rfl rfl ?_) | (refine hS.hd0 5 rfl rfl ?_) | (refine hS.hd 5 rfl rfl ?_) | (refine hS.hd0 6 rfl rfl ?_) | (refine hS.hd 6 rfl rfl ?_) | (refine hS.hd0 7 rfl rfl ?_) | (refine hS.hd 7 rfl rfl ?_) | (refine hS.st0 0 rfl rfl rfl ?_; clear hS; intro _ hS) | (refine hS.st 0 rfl rfl rfl ?_; clear hS; intro _ hS) | (refine hS.st0 1 rfl rfl rfl ?_; clear hS; intro _ hS) | (refine hS.st 1 rfl rfl rfl ?_; clear hS; intro _ hS) | (refine hS.st0 2 rfl rfl rfl ?_; clear hS; intro _ hS) | (refine hS.st 2 rfl rfl rfl ?_; clear hS; intro _ hS) | (refine hS.st0 3 rfl rfl rfl ?_; clear hS; intro _ hS) | (refine hS.st 3 rfl rfl rfl ?_; clear hS; intro _ hS) | (refine hS.st0 4 rfl rfl rfl ?_; clear hS; intro _ hS) | (refine hS.st 4 rfl rfl rfl ?_; clear hS; intro _ hS) | (refine hS.st0 5 rfl rfl rfl ?_; clear hS; intro _ hS) | (refine hS.st 5 rfl rfl rfl ?_; clear hS; intro _ hS) | (refine hS.st0 6 rfl rfl rfl ?_; clear hS; intro _ hS) | (refine hS.st 6 rfl rfl rfl ?_; clear hS; intro _ hS) | (refine hS.st0 7 rfl rfl rfl ?_; clear hS; intro _ hS) | (refine hS.st 7 rfl rfl rfl ?_; clear hS; intro _ hS) | (refine bnd_mk (by decide) (by decide) ?_) | (refine so_i rfl ?_))
                refine cond_split (fun t1 => ?_) (fun t1 => hJ3 _ _ ⟨?_, hS⟩)
                · have t1' := hsg (of_decide_eq_true t1)
                  refine cond_split (fun t2 => ?_) (fun t2 => hJ3 _ _ ⟨?_, hS⟩)
                  · have t2' : 0 ≤ gap a b true := of_decide_eq_true t2
                    repeat (first | (refine asI_i rfl ?_) | (refine asB_i rfl ?_) | (refine asP_i rfl ?_) | (refine asS_i rfl ?_) | (refine asY_i rfl ?_) | (refine asM_i rfl ?_) | (refine asA_i rfl rfl ?_) | (refine asT_i rfl rfl ?_) | (refine lv_i ?_) | (refine St.dw hS ?_; clear hS; intro _ hS _) | (refine hS.ld0 0 rfl rfl ?_) | (refine hS.ld 0 rfl rfl ?_) | (refine hS.ld0 1 rfl rfl ?_) | (refine hS.ld 1 rfl rfl ?_) | (refine hS.ld0 2 rfl rfl ?_) | (refine hS.ld 2 rfl rfl ?_) | (refine hS.ld0 3 rfl rfl ?_) | (refine hS.ld 3 rfl rfl ?_) | (refine hS.ld0 4 rfl rfl ?_) | (refine hS.ld 4 rfl rfl ?_) | (refine hS.ld0 5 rfl rfl ?_) | (refine hS.ld 5 rfl rfl ?_) | (refine hS.ld0 6 rfl rfl ?_) | (refine hS.ld 6 rfl rfl ?_) | (refine hS.ld0 7 rfl rfl ?_) | (refine hS.ld 7 rfl rfl ?_) | (refine hS.hd0 0 rfl rfl ?_) | (refine hS.hd 0 rfl rfl ?_) | (refine hS.hd0 1 rfl rfl ?_) | (refine hS.hd 1 rfl rfl ?_) | (refine hS.hd0 2 rfl rfl ?_) | (refine hS.hd 2 rfl rfl ?_) | (refine hS.hd0 3 rfl rfl ?_) | (refine hS.hd 3 rfl rfl ?_) | (refine hS.hd0 4 rfl rfl ?_) | (refine hS.hd 4 rfl rfl ?_) | (refine hS.hd0 5 rfl rfl ?_) | (refine hS.hd 5 rfl rfl ?_) | (refine hS.hd0 6 rfl rfl ?_) | (refine hS.hd 6 rfl rfl ?_) | (refine hS.hd0 7 rfl rfl ?_) | (refine hS.hd 7 rfl rfl ?_) | (refine hS.st0 0 rfl rfl rfl ?_; clear hS; intro _ hS) | (refine hS.st 0 rfl rfl rfl ?_; clear hS; intro _ hS) | (refine hS.st0 1 rfl rfl rfl ?_; clear hS; intro _ hS) | (refine hS.st 1 rfl rfl rfl ?_; clear hS; intro _ hS) | (refine hS.st0 2 rfl rfl rfl ?_; clear hS; intro _ hS) | (refine hS.st 2 rfl rfl rfl ?_; clear hS; intro _ hS) | (refine hS.st0 3 rfl rfl rfl ?_; clear hS; intro _ hS) | (refine hS.st 3 rfl rfl rfl ?_; clear hS; intro _ hS) | (refine hS.st0 4 rfl rfl rfl ?_; clear hS; intro _ hS) | (refine hS.st 4 rfl rfl rfl ?_; clear hS; intro _ hS) | (refine hS.st0 5 rfl rfl rfl ?_; clear hS; intro _ hS) | (refine hS.st 5 rfl rfl rfl ?_; clear hS; intro _ hS) | (refine hS.st0 6 rfl rfl rfl ?_; clear hS; intro _ hS) | (refine hS.st 6 rfl rfl rfl ?_; clear hS; intro _ hS) | (refine hS.st0 7 rfl rfl rfl ?_; clear hS; intro _ hS) | (refine hS.st 7 rfl rfl rfl ?_; clear hS; intro _ hS) | (refine bnd_mk (by decide) (by decide) ?_) | (refine so_i rfl ?_))
                    refine bx_at (Reads.no hS.ext hL) rfl hb ?_
                    intro ad c0 c1 c2
                    refine ld_mk c0 (asI_i rfl (ld_mk c1 (asI_i rfl (ld_mk c2 (asI_i rfl ?_)))))
                    refine rgap_k (a := a) (b := b) hR.2 hbr ?_
                    intro _ x
                    replace hS := hS.to x
                    have ew : (IntKind.wrap .i64 ((1 : Int) - 1) != 0) = false := by decide
                    rw [ew]
                    repeat (first | (refine asI_i rfl ?_) | (refine asB_i rfl ?_) | (refine asP_i rfl ?_) | (refine asS_i rfl ?_) | (refine asY_i rfl ?_) | (refine asM_i rfl ?_) | (refine asA_i rfl rfl ?_) | (refine asT_i rfl rfl ?_) | (refine lv_i ?_) | (refine St.dw hS ?_; clear hS; intro _ hS _) | (refine hS.ld0 0 rfl rfl ?_) | (refine hS.ld 0 rfl rfl ?_) | (refine hS.ld0 1 rfl rfl ?_) | (refine hS.ld 1 rfl rfl ?_) | (refine hS.ld0 2 rfl rfl ?_) | (refine hS.ld 2 rfl rfl ?_) | (refine hS.ld0 3 rfl rfl ?_) | (refine hS.ld 3 rfl rfl ?_) | (refine hS.ld0 4 rfl rfl ?_) | (refine hS.ld 4 rfl rfl ?_) | (refine hS.ld0 5 rfl rfl ?_) | (refine hS.ld 5 rfl rfl ?_) | (refine hS.ld0 6 rfl rfl ?_) | (refine hS.ld 6 rfl rfl ?_) | (refine hS.ld0 7 rfl rfl ?_) | (refine hS.ld 7 rfl rfl ?_) | (refine hS.hd0 0 rfl rfl ?_) | (refine hS.hd 0 rfl rfl ?_) | (refine hS.hd0 1 rfl rfl ?_) | (refine hS.hd 1 rfl rfl ?_) | (refine hS.hd0 2 rfl rfl ?_) | (refine hS.hd 2 rfl rfl ?_) | (refine hS.hd0 3 rfl rfl ?_) | (refine hS.hd 3 rfl rfl ?_) | (refine hS.hd0 4 rfl rfl ?_) | (refine hS.hd 4 rfl rfl ?_) | (refine hS.hd0 5 rfl rfl ?_) | (refine hS.hd 5 rfl rfl ?_) | (refine hS.hd0 6 rfl rfl ?_) | (refine hS.hd 6 rfl rfl ?_) | (refine hS.hd0 7 rfl rfl ?_) | (refine hS.hd 7 rfl rfl ?_) | (refine hS.st0 0 rfl rfl rfl ?_; clear hS; intro _ hS) | (refine hS.st 0 rfl rfl rfl ?_; clear hS; intro _ hS) | (refine hS.st0 1 rfl rfl rfl ?_; clear hS; intro _ hS) | (refine hS.st 1 rfl rfl rfl ?_; clear hS; intro _ hS) | (refine hS.st0 2 rfl rfl rfl ?_; clear hS; intro _ hS) | (refine hS.st 2 rfl rfl rfl ?_; clear hS; intro _ hS) | (refine hS.st0 3 rfl rfl rfl ?_; clear hS; intro _ hS) | (refine hS.st 3 rfl rfl rfl ?_; clear hS; intro _ hS) | (refine hS.st0 4 rfl rfl rfl ?_; clear hS; intro _ hS) | (refine hS.st 4 rfl rfl rfl ?_; clear hS; intro _ hS) | (refine hS.st0 5 rfl rfl rfl ?_; clear hS; intro _ hS) | (refine hS.st 5 rfl rfl rfl ?_; clear hS; intro _ hS) | (refine hS.st0 6 rfl rfl rfl ?_; clear hS; intro _ hS) | (refine hS.st 6 rfl rfl rfl ?_; clear hS; intro _ hS) | (refine hS.st0 7 rfl rfl rfl ?_; clear hS; intro _ hS) | (refine hS.st 7 rfl rfl rfl ?_; clear hS; intro _ hS) | (refine bnd_mk (by decide) (by decide) ?_) | (refine so_i rfl ?_))
                    refine cond_split (fun t3 => hJ3 _ _ ⟨?_, hS⟩) (fun t3 => hJ3 _ _ ⟨?_, hS⟩)
                    · have t3' : gap a b false < 0 := of_decide_eq_true t3
                      congr 2
                      refine Bool.eq_iff_iff.2 ⟨fun t4 => decide_eq_true ⟨t1', t2', of_decide_eq_true t4, t3'⟩, fun t4 => decide_eq_true (of_decide_eq_true t4).2.2.1⟩
                    · rw [decide_eq_false (fun hh : stepC (sgn d) a true b p.1 => of_decide_eq_false t3 hh.2.2.2)]
                  · rw [decide_eq_false (fun hh : stepC (sgn d) a true b p.1 => of_decide_eq_false t2 hh.2.1)]
                · rw [decide_eq_false (fun hh : stepC (sgn d) a true b p.1 => of_decide_eq_false t1 (hah hh))]
            · intro J3 hJ3
              have e3 : IntKind.wrap .i64 (b.at ((1 : Int) != 0) - a.at ((1 : Int) != 0)) = b.at true - a.at true := hside
              rw [e3]
              refine cond_split (fun t1 => cond_split (fun t2 => hJ3 _ _ ⟨?_, hS⟩) (fun t2 => cond_split (fun t3 => ?_) (fun t3 => hJ3 _ _ ⟨?_, hS⟩))) (fun t1 => cond_split (fun t3 => hJ3 _ _ ⟨?_, hS⟩) (fun t3 => hJ3 _ _ ⟨?_, hS⟩))
              · have u1 : 0 < d := of_decide_eq_true t1
                have u2 : 0 < b.at true - a.at true := of_decide_eq_true t2
                rw [decide_eq_true (.inl ⟨u1, u2⟩)]
              · have u1 : 0 < d := of_decide_eq_true t1
                have u3 : d < 0 := of_decide_eq_true t3
                omega
              · have u1 : 0 < d := of_decide_eq_true t1
                have u2 : ¬ 0 < b.at true - a.at true := of_decide_eq_false t2
                rw [decide_eq_false (by omega)]
              · have u1 : ¬ 0 < d := of_decide_eq_false t1
                have u3 : d < 0 := of_decide_eq_true t3
                congr 2
                refine Bool.eq_iff_iff.2 ⟨fun t4 => decide_eq_true (.inr ⟨u3, of_decide_eq_true t4⟩), fun t4 => decide_eq_true ?_⟩
                have := of_decide_eq_true t4
                omega
              · have u1 : ¬ 0 < d := of_decide_eq_false t1
                have u3 : ¬ d < 0 := of_decide_eq_false t3
                rw [decide_eq_false (by omega)]
      · have hil : i = bs.length := by
          have : ¬ i < bs.length := by simpa using hc
          omega
        subst hil
        rw [List.drop_length] at hF
        have hF' : p = pushF (sgn d) a (axis != 0) bs 0 (mgn d, -1) := hF
        refine cond_split (fun t => ?_) (fun t => ?_)
        · repeat (first | (refine asI_i rfl ?_) | (refine asB_i rfl ?_) | (refine asP_i rfl ?_) | (refine asS_i rfl ?_) | (refine asY_i rfl ?_) | (refine asM_i rfl ?_) | (refine asA_i rfl rfl ?_) | (refine asT_i rfl rfl ?_) | (refine lv_i ?_) | (refine St.dw hS ?_; clear hS; intro _ hS _) | (refine hS.ld0 0 rfl rfl ?_) | (refine hS.ld 0 rfl rfl ?_) | (refine hS.ld0 1 rfl rfl ?_) | (refine hS.ld 1 rfl rfl ?_) | (refine hS.ld0 2 rfl rfl ?_) | (refine hS.ld 2 rfl rfl ?_) | (refine hS.ld0 3 rfl rfl ?_) | (refine hS.ld 3 rfl rfl ?_) | (refine hS.ld0 4 rfl rfl ?_) | (refine hS.ld 4 rfl rfl ?_) | (refine hS.ld0 5 rfl rfl ?_) | (refine hS.ld 5 rfl rfl ?_) | (refine hS.ld0 6 rfl rfl ?_) | (refine hS.ld 6 rfl rfl ?_) | (refine hS.ld0 7 rfl rfl ?_) | (refine hS.ld 7 rfl rfl ?_) | (refine hS.hd0 0 rfl rfl ?_) | (refine hS.hd 0 rfl rfl ?_) | (refine hS.hd0 1 rfl rfl ?_) | (refine hS.hd 1 rfl rfl ?_) | (refine hS.hd0 2 rfl rfl ?_) | (refine hS.hd 2 rfl rfl ?_) | (refine hS.hd0 3 rfl rfl ?_) | (refine hS.hd 3 rfl rfl ?_) | (refine hS.hd0 4 rfl rfl ?_) | (refine hS.hd 4 rfl rfl ?_) | (refine hS.hd0 5 rfl rfl ?_) | (refine hS.hd 5 rfl rfl ?_) | (refine hS.hd0 6 rfl rfl ?_) | (refine hS.hd 6 rfl rfl ?_) | (refine hS.hd0 7 rfl rfl ?_) | (refine hS.hd 7 rfl rfl ?_) | (refine hS.st0 0 rfl rfl rfl ?_; clear hS; intro _ hS) | (refine hS.st 0 rfl rfl rfl ?_; clear hS; intro _ hS) | (refine hS.st0 1 rfl rfl rfl ?_; clear hS; intro _ hS) | (refine hS.st 1 rfl rfl rfl ?_; clear hS; intro _ hS) | (refine hS.st0 2 rfl rfl rfl ?_; clear hS; intro _ hS) | (refine hS.st 2 rfl rfl rfl ?_; clear hS; intro _ hS) | (refine hS.st0 3 rfl rfl rfl ?_; clear hS; intro _ hS) | (refine hS.st 3 rfl rfl rfl ?_; clear hS; intro _ hS) | (refine hS.st0 4 rfl rfl rfl ?_; clear hS; intro _ hS) | (refine hS.st 4 rfl rfl rfl ?_; clear hS; intro _ hS) | (refine hS.st0 5 rfl rfl rfl ?_; clear hS; intro _ hS) | (refine hS.st 5 rfl rfl rfl ?_; clear hS; intro _ hS) | (refine hS.st0 6 rfl rfl rfl ?_; clear hS; intro _ hS) | (refine hS.st 6 rfl rfl rfl ?_; clear hS; intro _ hS) | (refine hS.st0 7 rfl rfl rfl ?_; clear hS; intro _ hS) | (refine hS.st 7 rfl rfl rfl ?_; clear hS; intro _ hS) | (refine bnd_mk (by decide) (by decide) ?_) | (refine so_i rfl ?_))
          have hk := hK _ hS.ext
          rw [← hF'] at hk
          have hs : sgn d = -1 := by unfold sgn; rw [if_pos (of_decide_eq_true t)]
          have e : IntKind.wrap .i64 ((0 : Int) - p.1) = sgn d * p.1 := by
            rw [hs, wr64 (by omega) (by omega)]
            omega
          rw [e]
          exact hk
        · repeat (first | (refine asI_i rfl ?_) | (refine asB_i rfl ?_) | (refine asP_i rfl ?_) | (refine asS_i rfl ?_) | (refine asY_i rfl ?_) | (refine asM_i rfl ?_) | (refine asA_i rfl rfl ?_) | (refine asT_i rfl rfl ?_) | (refine lv_i ?_) | (refine St.dw hS ?_; clear hS; intro _ hS _) | (refine hS.ld0 0 rfl rfl ?_) | (refine hS.ld 0 rfl rfl ?_) | (refine hS.ld0 1 rfl rfl ?_) | (refine hS.ld 1 rfl rfl ?_) | (refine hS.ld0 2 rfl rfl ?_) | (refine hS.ld 2 rfl rfl ?_) | (refine hS.ld0 3 rfl rfl ?_) | (refine hS.ld 3 rfl rfl ?_) | (refine hS.ld0 4 rfl rfl ?_) | (refine hS.ld 4 rfl rfl ?_) | (refine hS.ld0 5 rfl rfl ?_) | (refine hS.ld 5 rfl rfl ?_) | (refine hS.ld0 6 rfl rfl ?_) | (refine hS.ld 6 rfl rfl ?_) | (refine hS.ld0 7 rfl rfl ?_) | (refine hS.ld 7 rfl rfl ?_) | (refine hS.hd0 0 rfl rfl ?_) | (refine hS.hd 0 rfl rfl ?_) | (refine hS.hd0 1 rfl rfl ?_) | (refine hS.hd 1 rfl rfl ?_) | (refine hS.hd0 2 rfl rfl ?_) | (refine hS.hd 2 rfl rfl ?_) | (refine hS.hd0 3 rfl rfl ?_) | (refine hS.hd 3 rfl rfl ?_) | (refine hS.hd0 4 rfl rfl ?_) | (refine hS.hd 4 rfl rfl ?_) | (refine hS.hd0 5 rfl rfl ?_) | (refine hS.hd 5 rfl rfl ?_) | (refine hS.hd0 6 rfl rfl ?_) | (refine hS.hd 6 rfl rfl ?_) | (refine hS.hd0 7 rfl rfl ?_) | (refine hS.hd 7 rfl rfl ?_) | (refine hS.st0 0 rfl rfl rfl ?_; clear hS; intro _ hS) | (refine hS.st 0 rfl rfl rfl ?_; clear hS; intro _ hS) | (refine hS.st0 1 rfl rfl rfl ?_; clear hS; intro _ hS) | (refine hS.st 1 rfl rfl rfl ?_; clear hS; intro _ hS) | (refine hS.st0 2 rfl rfl rfl ?_; clear hS; intro _ hS) | (refine hS.st 2 rfl rfl rfl ?_; clear hS; intro _ hS) | (refine hS.st0 3 rfl rfl rfl ?_; clear hS; intro _ hS) | (refine hS.st 3 rfl rfl rfl ?_; clear hS; intro _ hS) | (refine hS.st0 4 rfl rfl rfl ?_; clear hS; intro _ hS) | (refine hS.st 4 rfl rfl rfl ?_; clear hS; intro _ hS) | (refine hS.st0 5 rfl rfl rfl ?_; clear hS; intro _ hS) | (refine hS.st 5 rfl rfl rfl ?_; clear hS; intro _ hS) | (refine hS.st0 6 rfl rfl rfl ?_; clear hS; intro _ hS) | (refine hS.st 6 rfl rfl rfl ?_; clear hS; intro _ hS) | (refine hS.st0 7 rfl rfl rfl ?_; clear hS; intro _ hS) | (refine hS.st 7 rfl rfl rfl ?_; clear hS; intro _ hS) | (refine bnd_mk (by decide) (by decide) ?_) | (refine so_i rfl ?_))
          have hk := hK _ hS.ext
          rw [← hF'] at hk
          have hs : sgn d = 1 := by unfold sgn; rw [if_neg (of_decide_eq_false t)]
          rw [hs, Int.one_mul] at hk
          exact hk
    · intro J hJ
      refine cond_split (fun h0 => hJ _ _ ⟨?_, hS⟩) (fun h0 => cond_split (fun h1 => hJ _ _ ⟨?_, hS⟩) (fun h1 => hJ _ _ ⟨?_, hS⟩))
      · have u : axis < 0 := of_decide_eq_true h0
        rw [decide_eq_false (by omega)]
        rfl
      · have u : axis > 1 := of_decide_eq_true h1
        rw [decide_eq_false (by omega)]
        rfl
      · have u : ¬ axis < 0 := of_decide_eq_false h0
        have u' : ¬ axis > 1 := of_decide_eq_false h1
        rw [decide_eq_true (by omega)]
        rfl
  · intro J hJ
    refine cond_split (fun h => hJ _ _ ⟨?_, hS⟩) (fun h => hJ _ _ ⟨?_, hS⟩)
    · have : a.right = false := by simpa using h
      simp [this]
    · have : a.right = true := by simpa using h
      simp [this]
end Go.Proofs.YtamobmjfdiecbaaGreatDoor

/- PhC: the plain law of steps: nobody goes farther than its way says, touches are of those that are there. No condition beyond each theorem's own. -/
namespace Go.Proofs.YtamobmjfdiecbaaGreatDoor
open Go Go.Sx Go.Fp

def wayP (a b v : Int) : Prop := if 0 ≤ v then a ≤ b ∧ b ≤ a + v else b ≤ a ∧ a + v ≤ b
instance (a b v : Int) : Decidable (wayP a b v) := by unfold wayP; infer_instance
structure Wy (e f : Ent) : Prop where
  x : wayP e.x f.x e.vx
  y : wayP e.y f.y e.vy
  vx : f.vx = e.vx ∨ f.vx = 0
  vy : f.vy = e.vy ∨ f.vy = 0
  h : f.h = e.h
  r : f.r = e.r
  o : f.o = e.o
  t : f.t = e.t

theorem way_of {a v w : Int} (h0 : 0 ≤ w) (h1 : w ≤ mgn v) : wayP a (a + sgn v * w) v := by
  unfold wayP
  rcases sgn_cases v with ⟨hs, hv, hm⟩ | ⟨hs, hv, hm⟩
  · rw [hs, if_neg (by omega)]
    omega
  · rw [hs, if_pos hv]
    omega

theorem turn_two {L M : List Ent} {e : Ent} (he : e.rightE = 0) (hL : ∀ o ∈ L, o.rightE = 0) (hM : ∀ o ∈ M, o.rightE = 0) : Wy e (turnE M (turnE L e false).1 true).1 := by
  obtain ⟨w, v, h1, h2, h3, h4, _⟩ := turn_open (k := false) he hL
  have he1 := turnE_right (L := L) (k := false) he
  obtain ⟨w', v', g1, g2, g3, g4, _⟩ := turn_open (k := true) he1 hM
  have b1 := pushF_le (sgn (e.vel false)) e.box false ((oth L e.h).map Ent.box) 0 (mgn (e.vel false), -1)
  have b2 := pushF_le (sgn ((turnE L e false).1.vel true)) (turnE L e false).1.box true ((oth M (turnE L e false).1.h).map Ent.box) 0 (mgn ((turnE L e false).1.vel true), -1)
  simp only at b1 b2
  have hw := Int.le_trans g3 b2
  rw [g1]
  clear g1 g3 b2
  rw [h1] at hw g4 ⊢
  have e1 : (e.setk false (e.box.at false + sgn (e.vel false) * w) v).vel true = e.vy := rfl
  rw [e1] at g4 hw ⊢
  refine ⟨way_of h2 (Int.le_trans h3 b1), way_of (a := e.y) g2 hw, ?_, ?_, rfl, rfl, rfl, rfl⟩
  · rcases h4 with rfl | rfl
    · exact .inr rfl
    · exact .inl rfl
  · rcases g4 with rfl | rfl
    · exact .inr rfl
    · exact .inl rfl

theorem turn1_ne {m j : Nat} {s : Tn} {k : Bool} (hj : j ≠ m) : (turn1 m s k).L[j]? = s.L[j]? := by
  unfold turn1
  cases he : s.L[m]? with
  | none => rfl
  | some e =>
    simp only
    split <;> exact List.getElem?_set_ne (fun e => hj e.symm)
theorem turn1_at {m : Nat} {s : Tn} {k : Bool} {e : Ent} (he : s.L[m]? = some e) : (turn1 m s k).L[m]? = some (turnE s.L e k).1 := by
  have hl := (List.getElem?_eq_some_iff.1 he).1
  unfold turn1
  rw [he]
  simp only
  split <;> exact List.getElem?_set_self hl
theorem stepN_ne {L : List Ent} {m j : Nat} (hj : j ≠ m) : (stepN L (m + 1)).L[j]? = (stepN L m).L[j]? := by
  show (turn1 m (turn1 m ⟨(stepN L m).L, (stepN L m).t, []⟩ false) true).L[j]? = _
  rw [turn1_ne hj, turn1_ne hj]
theorem stepN_before {L : List Ent} {j : Nat} : ∀ {m : Nat}, m ≤ j → (stepN L m).L[j]? = L[j]?
  | 0, _ => rfl
  | m + 1, h => by rw [stepN_ne (by omega), stepN_before (by omega)]
theorem stepN_after {L : List Ent} {j : Nat} : ∀ {m : Nat}, j < m → (stepN L m).L[j]? = (stepN L (j + 1)).L[j]?
  | 0, h => absurd h (by omega)
  | m + 1, h => by
    by_cases hj : j = m
    · subst hj; rfl
    · rw [stepN_ne hj, stepN_after (by omega)]

theorem step_way {L : List Ent} (hr : ∀ e ∈ L, e.rightE = 0) (hn : (L.map (·.h)).Nodup) {j : Nat} {e f : Ent} (he : L[j]? = some e) (hf : (stepV L).L[j]? = some f) : Wy e f := by
  have hjl := (List.getElem?_eq_some_iff.1 he).1
  have e1 : (stepV L).L[j]? = (stepN L (j + 1)).L[j]? := stepN_after hjl
  rw [e1] at hf
  have hk := (Kp.step hr hn j).rt
  have h0 : (⟨(stepN L j).L, (stepN L j).t, []⟩ : Tn).L[j]? = some e := by rw [← he]; exact stepN_before (Nat.le_refl _)
  have h1 := turn1_at (k := false) h0
  have h2 := turn1_at (k := true) h1
  have e2 : (stepN L (j + 1)).L[j]? = (turn1 j (turn1 j ⟨(stepN L j).L, (stepN L j).t, []⟩ false) true).L[j]? := rfl
  rw [e2, h2] at hf
  have hf' := Option.some.inj hf
  rw [← hf']
  have hk1 := (Kp.turn1 (s := ⟨(stepN L j).L, (stepN L j).t, []⟩) (Kp.step hr hn j) hn j false).rt
  exact turn_two (hr e (List.mem_of_getElem? he)) hk hk1

/-! ### touches -/
def Tch (L0 : List Ent) (t : List (Int × Int)) : Prop := ∀ p ∈ t, p.1 ∈ L0.map (·.h) ∧ p.2 ∈ L0.map (·.h) ∧ p.1 ≠ p.2
theorem Tch.turn1 {L0 : List Ent} {s : Tn} (h : Tch L0 s.t) (hk : Kp L0 s.L) (m : Nat) (k : Bool) : Tch L0 (turn1 m s k).t := by
  unfold Go.Proofs.YtamobmjfdiecbaaGreatDoor.turn1
  cases he : s.L[m]? with
  | none => exact h
  | some e =>
    simp only
    split
    · rename_i hc
      intro p hp
      rcases List.mem_append.1 hp with hp | hp
      · exact h p hp
      · rw [List.mem_singleton.1 hp]
        have hem := List.mem_of_getElem? he
        obtain ⟨_, _, _, _, _, _, h5⟩ := turn_open (k := k) (hk.rt e hem) hk.rt
        rcases h5 with h5 | ⟨o, ho, h5⟩
        · exact absurd h5 hc.1
        · obtain ⟨h6, h7⟩ := List.mem_filter.1 ho
          rw [← hk.hs]
          refine ⟨List.mem_map.2 ⟨e, hem, rfl⟩, List.mem_map.2 ⟨o, h6, h5.symm⟩, fun hh => ?_⟩
          simp only at hh
          rw [h5] at hh
          simp [hh] at h7
    · exact h
theorem Tch.turnN {L0 : List Ent} {s : Tn} (h : Tch L0 s.t) (hk : Kp L0 s.L) (hn : (L0.map (·.h)).Nodup) (m : Nat) : ∀ k, Tch L0 (turnN m s k).t
  | 0 => h
  | k + 1 => (Tch.turnN h hk hn m k).turn1 (hk.turnN hn m k) m (k == 1)
theorem Tch.step {L0 : List Ent} (hr : ∀ e ∈ L0, e.rightE = 0) (hn : (L0.map (·.h)).Nodup) : ∀ m, Tch L0 (stepN L0 m).t
  | 0 => fun p hp => by cases hp
  | m + 1 => Tch.turnN (s := ⟨(stepN L0 m).L, (stepN L0 m).t, []⟩) (Tch.step hr hn m) (Kp.step hr hn m) hn m 2
end Go.Proofs.YtamobmjfdiecbaaGreatDoor

/- PhQ: a step of the document's world. Conditions: those of each theorem, on its arguments. -/
namespace Go.Proofs.YtamobmjfdiecbaaGreatDoor
open Go Go.Sx Go.Fp
attribute [local irreducible] jn lv ld st nw asI asB asP asS asY asM asF asA asT lp rn ru rq cl dw dr bnd bn2 nz nn hd hr so eqW
attribute [local irreducible] callOk

theorem addQ (A : Addr) (m n : Nat) : Addr.add (Addr.add A m) n = Addr.add A (m + n) := by
  by_cases hm : m = 0 <;> by_cases hn : n = 0 <;> simp [Addr.add, hm, hn, Nat.add_assoc]

theorem others_k {w : World} {x : Nat} {T : List Spot} (hX : XW w x T) {h : Int} {K : Value → World → Prop}
    (hK : ∀ p c q c' w', Ext no w w' → Reads w' p (iv .i64 ((oth (listS T) h).map (·.h))) → Reads w' q (fl ((oth (listS T) h).map Ent.box)) → K (.tuple #[.slice q (oth (listS T) h).length c', .slice p (oth (listS T) h).length c]) w') :
    cl Tryz.prog 40 #[.pointer (some ⟨x, 0, none⟩), .int .i64 h] w K := by
  have hll := listS_len T
  rw [hX.len] at hll
  apply F40_calls
  unfold F40
  refine list19_k hX fun p4 c6 w3 hx3 hr3 => asS_i rfl (lv_i ?_)
  have hE3 := hr3.reads
  generalize hL : listS T = L at *
  refine lp_mk (fun s : ((Option Addr × Nat × Nat) × (Option Addr × Nat × Nat)) × Nat => [.slice s.1.2.1 s.1.2.2.1 s.1.2.2.2, .slice s.1.1.1 s.1.1.2.1 s.1.1.2.2, .int .i64 (s.2 : Int)])
    (fun m s w' => m = L.length - s.2 ∧ s.2 ≤ L.length ∧ TR w3 w' [] s.1.1.1 s.1.1.2.1 s.1.1.2.2 ((oth (L.take s.2) h).map (·.h)) s.1.2.1 s.1.2.2.1 s.1.2.2.2 ((oth (L.take s.2) h).map Ent.box)) L.length (((none, 0, 0), (none, 0, 0)), 0) rfl
    ⟨rfl, Nat.zero_le _, ⟨St.start w3, Row.nil _ _ _, RowN.nil _ _ _ _, rfl, Apart.none _, fun _ h => (by cases h), fun _ h => (by cases h)⟩⟩ ?_
  rintro _ ⟨⟨⟨p, n, c⟩, ⟨q, n', c'⟩⟩, i⟩ w8 ⟨rfl, hi, hT⟩ J hJ
  simp only at hi hT hJ ⊢
  have hlen1 := oth_len (L.take i) h
  rw [List.length_take] at hlen1
  have hn1 : n = (oth (L.take i) h).length := by
    have := hT.an
    rw [List.length_map] at this
    exact this.symm
  have hn2 : n' = (oth (L.take i) h).length := by
    have := hT.b.len
    rw [fl_lenN (f := Bx.cells) (s := 3) (fun _ => rfl), List.length_map] at this
    omega
  refine asS_i rfl (asS_i rfl (asI_i rfl (cond_split (fun hc => ?_) (fun hc => ?_))))
  · have hil : i < L.length := by
      have := of_decide_eq_true hc
      omega
    have ei : IntKind.wrap .i64 ((i : Int) + 1) = ((i + 1 : Nat) : Int) := by rw [wr64 (by omega) (by omega)]; omega
    have hLi : L[i]? = some L[i] := List.getElem?_eq_getElem hil
    generalize L[i] = o at hLi
    rw [ei]
    refine jn_of (fun t w' => ∃ p n c q n' c', t = [.slice q n' c', .slice p n c] ∧ TR w3 w' [] p n c ((oth (L.take (i + 1)) h).map (·.h)) q n' c' ((oth (L.take (i + 1)) h).map Ent.box)) ?_ ?_
    · rintro _ w18 ⟨p, n, c, q, n', c', rfl, hT⟩
      exact asS_i rfl (asS_i rfl (lv_i (hJ (L.length - (i + 1)) ((((p, n, c), (q, n', c'))), i + 1) w18 (by omega) ⟨rfl, hil, hT⟩)))
    · intro J2 hJ2
      have rd : ∀ {w' : World}, Ext no w3 w' → ∀ {K : Addr → Prop}, (∀ a', (∀ k, k < 8 → w'.cell? (Addr.add (Addr.add a' (i * 8)) k) = o.cells[k]?) → K a') → dr p4 fun a' => bnd (i : Int) L.length (K a') := fun hx K hK => Reads.atN (f := Ent.cells) Ent.cells_length (Reads.no hx hE3) rfl hLi (by decide) fun a _ hc => hK a hc
      rw [Int.toNat_natCast]
      refine rd hT.st.ext fun a1 hca => ?_
      have h0 := hca 0 (by decide)
      rw [Sx.add_zero'] at h0
      refine ld_mk h0 (asI_i rfl (cond_split (fun hne => ?_) (fun hne => ?_)))
      · have hne' : ¬ o.h = h := by simpa using hne
        have eo := oth_take (h := h) hLi
        rw [if_neg hne'] at eo
        have em1 : (oth (L.take (i + 1)) h).map (·.h) = (oth (L.take i) h).map (·.h) ++ [o.h] := by rw [eo, List.map_append]; rfl
        have em2 : (oth (L.take (i + 1)) h).map Ent.box = (oth (L.take i) h).map Ent.box ++ [o.box] := by rw [eo, List.map_append]; rfl
        rw [em1, em2] at hJ2
        refine rd hT.st.ext fun a1 hca => ?_
        refine ld_mk (hca 1 (by decide)) (asI_i rfl (ld_mk (by rw [addQ]; exact hca 2 (by decide)) (asI_i rfl (ld_mk (by rw [addQ]; exact hca 3 (by decide)) (asI_i rfl ?_)))))
        refine hT.nw (cs := o.box.cells) fun r30 w31 hT => ?_
        refine hT.appB (by omega) (Reads.kn (hT.st.kn _ List.mem_cons_self).1) (by simp) fun q' c3 w33 hT => asS_i rfl ?_
        refine rd hT.st.ext fun a1 hca => ?_
        have h0 := hca 0 (by decide)
        rw [Sx.add_zero'] at h0
        refine ld_mk h0 (asI_i rfl ?_)
        refine hT.nw (cs := [.int .i64 o.h]) fun r40 w41 hT => ?_
        refine hT.appA (by omega) (Reads.kn (hT.st.kn _ List.mem_cons_self).1) fun p' c'' w43 hT => asS_i rfl (hJ2 _ _ ⟨_, _, _, _, _, _, rfl, hT.tail.tail⟩)
      · have hne' : o.h = h := by simpa using hne
        have eo := oth_take (h := h) hLi
        rw [if_pos hne', List.append_nil] at eo
        rw [eo] at hJ2
        exact hJ2 _ _ ⟨_, _, _, _, _, _, rfl, hT⟩
  · have hil : i = L.length := by
      have := of_decide_eq_false hc
      omega
    subst hil
    rw [List.take_length] at hT hn1 hn2
    subst hn1
    subst hn2
    exact hK p c q c' w8 (hx3.trans hT.st.ext) hT.a.reads hT.b.reads
end Go.Proofs.YtamobmjfdiecbaaGreatDoor

/- PhY: how an entity of the document's world goes along an axis; where a box is free there. Conditions: those of each theorem, on its arguments. -/
namespace Go.Proofs.YtamobmjfdiecbaaGreatDoor
open Go Go.Sx Go.Fp
attribute [local irreducible] jn lv ld st nw asI asB asP asS asY asM asF asA asT lp rn ru rq cl dw dr bnd bn2 nz nn hd hr so eqW
attribute [local irreducible] callOk

theorem clp_max (t : Int) : (if (-4398046511104 : Int) > (if (4398046511104 : Int) < t then (4398046511104 : Int) else t) then (-4398046511104 : Int) else (if (4398046511104 : Int) < t then (4398046511104 : Int) else t)) = clp t := by
  rw [clp_iff]
  by_cases h1 : 4398046511104 < t
  · rw [if_pos h1, if_neg (by decide), if_neg (by omega)]
  · rw [if_neg h1]

/-- who stops it, or nobody -/
theorem push_who {a : Bx} {k : Bool} {d : Int} {bs : List Bx} (h1 : allR bs = true) (h2 : a.right = true) (h3 : within d = true) :
    (pushV a (kI k) d bs).2.1 = -1 ∧ (pushV a (kI k) d bs).1 = d ∨ 0 ≤ (pushV a (kI k) d bs).2.1 ∧ (pushV a (kI k) d bs).1 ≠ d := by
  rw [pushV_ok h1 h2 h3]
  have hm := mgn_rng h3
  have g2 := pushF_nn (s := sgn d) (a := a) (k := k) (bs := bs) (i := 0) (p := (mgn d, -1)) hm.1
  have sd : sgn d * mgn d = d := by
    rcases sgn_cases d with ⟨e1, _, e2⟩ | ⟨e1, _, e2⟩ <;> rw [e1, e2] <;> omega
  rcases pushF_who (sgn d) a k bs 0 (mgn d, -1) with h | ⟨j, b, hj, hb, hlt, h⟩
  · left
    rw [h]
    exact ⟨rfl, sd⟩
  · right
    rw [h]
    simp only at hlt ⊢
    refine ⟨by omega, fun e => ?_⟩
    have hb2 := hb.2.1
    rcases sgn_cases d with ⟨e1, _, e2⟩ | ⟨e1, _, e2⟩ <;> rw [e1] at e <;> omega

theorem along_k {w : World} {x : Nat} {T : List Spot} {e : Ent} (hX : XW w x T) (heR : e.rightE = 0) (hLR : ∀ o ∈ listS T, o.rightE = 0) (k : Bool) {K : Value → World → Prop}
    (hK : ∀ w' A V n, turnE (listS T) e k = (e.setk k A V, n) → Ext no w w' → K (.tuple #[.int .i64 A, .int .i64 V, .int .i64 n]) w') :
    cl Tryz.prog 24 #[.pointer (some ⟨x, 0, none⟩), e.v, .int .i64 (kI k)] w K := by
  have hll := listS_len T
  rw [hX.len] at hll
  apply F24_calls
  unfold F24
  have hS := St.start w
  refine hS.nw (cs := e.cells) fun r1 w1 hS1 => ?_
  clear hS
  have hS := hS1
  clear hS1
  refine lv_i (lv_i (lv_i (hS.ld0 0 rfl rfl (asI_i rfl ?_))))
  refine others_k (hX.ext hS.ext fun h => h) fun p c q c' w9 hx9 hRp hRq => asT_i rfl rfl (asS_i rfl (asS_i rfl ?_))
  replace hS := hS.to hx9
  refine hS.ld 0 rfl rfl (asI_i rfl (lv_i (hS.ld 0 rfl rfl (asI_i rfl (lv_i ?_)))))
  have hAll := rights_all hLR e.h
  have hwi := within_vel heR k
  have hbr := box_right heR
  have hP := pushV_rng (k := k) hAll hbr hwi
  have hWho := push_who (k := k) hAll hbr hwi
  have hat := at_rng heR k
  have eP : turnP (listS T) e k = pushV e.box (kI k) (e.vel k) ((oth (listS T) e.h).map Ent.box) := rfl
  have hol := oth_len (listS T) e.h
  refine jn_of (fun t w' => t = [.int .i64 (e.box.at k), .int .i64 (e.vel k)] ∧ w' = w9) ?_ ?_
  · rintro _ w24 ⟨rfl, rfl⟩
    refine asI_i rfl (asI_i rfl ?_)
    refine hS.ld 0 rfl rfl (asI_i rfl (hS.ldd 0 rfl rfl (asI_i rfl (hS.ldd 0 rfl rfl (asI_i rfl ?_)))))
    refine rpush_k (a := e.box) (axis := kI k) (d := e.vel k) (bs := (oth (listS T) e.h).map Ent.box) hRq (by rw [List.length_map]) (by omega) fun w41 hx41 => asT_i rfl rfl (asI_i rfl (asI_i rfl (asI_i rfl (lv_i (lv_i (lv_i (lv_i ?_)))))))
    have hx := hS.ext.trans hx41
    have hRp' := Reads.no hx41 hRp
    rw [wr64 (by omega) (by omega)]
    have hT : turnE (listS T) e k = turnE (listS T) e k := rfl
    conv at hT => rhs; unfold turnE
    rw [eP] at hT
    generalize pushV e.box (kI k) (e.vel k) ((oth (listS T) e.h).map Ent.box) = P at *
    refine jn_of (fun t w' => t = [.bool (decide (clp (e.box.at k + P.1) ≠ e.box.at k + P.1))] ∧ w' = w41) ?_ ?_
    · rintro _ w51 ⟨rfl, rfl⟩
      refine asB_i rfl (cond_split (fun h => ?_) (fun h => ?_))
      · have h' := of_decide_eq_true h
        rw [if_pos h'] at hT
        rw [clp_max]
        exact lv_i (lv_i (lv_i (hK _ _ _ _ hT hx)))
      · have h' : clp (e.box.at k + P.1) = e.box.at k + P.1 := Decidable.not_not.1 (of_decide_eq_false h)
        rw [if_neg (fun hn => hn h')] at hT
        refine cond_split (fun hd => ?_) (fun hd => ?_)
        · have hd' : P.1 = e.vel k := by simpa using hd
          rcases hWho with ⟨h1, h2⟩ | ⟨h1, h2⟩
          · rw [if_neg (by omega)] at hT
            exact lv_i (lv_i (lv_i (hK _ _ _ _ hT hx)))
          · exact absurd hd' h2
        · have hd' : ¬ P.1 = e.vel k := by simpa using hd
          rcases hWho with ⟨h1, h2⟩ | ⟨h1, h2⟩
          · exact absurd h2 hd'
          · rw [if_pos h1] at hT
            refine dw_mk ?_
            have hbl : P.2.1.toNat < ((oth (listS T) e.h).map (·.h)).length := by
              have := hP.2.2.2
              rw [List.length_map] at this ⊢
              omega
            have hz : (iv .i64 ((oth (listS T) e.h).map (·.h)))[P.2.1.toNat]? = some (.int .i64 (((oth (listS T) e.h).map (·.h)).getD P.2.1.toNat 0)) := iv_get hbl
            refine (Reads.no (Ext.drew w51) hRp').at h1 hz (asI_i rfl (lv_i (lv_i (lv_i (hK _ _ _ _ hT (hx.trans (Ext.drew w51))))))) (by rw [iv_length, List.length_map]; exact Nat.le_refl _)
    · intro J hJ
      refine cond_split (fun h => hJ _ _ ⟨?_, rfl⟩) (fun h => hJ _ _ ⟨?_, rfl⟩)
      · have h' : e.box.at k + P.1 > 4398046511104 := of_decide_eq_true h
        rw [decide_eq_true]
        rw [clp_iff, if_neg (by omega), if_pos (by omega)]
        omega
      · have h' : ¬ e.box.at k + P.1 > 4398046511104 := of_decide_eq_false h
        congr 2
        rw [clp_iff]
        by_cases h2 : e.box.at k + P.1 < -4398046511104
        · rw [decide_eq_true h2, if_pos h2, decide_eq_true (by omega)]
        · rw [decide_eq_false h2, if_neg h2, if_neg (by omega), decide_eq_false (fun hn => hn rfl)]
  · intro J hJ
    cases k
    · exact cond_f rfl (hJ _ _ ⟨rfl, rfl⟩)
    · refine cond_t rfl (hS.ldd 0 rfl rfl (asI_i rfl (lv_i (hS.ldd 0 rfl rfl (asI_i rfl (lv_i (hJ _ _ ⟨rfl, rfl⟩)))))))

theorem free20_k {w : World} {x n : Nat} {T : List Spot} (hX : XW w x T) (_hG : Good n T) {b : Bx} {but : Int} {K : Value → World → Prop}
    (hK : ∀ w', Ext no w w' → K (.tuple #[.bool (freeV T b but), .int .i64 b.rightE]) w') :
    cl Tryz.prog 13 #[.pointer (some ⟨x, 0, none⟩), b.v, .int .i64 but] w K := by
  apply F13_calls
  unfold F13
  have hS := St.start w
  (refine St.nw hS ?_; clear hS; intro r1 _ hS)
  refine lv_i (hS.ld0 0 rfl rfl (asI_i rfl (hS.ld 0 rfl rfl (asI_i rfl (hS.ld 0 rfl rfl (asI_i rfl ?_))))))
  refine near19_k (hX.ext hS.ext fun h => h) (b := b) fun p c w11 hx11 hr11 => asT_i rfl rfl (asS_i rfl (asI_i rfl (lv_i ?_)))
  have hx := hS.ext.trans hx11
  have hol := outW_len T b
  refine cond_split (fun h => lv_i ?_) (fun h => lv_i ?_)
  · have h' : ¬ b.rightE = 0 := by simpa using h
    have e1 : freeV T b but = false := by unfold freeV; rw [decide_eq_false h']; rfl
    have := hK w11 hx
    rw [e1] at this
    exact this
  · have h' : b.rightE = 0 := by simpa using h
    have e1 : freeV T b but = !((outW T b).any fun y => y != but) := by unfold freeV; rw [decide_eq_true h']; rfl
    rw [h', e1] at hK
    have hrd := hr11.reads
    generalize outW T b = l at *
    refine lp_mk (fun i : Nat => [.int .i64 (i : Int)]) (fun m i w' => m = l.length - i ∧ i ≤ l.length ∧ w' = w11 ∧ ∀ j y, j < i → l[j]? = some y → y = but) l.length 0 rfl ⟨rfl, Nat.zero_le _, rfl, by omega⟩ ?_
    rintro _ i w21 ⟨rfl, hi, rfl, hall⟩ J hJ
    refine asI_i rfl (cond_split (fun hc => ?_) (fun hc => lv_i ?_))
    · have hil : i < l.length := by
        have := of_decide_eq_true hc
        omega
      have ei : IntKind.wrap .i64 ((i : Int) + 1) = ((i + 1 : Nat) : Int) := by rw [wr64 (by omega) (by omega)]; omega
      have hz : (iv .i64 l)[i]? = some (.int .i64 l[i]) := by simp [iv, hil]
      have hli : l[i]? = some l[i] := List.getElem?_eq_getElem hil
      have hmem := List.getElem_mem hil
      generalize l[i] = y at hz hli hmem
      refine hrd.at (i := (i : Int)) (by omega) (by rw [Int.toNat_natCast]; exact hz) (asI_i rfl (cond_split (fun hne => lv_i ?_) (fun hne => lv_i ?_))) (by rw [iv_length]; exact Nat.le_refl _)
      · have := hK w21 hx
        rw [List.any_eq_true.2 ⟨y, hmem, hne⟩] at this
        exact this
      · have hne' : y = but := by simpa using hne
        rw [ei]
        refine hJ (l.length - (i + 1)) (i + 1) w21 (by omega) ⟨rfl, hil, rfl, fun j z hj hz' => ?_⟩
        by_cases hji : j = i
        · subst hji
          rw [hli] at hz'
          cases hz'
          exact hne'
        · exact hall j z (by omega) hz'
    · have hil : i = l.length := by
        have := of_decide_eq_false hc
        omega
      subst hil
      have ha : (l.any fun y => y != but) = false := by
        rw [List.any_eq_false]
        intro y hy
        obtain ⟨j, hj⟩ := List.getElem?_of_mem hy
        have := hall j y (List.getElem?_eq_some_iff.1 hj).1 hj
        simp [this]
      have := hK w21 hx
      rw [ha] at this
      exact this
end Go.Proofs.YtamobmjfdiecbaaGreatDoor

/- PhZ: a step of the document's world, whole. Conditions: those of each theorem, on its arguments. -/
namespace Go.Proofs.YtamobmjfdiecbaaGreatDoor
open Go Go.Sx Go.Fp
attribute [local irreducible] jn lv ld st nw asI asB asP asS asY asM asF asA asT lp rn ru rq cl dw dr bnd bn2 nz nn hd hr so eqW
attribute [local irreducible] callOk

/-- the document's world while it steps: one row, blocks of one's own -/
structure Xq (w0 w : World) (L : List (Nat × List Value × TypeId)) (x : Nat) (T : List Spot) (p : Option Addr) (c n : Nat) (ts : List (Int × Int)) : Prop where
  ext : Ext (onl x) w0 w
  kn : ∀ b ∈ L, w.heap[b.1]? = some (.cells b.2.1.toArray b.2.2 (0, 0)) ∧ w0.heap.size ≤ b.1
  xw : XW w x T
  off : ∀ b ∈ L, b.1 ≠ x
  o : RowN w w0.heap.size 52 2 p c n (ts.flatMap tcl)
  oo : ∀ a, p = some a → a.block ≠ x ∧ ∀ b ∈ L, b.1 ≠ a.block
section
variable {w0 w : World} {L : List (Nat × List Value × TypeId)} {x : Nat} {T : List Spot} {p : Option Addr} {c n : Nat} {ts : List (Int × Int)}
theorem Xq.to (h : Xq w0 w L x T p c n ts) {w' : World} (hx : Ext no w w') : Xq w0 w' L x T p c n ts :=
  ⟨h.ext.then hx fun _ _ h => h.elim, fun b hb => ⟨hx.blk (h.kn b hb).1 fun h => h, (h.kn b hb).2⟩, h.xw.ext hx fun h => h, h.off, h.o.ext hx fun _ _ h => h, h.oo⟩
theorem Xq.tail {y : Nat × List Value × TypeId} (h : Xq w0 w (y :: L) x T p c n ts) : Xq w0 w L x T p c n ts :=
  ⟨h.ext, fun b hb => h.kn b (List.mem_cons_of_mem _ hb), h.xw, fun b hb => h.off b (List.mem_cons_of_mem _ hb), h.o, fun a ha => ⟨(h.oo a ha).1, fun b hb => (h.oo a ha).2 b (List.mem_cons_of_mem _ hb)⟩⟩
theorem Xq.nw (h : Xq w0 w L x T p c n ts) {cs : List Value} {t : TypeId} {K : Nat → World → Prop} (hK : ∀ b w', Xq w0 w' ((b, cs, t) :: L) x T p c n ts → K b w') : nw w (.cells cs.toArray t) K := by
  have hx := Ext.alloc w (.cells cs.toArray t)
  have h' := h.to hx
  have hxl := blk_lt h.xw.blk
  refine nw_mk (hK _ _ ⟨h'.ext, fun b hb => ?_, h'.xw, fun b hb => ?_, h'.o, fun a ha => ⟨(h.oo a ha).1, fun b hb => ?_⟩⟩)
  · rcases List.mem_cons.1 hb with rfl | hb
    · exact ⟨new_blk w _, h.ext.size⟩
    · exact h'.kn b hb
  · rcases List.mem_cons.1 hb with rfl | hb
    · simp only
      omega
    · exact h.off b hb
  · rcases List.mem_cons.1 hb with rfl | hb
    · have := (h.o.at ha).2
      simp only
      omega
    · exact (h.oo a ha).2 b hb
theorem Xq.one {b j : Nat} {cs : List Value} {t : TypeId} (h : Xq w0 w [(b, cs, t)] x T p c n ts) {v u : Value} {K : World → Prop} (hj : cs[j]? = some u) (h1 : Sx.one v = true)
    (hK : ∀ w', Xq w0 w' [(b, cs.set j v, t)] x T p c n ts → K w') : Sx.st w ⟨b, j, none⟩ v K := by
  have hb0 := h.kn _ List.mem_cons_self
  have hbx := h.off _ List.mem_cons_self
  refine st_blk hb0.1 (by simpa using (List.getElem?_eq_some_iff.1 hj).1) h1 fun w' hb hx _ => hK w' ⟨h.ext.then hx fun k hk e => ?_, fun y hy => ?_, h.xw.ext hx fun e => hbx (Eq.symm e), fun y hy => ?_, h.o.ext hx fun a ha e => ?_, fun a ha => ⟨(h.oo a ha).1, fun y hy => ?_⟩⟩
  · have e' : k = b := e
    have := hb0.2
    simp only at this
    omega
  · rw [List.mem_singleton.1 hy]
    exact ⟨by rw [hb]; simp, hb0.2⟩
  · rw [List.mem_singleton.1 hy]
    exact hbx
  · exact (h.oo a ha).2 _ List.mem_cons_self (show b = a.block from Eq.symm e)
  · rw [List.mem_singleton.1 hy]
    exact (h.oo a ha).2 (b, cs, t) List.mem_cons_self
theorem Xq.st8 {b : Nat} {cs : List Value} {t : TypeId} (h : Xq w0 w [(b, cs, t)] x T p c n ts) (hc : cs.length = 8) (e : Ent) {K : World → Prop} (hK : ∀ w', Xq w0 w' [(b, e.cells, t)] x T p c n ts → K w') :
    Sx.st w ⟨b, 0, none⟩ (.int .i64 e.h) fun w1 => Sx.st w1 (Addr.add ⟨b, 0, none⟩ 1) (.int .i64 e.x) fun w2 => Sx.st w2 (Addr.add ⟨b, 0, none⟩ 2) (.int .i64 e.y) fun w3 => Sx.st w3 (Addr.add ⟨b, 0, none⟩ 3) (.int .i64 e.r) fun w4 =>
      Sx.st w4 (Addr.add ⟨b, 0, none⟩ 4) (.int .i64 e.vx) fun w5 => Sx.st w5 (Addr.add ⟨b, 0, none⟩ 5) (.int .i64 e.vy) fun w6 => Sx.st w6 (Addr.add ⟨b, 0, none⟩ 6) (.int .i64 e.o) fun w7 => Sx.st w7 (Addr.add ⟨b, 0, none⟩ 7) (.int .i64 e.t) fun w8 => K w8 := by
  match cs, hc with
  | [a0, a1, a2, a3, a4, a5, a6, a7], _ =>
    simp only [add_mk, Nat.zero_add]
    exact h.one rfl rfl fun w1 h1 => h1.one rfl rfl fun w2 h2 => h2.one rfl rfl fun w3 h3 => h3.one rfl rfl fun w4 h4 => h4.one rfl rfl fun w5 h5 => h5.one rfl rfl fun w6 h6 => h6.one rfl rfl fun w7 h7 => h7.one rfl rfl fun w8 h8 => hK w8 h8
theorem Xq.ld8 {r : Nat} {e : Ent} {t : TypeId} (h : Xq w0 w ((r, e.cells, t) :: L) x T p c n ts) {K : Int → Int → Int → Int → Int → Int → Int → Int → Prop} (hK : K e.h e.x e.y e.r e.vx e.vy e.o e.t) :
    ld w ⟨r, 0, none⟩ fun v1 => asI .i64 v1 fun x0 => ld w (Addr.add ⟨r, 0, none⟩ 1) fun v2 => asI .i64 v2 fun x1 => ld w (Addr.add ⟨r, 0, none⟩ 2) fun v3 => asI .i64 v3 fun x2 => ld w (Addr.add ⟨r, 0, none⟩ 3) fun v4 => asI .i64 v4 fun x3 =>
      ld w (Addr.add ⟨r, 0, none⟩ 4) fun v5 => asI .i64 v5 fun x4 => ld w (Addr.add ⟨r, 0, none⟩ 5) fun v6 => asI .i64 v6 fun x5 => ld w (Addr.add ⟨r, 0, none⟩ 6) fun v7 => asI .i64 v7 fun x6 => ld w (Addr.add ⟨r, 0, none⟩ 7) fun v8 => asI .i64 v8 fun x7 => K x0 x1 x2 x3 x4 x5 x6 x7 :=
  ld8c (e := e) (rd8 (h.kn _ List.mem_cons_self).1) hK
theorem Xq.step (h : Xq w0 w L x T p c n ts) {w' : World} {T' : List Spot} (hw : XW w' x T') (hx : Ext (onl x) w w') : Xq w0 w' L x T' p c n ts :=
  ⟨h.ext.trans hx, fun b hb => ⟨hx.blk (h.kn b hb).1 fun e => h.off b hb e, (h.kn b hb).2⟩, hw, h.off, h.o.ext hx fun a ha e => (h.oo a ha).1 e, h.oo⟩
theorem Xq.app (h : Xq w0 w L x T p c n ts) (hn : n ≤ 1000000) {t : Int × Int} {ty t' : TypeId} {K : Value → World → Prop}
    (hK : ∀ p' c'' w', Xq w0 w' L x T p' c'' (n + 1) (ts ++ [t]) → K (.slice p' (n + 1) c'') w') :
    Sx.nw w (.cells #[.int .i64 t.1, .int .i64 t.2] t') fun r w1 => rn Tryz.prog (Builtin.append_ #[33, 33] ty #[.slice p n c, .slice (some ⟨r, 0, none⟩) 1 1]) w1 K := by
  refine sT.app1 h.o h.ext.size (vs := tcl t) rfl (by simp [tcl, Sx.one]) (le_maxLen (by omega)) (by omega) fun p' c'' w' hr hx hM => hK p' c'' w' ?_
  have hoff : ∀ k, blocks p k → (k ≠ x ∧ ∀ b ∈ L, b.1 ≠ k) ∧ w0.heap.size ≤ k := fun k ⟨a, ha, hk⟩ => hk ▸ ⟨h.oo a ha, (h.o.at ha).1⟩
  have hxl := blk_lt h.xw.blk
  refine ⟨h.ext.then hx fun k hk hkb => ?_, fun b hb => ⟨hx.blk (h.kn b hb).1 fun hk => (hoff _ hk).1.2 b hb rfl, (h.kn b hb).2⟩, h.xw.ext hx fun hk => (hoff x hk).1.1 rfl, h.off, by simpa using hr, fun a ha => ?_⟩
  · have := (hoff k hkb).2
    omega
  · rcases hM with rfl | hM
    · exact h.oo a ha
    · have := hM a ha
      refine ⟨by omega, fun b hb e => ?_⟩
      have := blk_lt (h.kn b hb).1
      omega
end

set_option maxHeartbeats 4000000 in
set_option maxRecDepth 100000 in
theorem step20_k {w : World} {x n0 : Nat} {T : List Spot} (hX : XW w x T) (hG : Good n0 T) {K : Value → World → Prop}
    (hK : ∀ p c w' T', XW w' x T' → Ext (onl x) w w' → Good n0 T' → listS T' = (stepV (listS T)).L →
      RowN w' w.heap.size 52 2 p c (stepV (listS T)).t.length ((stepV (listS T)).t.flatMap tcl) → K (.slice p (stepV (listS T)).t.length c) w') :
    cl Tryz.prog 7 #[.pointer (some ⟨x, 0, none⟩)] w K := by
  have hll := listS_len T
  rw [hX.len] at hll
  have hxl := blk_lt hX.blk
  apply F7_calls
  unfold F7
  refine list19_k hX fun p3 c5 w2 hx2 hr3 => asS_i rfl (lv_i ?_)
  have hrd := hr3.reads
  have hp3 : ∀ a, p3 = some a → w.heap.size ≤ a.block := fun a ha => (hr3.at ha).1
  have hX2 := hX.ext hx2 fun h => h
  generalize hL : listS T = L0 at *
  refine lp_mk (fun s : (Option Addr × Nat × Nat) × Nat => [.slice s.1.1 s.1.2.1 s.1.2.2, .int .i64 (s.2 : Int)])
    (fun m s w' => m = L0.length - s.2 ∧ s.2 ≤ L0.length ∧ ∃ T', Xq w2 w' [] x T' s.1.1 s.1.2.2 s.1.2.1 (stepN L0 s.2).t ∧ s.1.2.1 = (stepN L0 s.2).t.length ∧ Good n0 T' ∧ listS T' = (stepN L0 s.2).L) L0.length ((none, 0, 0), 0) rfl
    ⟨rfl, Nat.zero_le _, T, ⟨Ext.refl _ _, by simp, hX2, by simp, RowN.nil _ _ _ _, fun a ha => by cases ha⟩, rfl, hG, hL⟩ ?_
  rintro _ ⟨⟨p, nn, c⟩, i⟩ w8 ⟨rfl, hi, T1, hS, hnn, hG1, hl1⟩ J hJ
  simp only at hi hS hnn hl1 hJ ⊢
  have ht1 := stepN_t (L := L0) i
  refine asS_i rfl (asI_i rfl (cond_split (fun hc => ?_) (fun hc => ?_)))
  · have hil : i < L0.length := by
      have := of_decide_eq_true hc
      omega
    have ei : IntKind.wrap .i64 ((i : Int) + 1) = ((i + 1 : Nat) : Int) := by rw [wr64 (by omega) (by omega)]; omega
    have hLi0 : L0[i]? = some L0[i] := List.getElem?_eq_getElem hil
    generalize L0[i] = e0 at hLi0
    rw [ei]
    have hh := stepN_h L0 i
    have hlen := stepN_len L0 i
    obtain ⟨e, he⟩ : ∃ e, (stepN L0 i).L[i]? = some e := ⟨_, List.getElem?_eq_getElem (by omega)⟩
    have heh : e.h = e0.h := by
      have a1 : ((stepN L0 i).L.map (·.h))[i]? = some e.h := by rw [List.getElem?_map, he]; rfl
      rw [hh, List.getElem?_map, hLi0] at a1
      simpa using a1.symm
    refine jn_of (fun t w' => ∃ p n c, t = [.slice p n c] ∧ ∃ T', Xq w2 w' [] x T' p c n (stepN L0 (i + 1)).t ∧ n = (stepN L0 (i + 1)).t.length ∧ Good n0 T' ∧ listS T' = (stepN L0 (i + 1)).L) ?_ ?_
    · rintro _ w15 ⟨p, n, c, rfl, T', g1, g2, g3, g4⟩
      exact asS_i rfl (lv_i (hJ (L0.length - (i + 1)) ((p, n, c), i + 1) w15 (by omega) ⟨rfl, hil, T', g1, g2, g3, g4⟩))
    · intro J2 hJ2
      have hrd8 : Reads w8 p3 (L0.flatMap Ent.cells) := hrd.ext hS.ext fun a ha hk => by
        have := hp3 a ha
        have hk' : a.block = x := hk
        omega
      refine Reads.atN (f := Ent.cells) Ent.cells_length hrd8 rfl hLi0 (by decide) fun a1 _ hca => ?_
      rw [Int.toNat_natCast]
      have h0 := hca 0 (by decide)
      rw [Sx.add_zero'] at h0
      refine ld_mk h0 (asI_i rfl (lv_i ?_))
      rw [← heh]
      have hl1e : (listS T1)[i]? = some e := by rw [hl1]; exact he
      have hgo := get_of hG1 hl1e
      refine get19_k hS.xw hG1 fun w22 hx22 => ?_
      rw [hgo.1, hgo.2]
      replace hS := hS.to hx22
      refine asT_i (l := [e.v, .int .i64 0]) rfl rfl (asI8 ?_)
      refine asI_i rfl (asI_i rfl (asI_i rfl (asI_i rfl (asI_i rfl (asI_i rfl (asI_i rfl (asI_i rfl (asI_i rfl ?_))))))))
      refine hS.nw (cs := Ent.zero.cells) fun r34 w35 hS => ?_
      refine hS.st8 rfl e fun w43 hS => lv_i ?_
      have hs2 : stepN L0 (i + 1) = turn1 i (turn1 i ⟨(stepN L0 i).L, (stepN L0 i).t, []⟩ false) true := rfl
      rw [hs2] at hJ2
      clear hs2 hca h0 hgo hrd8
      rw [← hl1] at he hJ2
      have hA := turn1_eq (m := i) (s := ⟨listS T1, (stepN L0 i).t, []⟩) he false
      obtain ⟨i1, s1, hs1, hth1, hse1, hat1, heR, heI, hset1⟩ := list_at hG1 he
      have hisl := (List.getElem?_eq_some_iff.1 he).1
      have hlR := list_right hG1
      -- along x
      refine hS.ld8 ?_
      refine along_k hS.xw (e := e) heR hlR false fun w62 A V n1 hT1 hx62 => asT_i rfl rfl (asI_i rfl (asI_i rfl (asI_i rfl (lv_i (lv_i (lv_i ?_))))))
      replace hS := hS.to hx62
      have add1 : Addr.add (⟨r34, 0, none⟩ : Addr) 1 = ⟨r34, 1, none⟩ := by rw [add_mk]
      have add4 : Addr.add (⟨r34, 0, none⟩ : Addr) 4 = ⟨r34, 4, none⟩ := by rw [add_mk]
      have add2 : Addr.add (⟨r34, 1, none⟩ : Addr) 1 = ⟨r34, 2, none⟩ := by rw [add_mk]
      have add5 : Addr.add (⟨r34, 4, none⟩ : Addr) 1 = ⟨r34, 5, none⟩ := by rw [add_mk]
      have keep1 := add1
      have keep4 := add4
      rw [hT1] at hA
      have hTR := turnE_right (L := listS T1) (k := false) heR
      have hTI := turnE_I (L := listS T1) (k := false) heI
      rw [hT1] at hTR hTI
      simp only at hTR hTI hA
      have step1 : ∀ {K : World → Prop}, (∀ w', Xq w2 w' [(r34, (e.setk false A V).cells, 48)] x T1 p c nn (stepN L0 i).t → K w') → Sx.st w62 (Addr.add ⟨r34, 0, none⟩ 1) (.int .i64 A) fun w70 => Sx.st w70 (Addr.add ⟨r34, 0, none⟩ 4) (.int .i64 V) K := fun {K} hK => by
        rw [add1, add4]
        exact hS.one rfl rfl fun w70 hS => hS.one rfl rfl fun w71 hS => hK w71 hS
      refine step1 fun w71 hS => ?_
      clear step1
      have hEh : (e.setk false A V).h = e.h := setk_h _ _ _ _
      generalize e.setk false A V = e1 at *
      refine hS.ld8 ?_
      have hse0 : setE T1 e.h e1 = 0 := by
        unfold setE
        rw [hat1, if_pos (by rfl)]
        exact hTR
      refine set19_k hS.xw hG1 (hh := e.h) (e := e1) (fun w' _ hne => absurd hse0 hne) fun w89 i2 s2 _ hat2 hs2 hw hx89 => asI_i rfl ?_
      rw [hat1] at hat2
      cases hat2
      rw [hs1] at hs2
      cases hs2
      have he2 : s1.e.h = e.h := by rw [hse1]
      have hG2 := hG1.setE hs1 hth1 hTR hTI he2
      have hl2 := hset1 s1.gen e1
      have eT : ({ e1 with h := e.h } : Ent) = e1 := by rw [← hEh]
      rw [hth1, eT] at hG2 hw
      replace hS := hS.step hw hx89
      generalize T1.set i1 ⟨s1.gen, true, e1⟩ = T2 at *
      -- along y
      have he1 : (listS T2)[i]? = some e1 := by rw [hl2]; exact List.getElem?_set_self hisl
      obtain ⟨i3, s3, hs3, hth3, hse3, hat3, heR3, heI3, hset3⟩ := list_at hG2 he1
      have hlR3 := list_right hG2
      refine hS.ld8 ?_
      refine along_k hS.xw (e := e1) heR3 hlR3 true fun w108 A2 V2 n2 hT2 hx108 => asT_i rfl rfl (asI_i rfl (asI_i rfl (asI_i rfl (lv_i (lv_i (lv_i ?_))))))
      replace hS := hS.to hx108
      have hTR3 := turnE_right (L := listS T2) (k := true) heR3
      have hTI3 := turnE_I (L := listS T2) (k := true) heI3
      rw [hT2] at hTR3 hTI3
      simp only at hTR3 hTI3
      have step2 : ∀ {K : World → Prop}, (∀ w', Xq w2 w' [(r34, (e1.setk true A2 V2).cells, 48)] x T2 p c nn (stepN L0 i).t → K w') → Sx.st w108 (Addr.add (Addr.add ⟨r34, 0, none⟩ 1) 1) (.int .i64 A2) fun w70 => Sx.st w70 (Addr.add (Addr.add ⟨r34, 0, none⟩ 4) 1) (.int .i64 V2) K := fun {K} hK => by
        rw [add1, add4, add2, add5]
        exact hS.one rfl rfl fun w70 hS => hS.one rfl rfl fun w71 hS => hK w71 hS
      refine step2 fun w117 hS => ?_
      clear step2
      have hE2h : (e1.setk true A2 V2).h = e1.h := setk_h _ _ _ _
      generalize e1.setk true A2 V2 = e2 at *
      refine hS.ld8 ?_
      rw [← hEh]
      have hse3' : setE T2 e1.h e2 = 0 := by
        unfold setE
        rw [hat3, if_pos (by rfl)]
        exact hTR3
      refine set19_k hS.xw hG2 (hh := e1.h) (e := e2) (fun w' _ hne => absurd hse3' hne) fun w135 i4 s4 _ hat4 hs4 hw hx135 => asI_i rfl ?_
      rw [hat3] at hat4
      cases hat4
      rw [hs3] at hs4
      cases hs4
      have he4 : s3.e.h = e1.h := by rw [hse3]
      have hG3 := hG2.setE hs3 hth3 hTR3 hTI3 he4
      have hl3 := hset3 s3.gen e2
      have eT2 : ({ e2 with h := e1.h } : Ent) = e2 := by rw [← hE2h]
      rw [hth3, eT2] at hG3 hw
      replace hS := (hS.step hw hx135).tail
      generalize T2.set i3 ⟨s3.gen, true, e2⟩ = T3 at *
      -- what the plain step says
      have hfin : ∃ t2, turn1 i (turn1 i ⟨listS T1, (stepN L0 i).t, []⟩ false) true = ⟨listS T3, t2, (turn1 i (turn1 i ⟨listS T1, (stepN L0 i).t, []⟩ false) true).met⟩ ∧
          t2 = ((stepN L0 i).t ++ if n1 ≠ 0 then [(e1.h, n1)] else []) ++ if n2 ≠ 0 ∧ n2 ≠ n1 then [(e1.h, n2)] else [] := by
        by_cases h1 : n1 = 0
        · rw [if_neg (fun h => h.1 h1)] at hA
          have hB := turn1_eq (m := i) (s := ⟨(listS T1).set i e1, (stepN L0 i).t, []⟩) (e := e1) (List.getElem?_set_self hisl) true
          rw [hA]
          simp only [← hl2] at hB ⊢
          rw [hT2] at hB
          rw [if_neg (fun h => h h1), List.append_nil]
          by_cases h2 : n2 = 0
          · rw [if_neg (fun h => h.1 h2)] at hB
            rw [hB, if_neg (fun h => h.1 h2), List.append_nil]
            exact ⟨_, by rw [hl3], rfl⟩
          · rw [if_pos ⟨h2, by simp⟩] at hB
            rw [hB, if_pos ⟨h2, by omega⟩]
            exact ⟨_, by rw [hl3], rfl⟩
        · rw [if_pos ⟨h1, by simp⟩] at hA
          have hB := turn1_eq (m := i) (s := ⟨(listS T1).set i e1, (stepN L0 i).t ++ [(e.h, n1)], [] ++ [n1]⟩) (e := e1) (List.getElem?_set_self hisl) true
          rw [hA]
          simp only [← hl2] at hB ⊢
          rw [hT2] at hB
          rw [if_pos (show n1 ≠ 0 from h1), hEh]
          by_cases h2 : n2 ≠ 0 ∧ n2 ≠ n1
          · rw [if_pos ⟨h2.1, by simpa using h2.2⟩] at hB
            rw [hB, if_pos h2]
            exact ⟨_, by rw [hl3], by rw [hEh]⟩
          · rw [if_neg (fun h => h2 ⟨h.1, by simpa using h.2⟩)] at hB
            rw [hB, if_neg h2, List.append_nil]
            exact ⟨_, by rw [hl3], rfl⟩
      obtain ⟨t2, hf1, hf2⟩ := hfin
      rw [hf1] at hJ2
      simp only at hJ2
      refine jn_of (fun t w' => ∃ p n c, t = [.slice p n c] ∧ Xq w2 w' [] x T3 p c n ((stepN L0 i).t ++ if n1 ≠ 0 then [(e1.h, n1)] else []) ∧ n = ((stepN L0 i).t ++ if n1 ≠ 0 then [(e1.h, n1)] else []).length) ?_ ?_
      · rintro _ w138 ⟨p, n, c, rfl, hS, hn⟩
        have hn1000 : n ≤ 1000 := by
          rw [hn, List.length_append]
          split <;> simp <;> omega
        refine asS_i rfl ?_
        refine jn_of (fun t w' => t = [.bool (decide (n2 ≠ 0 ∧ n2 ≠ n1))] ∧ w' = w138) ?_ ?_
        · rintro _ w151 ⟨rfl, rfl⟩
          refine asB_i rfl (cond_split (fun hcc => ?_) (fun hcc => ?_))
          · have hcc' := of_decide_eq_true hcc
            rw [if_pos hcc'] at hf2
            refine hS.app (t := (e1.h, n2)) (by omega) fun p2 c3 w157 hS => asS_i rfl (hJ2 _ _ ⟨p2, _, c3, rfl, T3, by rw [hf2]; exact hS, ?_, hG3, rfl⟩)
            rw [hf2, List.length_append, List.length_singleton, ← hn]
          · have hcc' := of_decide_eq_false hcc
            rw [if_neg hcc', List.append_nil] at hf2
            exact hJ2 _ _ ⟨p, _, c, rfl, T3, by rw [hf2]; exact hS, by rw [hf2]; exact hn, hG3, rfl⟩
        · intro J4 hJ4
          refine cond_split (fun h0 => hJ4 _ _ ⟨?_, rfl⟩) (fun h0 => hJ4 _ _ ⟨?_, rfl⟩)
          · have h0' : n2 ≠ 0 := by simpa using h0
            by_cases hm : n2 = n1
            · rw [decide_eq_false (fun h => h.2 hm), hm]; simp
            · rw [decide_eq_true (show n2 ≠ 0 ∧ n2 ≠ n1 from ⟨h0', hm⟩)]
              simp [hm]
          · have h0' : n2 = 0 := by simpa using h0
            rw [decide_eq_false (fun h => h.1 h0')]
      · intro J3 hJ3
        refine cond_split (fun h0 => ?_) (fun h0 => ?_)
        · have h0' : n1 ≠ 0 := by simpa using h0
          refine hS.app (t := (e1.h, n1)) (by omega) fun p2 c3 w143 hS => asS_i rfl (hJ3 _ _ ⟨p2, _, c3, rfl, ?_⟩)
          rw [if_pos h0']
          exact ⟨hS, by simp [hnn]⟩
        · have h0' : n1 = 0 := by simpa using h0
          refine hJ3 _ _ ⟨p, _, c, rfl, ?_⟩
          rw [if_neg (fun h => h h0'), List.append_nil]
          exact ⟨hS, hnn⟩
  · have hil : i = L0.length := by
      have := of_decide_eq_false hc
      omega
    subst hil
    have e1 : stepV L0 = stepN L0 L0.length := rfl
    rw [e1] at hK
    rw [hnn]
    refine hK p c w8 T1 hS.xw ((Ext.of_no hx2).trans hS.ext) hG1 hl1 ?_
    rw [← hnn]
    exact hS.o.mono hx2.size
end Go.Proofs.YtamobmjfdiecbaaGreatDoor

/- PhL1: the law PhysicsApart comes out true for every input. Conditions: those of the law's arguments as they are read; the table of the axes as the program's text lays it. -/
namespace Go.Proofs.YtamobmjfdiecbaaGreatDoor
open Go Go.Sx Go.Fp
attribute [local irreducible] jn lv ld st nw asI asB asP asS asY asM asF asA asT lp rn ru rq cl dw dr bnd bn2 nz nn hd hr so eqW
attribute [local irreducible] callOk

theorem andm (x : Int) {m : Nat} (hm : m < 9223372036854775808) : 0 ≤ Go.bits .and .i64 x (m : Int) ∧ Go.bits .and .i64 x (m : Int) ≤ m := by
  have h : ∀ a : Nat, a ≤ m → 0 ≤ IntKind.wrap .i64 (a : Int) ∧ IntKind.wrap .i64 (a : Int) ≤ m := fun a ha => by
    rw [wr64 (by omega) (by omega)]; omega
  simp only [Go.bits]
  refine h _ ?_
  rw [BitVec.toNat_and]
  refine Nat.le_trans Nat.and_le_right ?_
  rw [BitVec.toNat_ofInt]
  have : ((m : Int) % (2 ^ IntKind.i64.bits : Nat)) = (m : Int) := by
    simp only [IntKind.bits]
    omega
  rw [this]
  simp
theorem addA (A : Addr) (m n : Nat) : Addr.add (Addr.add A m) n = Addr.add A (m + n) := by
  by_cases hm : m = 0 <;> by_cases hn : n = 0 <;> simp [Addr.add, hm, hn, Nat.add_assoc]
theorem Pw.dropL {W w : World} {F : Nat → Prop} {r g : Nat} {S : List Spot} {B : List (Int × Bx)} {D : List ((Int × Int) × List Int)} {N : Nat} : ∀ {LL L : List (Nat × List Value × TypeId)}, Pw W w (LL ++ L) F r g S B D N → Pw W w L F r g S B D N
  | [], _, h => h
  | _ :: LL, _, h => Pw.dropL (LL := LL) h.tail
theorem Pw.mono {W w : World} {L : List (Nat × List Value × TypeId)} {F : Nat → Prop} {r g : Nat} {S : List Spot} {B : List (Int × Bx)} {D : List ((Int × Int) × List Int)} {N M : Nat} (h : Pw W w L F r g S B D N) (hM : N ≤ M) : Pw W w L F r g S B D M := ⟨h.st, h.wd.mono hM, h.fr⟩

/-- the laws' world -/
theorem made_pw {W w : World} (hx : Ext no W w) {l kl : Option Addr} {len cap kn kc : Nat} {es : List Ent} {ks : List Int} (R : Reads W l (es.flatMap Ent.cells)) (hl : es.length = len) (hI : ∀ e ∈ es, e.I) (Rk : Reads W kl (iv .i64 ks)) (hk : ks.length = kn) {K : Value → World → Prop}
    (hK : ∀ w' F r g x B D, Pw W w' [] F r g (madeN es ks (min len 40)) B D 40960 → Good 40 (madeN es ks (min len 40)) → Lies (madeN es ks (min len 40)) B D → (B.map (·.1)).Nodup → K (.tuple #[.pointer (some ⟨r, 0, none⟩), .pointer (some ⟨x, 0, none⟩)]) w') :
    cl Tryz.prog 5 #[.slice l len cap, .slice kl kn kc] w K := by
  refine made_k (Reads.no hx R) hl hI (Reads.no hx Rk) hk fun w' r g x B D h hG hL hB => ?_
  obtain ⟨F, h1, h2, h3, h4⟩ := h.gr
  refine hK w' F r g x B D ⟨((St.start W).to hx).to h.st.ext, h1, fun k hk => ⟨?_, by simp⟩⟩ hG hL hB
  have := (h4 k (.inl hk)).1
  have := hx.size
  omega

theorem hands_nd {n : Nat} {S : List Spot} (hG : Good n S) : ((listS S).map (·.h)).Nodup := by
  rw [List.nodup_iff_pairwise_ne, List.pairwise_map, List.pairwise_iff_getElem]
  intro i j hi hj hij he
  obtain ⟨i1, s1, h1, h2, h3, h4, _, _, h5⟩ := list_at hG (List.getElem?_eq_getElem hi)
  obtain ⟨j1, t1, g1, g2, g3, g4, _, _, g5⟩ := list_at hG (List.getElem?_eq_getElem hj)
  rw [he, g4] at h4
  cases h4
  have e1 := h5 0 ⟨1, 0, 0, 0, 0, 0, 0, 0⟩
  rw [g5 0 ⟨1, 0, 0, 0, 0, 0, 0, 0⟩] at e1
  have e2 := congrArg (fun l => l[i]?) e1
  rw [List.getElem?_set_self hi, List.getElem?_set_ne (by omega), List.getElem?_eq_getElem hi] at e2
  have e3 := Option.some.inj e2
  have h6 := (list_at hG (List.getElem?_eq_getElem hi))
  obtain ⟨_, _, _, _, _, _, hr, _⟩ := h6
  rw [e3] at hr
  revert hr
  decide

/-- three places of an entity: its box -/
theorem ld3 {w : World} {A : Addr} {e : Ent} (hc : ∀ k, k < 8 → w.cell? (Addr.add A k) = e.cells[k]?) {K : Int → Int → Int → Prop} (hK : K e.x e.y e.r) :
    ld w (Addr.add A 1) fun v1 => asI .i64 v1 fun x0 => ld w (Addr.add (Addr.add A 1) 1) fun v2 => asI .i64 v2 fun x1 => ld w (Addr.add (Addr.add A 1) 2) fun v3 => asI .i64 v3 fun x2 => K x0 x1 x2 :=
  ld_mk (hc 1 (by decide)) (asI_i rfl (ld_mk (by rw [addA]; exact hc 2 (by decide)) (asI_i rfl (ld_mk (by rw [addA]; exact hc 3 (by decide)) (asI_i rfl hK)))))

end Go.Proofs.YtamobmjfdiecbaaGreatDoor

/- PhL3: the law PhysicsSame comes out true for every input: a clone makes the same steps. Conditions: those of the law's arguments as they are read; the table of the axes as the program's text lays it. -/
namespace Go.Proofs.YtamobmjfdiecbaaGreatDoor
open Go Go.Sx Go.Fp
attribute [local irreducible] jn lv ld st nw asI asB asP asS asY asM asF asA asT lp rn ru rq cl dw dr bnd bn2 nz nn hd hr so eqW
attribute [local irreducible] callOk

theorem sameT_k {w : World} {a b : Option Addr} {n m ca cb : Nat} {ts : List (Int × Int)} (hI : ∀ t ∈ ts, I64 t.1 ∧ I64 t.2) (ha : Reads w a (ts.flatMap tcl)) (hb : Reads w b (ts.flatMap tcl)) (hn : ts.length = n) (hm : ts.length = m) (hM : n ≤ 140737488351232) {K : Value → World → Prop}
    (hK : ∀ w', Ext no w w' → K (.bool true) w') : cl Tryz.prog 8 #[.slice a n ca, .slice b m cb] w K := by
  subst hm
  subst hn
  apply F8_calls
  unfold F8
  refine cond_f (by simp) (lv_i ?_)
  refine lp_mk (fun i : Nat => [.int .i64 (i : Int)]) (fun m i w' => m = ts.length - i ∧ i ≤ ts.length ∧ Ext no w w') ts.length 0 rfl ⟨rfl, Nat.zero_le _, Ext.refl _ _⟩ ?_
  rintro _ i w1 ⟨rfl, hi, hx⟩ J hJ
  refine asI_i rfl (cond_split (fun hc => ?_) (fun _ => hK w1 hx))
  have hlt : i < ts.length := by
    have := of_decide_eq_true hc
    omega
  have he : ts[i]? = some ts[i] := List.getElem?_eq_getElem hlt
  have hIe := hI _ (List.getElem_mem hlt)
  generalize ts[i] = t at he hIe
  refine dw_mk ?_
  have hx' : Ext no w w1.drew := hx.trans (Ext.drew w1)
  have rdT : ∀ {p : Option Addr}, Reads w p (ts.flatMap tcl) → ∀ {K : Addr → Prop}, (∀ a, w1.drew.cell? (Addr.add a (i * 2)) = some (.int .i64 t.1) → w1.drew.cell? (Addr.add (Addr.add a (i * 2)) 1) = some (.int .i64 t.2) → K a) → dr p fun a => bnd (i : Int) ts.length (K a) := fun {p} hp {K} hK =>
    Reads.atN (f := tcl) (s := 2) (fun _ => rfl) (Reads.no hx' hp) rfl he (by decide) fun a _ hca => hK a (by have := hca 0 (by decide); rwa [Sx.add_zero'] at this) (hca 1 (by decide))
  rw [Int.toNat_natCast]
  refine rdT ha fun a7 h0 h1 => ld_mk h0 (asI_i rfl (ld_mk h1 (asI_i rfl ?_)))
  refine rdT hb fun a12 h0 h1 => ld_mk h0 (asI_i rfl (ld_mk h1 (asI_i rfl ?_)))
  refine eqTch hIe.1 hIe.2 (cond_f rfl (lv_i ?_))
  have ei : IntKind.wrap .i64 ((i : Int) + 1) = ((i + 1 : Nat) : Int) := by rw [wr64 (by omega) (by omega)]; omega
  rw [ei]
  exact hJ (ts.length - (i + 1)) (i + 1) _ (by omega) ⟨rfl, by omega, hx'⟩

theorem touch_I {n : Nat} {S : List Spot} (hG : Good n S) : ∀ t ∈ (stepV (listS S)).t, I64 t.1 ∧ I64 t.2 := by
  intro t ht
  have hh := Tch.step (list_right hG) (hands_nd hG) (listS S).length t ht
  have key : ∀ x, x ∈ (listS S).map (·.h) → I64 x := fun x hx => by
    obtain ⟨e, he, rfl⟩ := List.mem_map.1 hx
    obtain ⟨m, s, hs, hth, rfl⟩ := listS_mem he
    exact ((hG m s hs).2.2.2 hth).2.2.2.1
  exact ⟨key _ hh.1, key _ hh.2.1⟩
theorem list_I {n : Nat} {S : List Spot} (hG : Good n S) : ∀ e ∈ listS S, e.I := fun e he => by
  obtain ⟨m, s, hs, ht, rfl⟩ := listS_mem he
  exact ((hG m s hs).2.2.2 ht).2.2.2

/-- two worlds of the program's, in blocks of their own -/
structure P2 (W w : World) (F : Nat → Prop) (r g : Nat) (S : List Spot) (B : List (Int × Bx)) (D : List ((Int × Int) × List Int)) (F2 : Nat → Prop) (r2 g2 : Nat) (S2 : List Spot) (B2 : List (Int × Bx)) (D2 : List ((Int × Int) × List Int)) (N : Nat) : Prop where
  ext : Ext no W w
  a : Wd w F r g S B D N
  b : Wd w F2 r2 g2 S2 B2 D2 N
  ds : ∀ k, wF F r k → ¬ wF F2 r2 k
  fr : ∀ k, (wF F r k ∨ wF F2 r2 k) → W.heap.size ≤ k
section
variable {W w : World} {F F2 : Nat → Prop} {r g r2 g2 : Nat} {S S2 : List Spot} {B B2 : List (Int × Bx)} {D D2 : List ((Int × Int) × List Int)} {N : Nat}
theorem P2.swap (h : P2 W w F r g S B D F2 r2 g2 S2 B2 D2 N) : P2 W w F2 r2 g2 S2 B2 D2 F r g S B D N := ⟨h.ext, h.b, h.a, fun k hk hk' => h.ds k hk' hk, fun k hk => h.fr k hk.symm⟩
theorem P2.to (h : P2 W w F r g S B D F2 r2 g2 S2 B2 D2 N) {w' : World} (hx : Ext no w w') : P2 W w' F r g S B D F2 r2 g2 S2 B2 D2 N := ⟨h.ext.trans hx, h.a.ext hx fun _ _ h => h, h.b.ext hx fun _ _ h => h, h.ds, h.fr⟩
theorem P2.mono (h : P2 W w F r g S B D F2 r2 g2 S2 B2 D2 N) {M : Nat} (hM : N ≤ M) : P2 W w F r g S B D F2 r2 g2 S2 B2 D2 M := ⟨h.ext, h.a.mono hM, h.b.mono hM, h.ds, h.fr⟩
theorem P2.ltb (h : P2 W w F r g S B D F2 r2 g2 S2 B2 D2 N) : ∀ k, wF F2 r2 k → k < w.heap.size := by
  rintro k (hk | rfl)
  · exact h.b.f_lt k hk
  · exact h.b.r_lt
theorem P2.step (h : P2 W w F r g S B D F2 r2 g2 S2 B2 D2 N) {n : Nat} (hA : Ax W) (hG : Good n S) (hLi : Lies S B D) (hB : (B.map (·.1)).Nodup) (hN : N ≤ 500000000000) {K : Value → World → Prop}
    (hK : ∀ p c w' F' S' B' D', P2 W w' F' r g S' B' D' F2 r2 g2 S2 B2 D2 (N + 131072) → Good n S' → Lies S' B' D' → (B'.map (·.1)).Nodup → listS S' = (stepV (listS S)).L → Ext (wF F r) w w' →
      RowN w' w.heap.size 52 2 p c (stepV (listS S)).t.length ((stepV (listS S)).t.flatMap tcl) → K (.slice p (stepV (listS S)).t.length c) w') :
    cl Tryz.prog 6 #[.pointer (some ⟨r, 0, none⟩)] w K := by
  have h0 : 0 < W.heap.size := Nat.lt_of_le_of_lt (Nat.zero_le _) (World.block_lt_of_cell? W _ hA.a0)
  refine step_k (hA.no h.ext) h.a (fun hk => ?_) hG hLi hB hN fun p c w' F' S' B' D' hw hx hF hG' hL' hB' hl hr _ => hK p c w' F' S' B' D' ⟨?_, hw, ?_, fun k hk hk2 => ?_, fun k hk => ?_⟩ hG' hL' hB' hl hx hr
  · have := h.fr 0 (.inl hk)
    omega
  · exact h.ext.then hx fun k hk hkF => by
      have := h.fr k (.inl hkF)
      omega
  · exact (h.b.ext hx fun k hk hkF => h.ds k hkF hk).mono (by omega)
  · have := h.ltb k hk2
    rcases hk with hk | hk
    · rcases hF k hk with h' | h'
      · exact h.ds k (.inl h') hk2
      · omega
    · exact h.ds k (.inr hk) hk2
  · rcases hk with (hk | hk) | hk
    · rcases hF k hk with h' | h'
      · exact h.fr k (.inl (.inl h'))
      · have := h.ext.size
        omega
    · exact h.fr k (.inl (.inr hk))
    · exact h.fr k (.inr hk)
end

end Go.Proofs.YtamobmjfdiecbaaGreatDoor

/- PhL6: the law PhysicsSteps comes out true for every input: the program's steps are the document's. Conditions: those of the law's arguments as they are read; the table of the axes as the program's text lays it. -/
namespace Go.Proofs.YtamobmjfdiecbaaGreatDoor
open Go Go.Sx Go.Fp
attribute [local irreducible] jn lv ld st nw asI asB asP asS asY asM asF asA asT lp rn ru rq cl dw dr bnd bn2 nz nn hd hr so eqW
attribute [local irreducible] callOk

theorem outW_list {S T : List Spot} (hS : S.length = 64) (hT : T.length = 64) (h : listS S = listS T) (b : Bx) : outW S b = outW T b := by
  by_cases hr : b.right = true
  · rw [outW_eq hS hr, outW_eq hT hr, h]
  · unfold outW
    rw [if_neg hr, if_neg hr]

set_option maxHeartbeats 2000000 in
theorem physicsSteps_law (W : World) (hA : Ax W) (a0 : Option Addr) (len0 cap0 : Nat) (z0 : List (List Value)) (R0 : Reads W a0 z0.flatten) (L0 : z0.length = len0) (F0 : ∀ c ∈ z0, FitsAll [.int .i64, .int .i64, .int .i64, .int .i64, .int .i64, .int .i64, .int .i64, .int .i64] c) (Y0 : len0 * 64 ≤ 140737488351232)
    (a1 : Option Addr) (len1 cap1 : Nat) (z1 : List Int) (Ra : Reads W a1 (iv .i64 z1)) (La : z1.length = len1) (_F1 : ∀ n ∈ z1, (Lit.int .i64 n).wf = true) (_Y1 : len1 * 8 ≤ 140737488351232) (steps : Int) (_ws : (Lit.int .i64 steps).wf = true) (z3 : List Value) (Fz : FitsAll [.int .i64, .int .i64, .int .i64] z3) (but : Int) (_wb : (Lit.int .i64 but).wf = true) :
    cl Tryz.prog 3 #[.slice a0 len0 cap0, .slice a1 len1 cap1, .int .i64 steps, .agg z3.toArray, .int .i64 but] W fun v w' => v = .bool true ∧ Ext no W w' := by
  obtain ⟨es, hz, hl, hI⟩ := ents_of rfl F0
  rw [hz] at R0
  rw [L0] at hl
  clear hz L0 F0
  obtain ⟨b, rfl, _⟩ := bx_of' Fz
  apply F3_calls
  unfold F3
  have hS := St.start W
  (refine St.nw hS ?_; clear hS; intro r1 _ hS)
  refine awake20_k (hA.no hS.ext) fun w4 hx4 => asB_i rfl ?_
  replace hS := hS.to hx4
  refine made_k (Reads.no hS.ext R0) hl hI (Reads.no hS.ext Ra) La fun w7 r g x B D h7 hG hLi hB => asT_i rfl rfl (asP_i rfl (asP_i rfl ?_))
  generalize madeN es z1 (min len0 40) = S at *
  have hW2 : W2 W w7 [(r1, b.cells, 27)] r g S B D 40960 x S := by
    obtain ⟨F, h1, h2, h3, h4⟩ := h7.gr
    refine ⟨hS.to h7.st.ext, F, h1, h2, h3, fun k hk => ?_⟩
    have h5 := (h4 k hk).1
    have := hS.ext.size
    refine ⟨by omega, fun b' hb' => ?_⟩
    have := blk_lt (hS.kn b' hb').1
    omega
  have h0 : 0 < W.heap.size := Nat.lt_of_le_of_lt (Nat.zero_le _) (World.block_lt_of_cell? W _ hA.a0)
  clear h7 hS
  refine jn_of (fun t w' => t = [.bool false] ∧ w' = w7) ?_ ?_
  rotate_left
  · intro J hJ
    exact cond_f rfl (hJ _ _ ⟨rfl, rfl⟩)
  rintro _ w12 ⟨rfl, rfl⟩
  refine asB_i rfl (cond_f rfl (lv_i ?_))
  refine lp_mk (fun i : Nat => [.int .i64 (i : Int)]) (fun m i w' => m = 8 - i ∧ i ≤ 8 ∧ ∃ S B D T, W2 W w' [(r1, b.cells, 27)] r g S B D (40960 + 131072 * i) x T ∧ Good 40 S ∧ Lies S B D ∧ (B.map (·.1)).Nodup ∧ Good 40 T ∧ listS S = listS T) 8 0 rfl
    ⟨rfl, Nat.zero_le _, S, B, D, S, hW2, hG, hLi, hB, hG, rfl⟩ ?_
  clear hW2 hG hLi hB S B D hx4
  rintro _ n w17 ⟨rfl, hn, S, B, D, T, h, hG, hLi, hB, hT, hST⟩ J hJ
  have h7' := andm steps (m := 7) (by decide)
  refine asI_i rfl (cond_split (fun hc => ?_) (fun _ => ⟨rfl, h.st.ext⟩))
  have hn8 : n < 8 := by
    have := of_decide_eq_true hc
    have : Go.bits .and .i64 steps (7 : Int) ≤ 7 := h7'.2
    omega
  have en : IntKind.wrap .i64 ((n : Int) + 1) = ((n + 1 : Nat) : Int) := by rw [wr64 (by omega) (by omega)]; omega
  obtain ⟨F, g1, g2, g3, g4⟩ := h.gr
  have hxl := blk_lt g2.blk
  refine step_k (hA.no h.st.ext) g1 (fun hk => by have := (g4 0 (.inl hk)).1; omega) hG hLi hB (by omega) fun p22 c24 w21 F2 S2 B2 D2 hw hx hF hG2 hL2 hB2 hl2 hr22 ho22 => asS_i rfl ?_
  have h2 := W2.step1 h.st g1 g2 g3 g4 hw hx hF
  obtain ⟨Fe, e1, e2, e3, e4⟩ := h2.gr
  refine step20_k e2 hT fun p27 c29 w26 T2 hw2 hx2 hT2 hlT hr27 => asS_i rfl ?_
  have h3 := W2.step2 h2.st e1 e3 e4 hw2 hx2
  have hTI := touch_I hG
  have htl := stepN_t (L := listS S) (listS S).length
  have hll := listS_len S
  have h64 := g1.ws.len
  have ee : stepV (listS S) = stepN (listS S) (listS S).length := rfl
  rw [← ee] at htl
  rw [← hST] at hlT hr27 ⊢
  have hrd1 : Reads w26 p22 ((stepV (listS S)).t.flatMap tcl) := hr22.reads.ext hx2 fun a ha hk => by
    have := (hr22.at ha).1
    have hk' : a.block = x := hk
    omega
  have hST2 : listS S2 = listS T2 := by rw [hl2, hlT]
  refine sameT_k hTI hrd1 hr27.reads rfl rfl (by omega) fun w31 hx31 => asB_i rfl ?_
  replace h3 := h3.to hx31
  obtain ⟨F4, k1, k2, k3, k4⟩ := h3.gr
  have hll2 := listS_len S2
  have h642 := k1.ws.len
  have h64T := k2.len
  refine list_k k1.ws fun p35 c37 w34 hx34 hr35 => asS_i rfl ?_
  refine list19_k (k2.ext hx34 fun h => h) fun p40 c42 w39 hx39 hr40 => asS_i rfl ?_
  rw [← hST2] at hr40 ⊢
  refine rsame_k (list_I hG2) (Reads.no hx39 hr35.reads) hr40.reads rfl rfl (by omega) fun w44 hx44 => asB_i rfl ?_
  replace h3 := ((h3.to hx34).to hx39).to hx44
  have hcb : ∀ {w' : World}, Ext no w44 w' → ∀ {K : Int → Int → Int → Prop}, K b.x b.y b.r → ld w' ⟨r1, 0, none⟩ fun v => asI .i64 v fun x0 => ld w' (Addr.add ⟨r1, 0, none⟩ 1) fun v => asI .i64 v fun x1 => ld w' (Addr.add ⟨r1, 0, none⟩ 2) fun v => asI .i64 v fun x2 => K x0 x1 x2 := fun {w'} hx {K} hK => by
    have hb := ((h3.to hx).st.kn _ List.mem_cons_self).1
    have hc : ∀ k v, b.cells[k]? = some v → w'.cell? ⟨r1, k, none⟩ = some v := fun k v hv => by
      rw [blk_cell hb]
      simpa using hv
    exact ld_mk (hc 0 _ rfl) (asI_i rfl (ld_mk (by rw [add_mk]; exact hc 1 _ rfl) (asI_i rfl (ld_mk (by rw [add_mk]; exact hc 2 _ rfl) (asI_i rfl hK)))))
  refine hcb (Ext.refl _ _) ?_
  obtain ⟨F5, m1, m2, m3, m4⟩ := h3.gr
  refine free_k m1 hL2 (by omega) (b := b) (but := but) fun w53 hx53 => asT_i rfl rfl (asB_i rfl (asI_i rfl (lv_i ?_)))
  refine hcb hx53 ?_
  refine free20_k (m2.ext hx53 fun h => h) hT2 (b := b) (but := but) fun w65 hx65 => asT_i rfl rfl (asB_i rfl (asI_i rfl (lv_i ?_)))
  have hfv : freeV S2 b but = freeV T2 b but := by
    unfold freeV
    rw [outW_list h642 h64T hST2]
  rw [hfv]
  replace h3 := (h3.to hx53).to hx65
  refine jn_of (fun t w' => t = [.bool false] ∧ w' = w65) ?_ ?_
  · rintro _ w71 ⟨rfl, rfl⟩
    refine asB_i rfl (cond_f rfl (lv_i ?_))
    rw [en]
    exact hJ (8 - (n + 1)) (n + 1) _ (by omega) ⟨rfl, by omega, S2, B2, D2, T2, h3.mono (by omega), hG2, hL2, hB2, hT2, hST2⟩
  · intro J2 hJ2
    refine cond_f rfl (cond_f rfl (cond_f ?_ (hJ2 _ _ ⟨?_, rfl⟩)))
    · cases freeV T2 b but <;> rfl
    · simp
end Go.Proofs.YtamobmjfdiecbaaGreatDoor

/- PhX: the listed table of axes, as the condition of the rows gives it: its two cells hold the two functions. Conditions: those of each theorem, on its arguments. -/
namespace Go.Proofs.YtamobmjfdiecbaaGreatDoor
open Go Go.Sx Go.ChangeShapes Go.WideShapes Go.ChangeAt Go.RowKit

def laidL : List (String × DataW Unit) := [("tiltyard/physics.axes", Rows.laid_tiltyard_physics_axes)]
theorem gAxes : Tryz.prog.globalNamed "tiltyard/physics.axes" = some 0 := by kernel_rfl
theorem tAxes : (Tryz.prog.globals[0]?).map (·.type) = some 65 := by kernel_rfl
theorem cAxis : Tryz.prog.cellsOf 64 = 1 := by kernel_rfl
theorem cAxes : Tryz.prog.cellsOf 65 = 2 := by kernel_rfl
/-- the door's own heap meets the condition -/
theorem door_met (os : Os) (args : Array Value) : laidMetH Tryz.prog laidL ((World.doorLaid Tryz.prog 14 os).forCall (fun _ _ => 0) ⟨#[], args, []⟩).memory :=
  laidMetH_of_parts3 (fuel := 8) (laidMet_of_run' 8 (by kernel_rfl) (by kernel_rfl)) (by kernel_rfl) (by kernel_rfl)

def axN1 : List UInt8 := [116, 105, 108, 116, 121, 97, 114, 100, 47, 112, 104, 121, 115, 105, 99, 115, 46, 97, 120, 101, 115, 36, 49]
def axN2 : List UInt8 := [116, 105, 108, 116, 121, 97, 114, 100, 47, 112, 104, 121, 115, 105, 99, 115, 46, 97, 120, 101, 115, 36, 50]
set_option maxRecDepth 100000 in
theorem of_laid {W : World} (h : laidMetH Tryz.prog laidL W) : Ax W := by
  obtain ⟨g, t, cs, fuel, p, hg, ht, hv, hd⟩ := h.funcs (List.mem_singleton.2 rfl)
  obtain rfl := Option.some.inj (gAxes.symm.trans hg)
  obtain rfl := Option.some.inj (tAxes.symm.trans ht)
  have hd' : DataW.trod (funcToken Tryz.prog) Tryz.prog W 0 (fun _ => true) true fuel 65 cs.toList = some (.agg [.held axN1, .held axN2], p) := hd
  obtain ⟨xs, m, rfl, hx, hlen, hn2, hel⟩ := DataW.trod_array Tryz.underlying65 hd'
  have h0 := hel 0 (by decide)
  have h1 := hel 1 (by decide)
  rw [cAxis] at h0 h1
  rw [cAxes] at hlen
  simp only [Prod.mk.injEq, DataW.agg.injEq] at hx
  match xs, hn2, hx, h0, h1 with
  | [x0, x1], _, hx, h0, h1 =>
    obtain ⟨hx1, _⟩ := hx
    simp only [List.map_cons, List.map_nil, List.cons.injEq, and_true] at hx1
    obtain ⟨l⟩ := cs
    match l, hlen with
    | [c0, c1], _ =>
      have e0 : DataW.trod (funcToken Tryz.prog) Tryz.prog W 0 (fun _ => true) true m 64 [c0] = some (.held axN1, x0.2) := by
        rw [hx1.1]
        exact h0
      have e1 : DataW.trod (funcToken Tryz.prog) Tryz.prog W 0 (fun _ => true) true m 64 [c1] = some (.held axN2, x1.2) := by
        rw [hx1.2]
        exact h1
      obtain rfl := func_of_trod (f0 := 122) Tryz.underlying64 (by kernel_rfl) e0
      obtain rfl := func_of_trod (f0 := 123) Tryz.underlying64 (by kernel_rfl) e1
      exact ⟨by simpa using World.var?_cell hg hv 0, by simpa using World.var?_cell hg hv 1⟩
end Go.Proofs.YtamobmjfdiecbaaGreatDoor
