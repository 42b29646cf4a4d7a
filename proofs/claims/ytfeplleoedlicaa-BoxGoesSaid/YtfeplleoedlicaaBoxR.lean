/- BoxR: how far a box is pushed, by the document's answer. Conditions: those of each theorem, on its arguments. -/
import Derived.Test.YtfeplleoedlicaaBoxP
namespace Go.Proofs.Ytfeplleoedlicaa
open Go Go.Sx
attribute [local irreducible] jn lv ld st nw asI asB asP asS asY asM asF asA asT lp rn ru rq cl dw dr bnd bn2 nz nn hd hr so eqW

theorem rpush_k {a : Bx} {axis d : Int} {w : World} {l : Option Addr} {n c : Nat} {bs : List Bx} (hL : Reads w l (fl bs)) (hn : bs.length = n) (hm : n ≤ 1125899906842624) {K : Value → World → Prop}
    (hK : ∀ w', Ext no w w' → K (t3 (pushV a axis d bs)) w') : cl Try.prog 26 #[a.v, .int .i64 axis, .int .i64 d, .slice l n c] w K := by
  subst hn
  apply F26_calls
  unfold F26
  have hS := St.start w
  (refine St.nw hS ?_; clear hS; intro ra _ hS)
  repeat (first | (refine rright_k ?_; intro _ x; replace hS := hS.to x; clear x) | (refine asI_i rfl ?_) | (refine asB_i rfl ?_) | (refine asP_i rfl ?_) | (refine asS_i rfl ?_) | (refine asY_i rfl ?_) | (refine asM_i rfl ?_) | (refine asA_i rfl rfl ?_) | (refine asT_i rfl rfl ?_) | (refine lv_i ?_) | (refine St.dw hS ?_; clear hS; intro _ hS _) | (refine hS.ld0 0 rfl rfl ?_) | (refine hS.ld 0 rfl rfl ?_) | (refine hS.ld0 1 rfl rfl ?_) | (refine hS.ld 1 rfl rfl ?_) | (refine hS.ld0 2 rfl rfl ?_) | (refine hS.ld 2 rfl rfl ?_) | (refine hS.ld0 3 rfl rfl ?_) | (refine hS.ld 3 rfl rfl ?_) | (refine hS.ld0 4 rfl rfl ?_) | (refine hS.ld 4 rfl rfl ?_) | (refine hS.ld0 5 rfl rfl ?_) | (refine hS.ld 5 rfl rfl ?_) | (refine hS.ld0 6 rfl rfl ?_) | (refine hS.ld 6 rfl rfl ?_) | (refine hS.ld0 7 rfl rfl ?_) | (refine hS.ld 7 rfl rfl ?_) | (refine hS.hd0 0 rfl rfl ?_) | (refine hS.hd 0 rfl rfl ?_) | (refine hS.hd0 1 rfl rfl ?_) | (refine hS.hd 1 rfl rfl ?_) | (refine hS.hd0 2 rfl rfl ?_) | (refine hS.hd 2 rfl rfl ?_) | (refine hS.hd0 3 rfl rfl ?_) | (refine hS.hd 3 rfl rfl ?_) | (refine hS.hd0 4 rfl rfl ?_) | (refine hS.hd 4 rfl rfl ?_) | (refine hS.hd0 5 rfl rfl ?_) | (refine hS.hd 5 rfl rfl ?_) | (refine hS.hd0 6 rfl rfl ?_) | (refine hS.hd 6 rfl rfl ?_) | (refine hS.hd0 7 rfl rfl ?_) | (refine hS.hd 7 rfl rfl ?_) | (refine hS.st0 0 rfl rfl rfl ?_; clear hS; intro _ hS) | (refine hS.st 0 rfl rfl rfl ?_; clear hS; intro _ hS) | (refine hS.st0 1 rfl rfl rfl ?_; clear hS; intro _ hS) | (refine hS.st 1 rfl rfl rfl ?_; clear hS; intro _ hS) | (refine hS.st0 2 rfl rfl rfl ?_; clear hS; intro _ hS) | (refine hS.st 2 rfl rfl rfl ?_; clear hS; intro _ hS) | (refine hS.st0 3 rfl rfl rfl ?_; clear hS; intro _ hS) | (refine hS.st 3 rfl rfl rfl ?_; clear hS; intro _ hS) | (refine hS.st0 4 rfl rfl rfl ?_; clear hS; intro _ hS) | (refine hS.st 4 rfl rfl rfl ?_; clear hS; intro _ hS) | (refine hS.st0 5 rfl rfl rfl ?_; clear hS; intro _ hS) | (refine hS.st 5 rfl rfl rfl ?_; clear hS; intro _ hS) | (refine hS.st0 6 rfl rfl rfl ?_; clear hS; intro _ hS) | (refine hS.st 6 rfl rfl rfl ?_; clear hS; intro _ hS) | (refine hS.st0 7 rfl rfl rfl ?_; clear hS; intro _ hS) | (refine hS.st 7 rfl rfl rfl ?_; clear hS; intro _ hS) | (refine bnd_mk (by decide) (by decide) ?_) | (refine so_i rfl ?_))
  refine rights_k (Reads.no hS.ext hL) rfl hm ?_
  intro w1 x
  replace hS := hS.to x
  repeat (first | (refine asI_i rfl ?_) | (refine asB_i rfl ?_) | (refine asP_i rfl ?_) | (refine asS_i rfl ?_) | (refine asY_i rfl ?_) | (refine asM_i rfl ?_) | (refine asA_i rfl rfl ?_) | (refine asT_i rfl rfl ?_) | (refine lv_i ?_) | (refine St.dw hS ?_; clear hS; intro _ hS _) | (refine hS.ld0 0 rfl rfl ?_) | (refine hS.ld 0 rfl rfl ?_) | (refine hS.ld0 1 rfl rfl ?_) | (refine hS.ld 1 rfl rfl ?_) | (refine hS.ld0 2 rfl rfl ?_) | (refine hS.ld 2 rfl rfl ?_) | (refine hS.ld0 3 rfl rfl ?_) | (refine hS.ld 3 rfl rfl ?_) | (refine hS.ld0 4 rfl rfl ?_) | (refine hS.ld 4 rfl rfl ?_) | (refine hS.ld0 5 rfl rfl ?_) | (refine hS.ld 5 rfl rfl ?_) | (refine hS.ld0 6 rfl rfl ?_) | (refine hS.ld 6 rfl rfl ?_) | (refine hS.ld0 7 rfl rfl ?_) | (refine hS.ld 7 rfl rfl ?_) | (refine hS.hd0 0 rfl rfl ?_) | (refine hS.hd 0 rfl rfl ?_) | (refine hS.hd0 1 rfl rfl ?_) | (refine hS.hd 1 rfl rfl ?_) | (refine hS.hd0 2 rfl rfl ?_) | (refine hS.hd 2 rfl rfl ?_) | (refine hS.hd0 3 rfl rfl ?_) | (refine hS.hd 3 rfl rfl ?_) | (refine hS.hd0 4 rfl rfl ?_) | (refine hS.hd 4 rfl rfl ?_) | (refine hS.hd0 5 rfl rfl ?_) | (refine hS.hd 5 rfl rfl ?_) | (refine hS.hd0 6 rfl rfl ?_) | (refine hS.hd 6 rfl rfl ?_) | (refine hS.hd0 7 rfl rfl ?_) | (refine hS.hd 7 rfl rfl ?_) | (refine hS.st0 0 rfl rfl rfl ?_; clear hS; intro _ hS) | (refine hS.st 0 rfl rfl rfl ?_; clear hS; intro _ hS) | (refine hS.st0 1 rfl rfl rfl ?_; clear hS; intro _ hS) | (refine hS.st 1 rfl rfl rfl ?_; clear hS; intro _ hS) | (refine hS.st0 2 rfl rfl rfl ?_; clear hS; intro _ hS) | (refine hS.st 2 rfl rfl rfl ?_; clear hS; intro _ hS) | (refine hS.st0 3 rfl rfl rfl ?_; clear hS; intro _ hS) | (refine hS.st 3 rfl rfl rfl ?_; clear hS; intro _ hS) | (refine hS.st0 4 rfl rfl rfl ?_; clear hS; intro _ hS) | (refine hS.st 4 rfl rfl rfl ?_; clear hS; intro _ hS) | (refine hS.st0 5 rfl rfl rfl ?_; clear hS; intro _ hS) | (refine hS.st 5 rfl rfl rfl ?_; clear hS; intro _ hS) | (refine hS.st0 6 rfl rfl rfl ?_; clear hS; intro _ hS) | (refine hS.st 6 rfl rfl rfl ?_; clear hS; intro _ hS) | (refine hS.st0 7 rfl rfl rfl ?_; clear hS; intro _ hS) | (refine hS.st 7 rfl rfl rfl ?_; clear hS; intro _ hS) | (refine bnd_mk (by decide) (by decide) ?_) | (refine so_i rfl ?_))
  refine jn_of (fun s w' => s = [.bool (!(allR bs && a.right))] ∧ St w w' [(ra, a.cells, 25)]) ?_ ?_
  · clear hS
    rintro _ w2 ⟨rfl, hS⟩
    refine asB_i rfl (cond_split (fun h => ?_) (fun h => ?_))
    · repeat (first | (refine asI_i rfl ?_) | (refine asB_i rfl ?_) | (refine asP_i rfl ?_) | (refine asS_i rfl ?_) | (refine asY_i rfl ?_) | (refine asM_i rfl ?_) | (refine asA_i rfl rfl ?_) | (refine asT_i rfl rfl ?_) | (refine lv_i ?_) | (refine St.dw hS ?_; clear hS; intro _ hS _) | (refine hS.ld0 0 rfl rfl ?_) | (refine hS.ld 0 rfl rfl ?_) | (refine hS.ld0 1 rfl rfl ?_) | (refine hS.ld 1 rfl rfl ?_) | (refine hS.ld0 2 rfl rfl ?_) | (refine hS.ld 2 rfl rfl ?_) | (refine hS.ld0 3 rfl rfl ?_) | (refine hS.ld 3 rfl rfl ?_) | (refine hS.ld0 4 rfl rfl ?_) | (refine hS.ld 4 rfl rfl ?_) | (refine hS.ld0 5 rfl rfl ?_) | (refine hS.ld 5 rfl rfl ?_) | (refine hS.ld0 6 rfl rfl ?_) | (refine hS.ld 6 rfl rfl ?_) | (refine hS.ld0 7 rfl rfl ?_) | (refine hS.ld 7 rfl rfl ?_) | (refine hS.hd0 0 rfl rfl ?_) | (refine hS.hd 0 rfl rfl ?_) | (refine hS.hd0 1 rfl rfl ?_) | (refine hS.hd 1 rfl rfl ?_) | (refine hS.hd0 2 rfl rfl ?_) | (refine hS.hd 2 rfl rfl ?_) | (refine hS.hd0 3 rfl rfl ?_) | (refine hS.hd 3 rfl rfl ?_) | (refine hS.hd0 4 rfl rfl ?_) | (refine hS.hd 4 rfl rfl ?_) | (refine hS.hd0 5 rfl rfl ?_) | (refine hS.hd 5 rfl rfl ?_) | (refine hS.hd0 6 rfl rfl ?_) | (refine hS.hd 6 rfl rfl ?_) | (refine hS.hd0 7 rfl rfl ?_) | (refine hS.hd 7 rfl rfl ?_) | (refine hS.st0 0 rfl rfl rfl ?_; clear hS; intro _ hS) | (refine hS.st 0 rfl rfl rfl ?_; clear hS; intro _ hS) | (refine hS.st0 1 rfl rfl rfl ?_; clear hS; intro _ hS) | (refine hS.st 1 rfl rfl rfl ?_; clear hS; intro _ hS) | (refine hS.st0 2 rfl rfl rfl ?_; clear hS; intro _ hS) | (refine hS.st 2 rfl rfl rfl ?_; clear hS; intro _ hS) | (refine hS.st0 3 rfl rfl rfl ?_; clear hS; intro _ hS) | (refine hS.st 3 rfl rfl rfl ?_; clear hS; intro _ hS) | (refine hS.st0 4 rfl rfl rfl ?_; clear hS; intro _ hS) | (refine hS.st 4 rfl rfl rfl ?_; clear hS; intro _ hS) | (refine hS.st0 5 rfl rfl rfl ?_; clear hS; intro _ hS) | (refine hS.st 5 rfl rfl rfl ?_; clear hS; intro _ hS) | (refine hS.st0 6 rfl rfl rfl ?_; clear hS; intro _ hS) | (refine hS.st 6 rfl rfl rfl ?_; clear hS; intro _ hS) | (refine hS.st0 7 rfl rfl rfl ?_; clear hS; intro _ hS) | (refine hS.st 7 rfl rfl rfl ?_; clear hS; intro _ hS) | (refine bnd_mk (by decide) (by decide) ?_) | (refine so_i rfl ?_))
      have hk := hK _ hS.ext
      have e : pushV a axis d bs = (0, 0, 60) := by
        unfold pushV
        rw [if_neg]
        rintro ⟨h1, h2⟩
        rw [h1, h2] at h
        cases h
      rw [e] at hk
      exact hk
    have hR : allR bs = true ∧ a.right = true := by simpa using h
    refine rwithin_k ?_
    repeat (first | (refine asI_i rfl ?_) | (refine asB_i rfl ?_) | (refine asP_i rfl ?_) | (refine asS_i rfl ?_) | (refine asY_i rfl ?_) | (refine asM_i rfl ?_) | (refine asA_i rfl rfl ?_) | (refine asT_i rfl rfl ?_) | (refine lv_i ?_))
    refine jn_of (fun s w' => s = [.bool (!(decide (axis = 0 ∨ axis = 1) && within d))] ∧ St w w' [(ra, a.cells, 25)]) ?_ ?_
    · clear hS
      rintro _ w2 ⟨rfl, hS⟩
      refine asB_i rfl (cond_split (fun h => ?_) (fun h => ?_))
      · repeat (first | (refine asI_i rfl ?_) | (refine asB_i rfl ?_) | (refine asP_i rfl ?_) | (refine asS_i rfl ?_) | (refine asY_i rfl ?_) | (refine asM_i rfl ?_) | (refine asA_i rfl rfl ?_) | (refine asT_i rfl rfl ?_) | (refine lv_i ?_) | (refine St.dw hS ?_; clear hS; intro _ hS _) | (refine hS.ld0 0 rfl rfl ?_) | (refine hS.ld 0 rfl rfl ?_) | (refine hS.ld0 1 rfl rfl ?_) | (refine hS.ld 1 rfl rfl ?_) | (refine hS.ld0 2 rfl rfl ?_) | (refine hS.ld 2 rfl rfl ?_) | (refine hS.ld0 3 rfl rfl ?_) | (refine hS.ld 3 rfl rfl ?_) | (refine hS.ld0 4 rfl rfl ?_) | (refine hS.ld 4 rfl rfl ?_) | (refine hS.ld0 5 rfl rfl ?_) | (refine hS.ld 5 rfl rfl ?_) | (refine hS.ld0 6 rfl rfl ?_) | (refine hS.ld 6 rfl rfl ?_) | (refine hS.ld0 7 rfl rfl ?_) | (refine hS.ld 7 rfl rfl ?_) | (refine hS.hd0 0 rfl rfl ?_) | (refine hS.hd 0 rfl rfl ?_) | (refine hS.hd0 1 rfl rfl ?_) | (refine hS.hd 1 rfl rfl ?_) | (refine hS.hd0 2 rfl rfl ?_) | (refine hS.hd 2 rfl rfl ?_) | (refine hS.hd0 3 rfl rfl ?_) | (refine hS.hd 3 rfl rfl ?_) | (refine hS.hd0 4 rfl rfl ?_) | (refine hS.hd 4 rfl rfl ?_) | (refine hS.hd0 5 rfl rfl ?_) | (refine hS.hd 5 rfl rfl ?_) | (refine hS.hd0 6 rfl rfl ?_) | (refine hS.hd 6 rfl rfl ?_) | (refine hS.hd0 7 rfl rfl ?_) | (refine hS.hd 7 rfl rfl ?_) | (refine hS.st0 0 rfl rfl rfl ?_; clear hS; intro _ hS) | (refine hS.st 0 rfl rfl rfl ?_; clear hS; intro _ hS) | (refine hS.st0 1 rfl rfl rfl ?_; clear hS; intro _ hS) | (refine hS.st 1 rfl rfl rfl ?_; clear hS; intro _ hS) | (refine hS.st0 2 rfl rfl rfl ?_; clear hS; intro _ hS) | (refine hS.st 2 rfl rfl rfl ?_; clear hS; intro _ hS) | (refine hS.st0 3 rfl rfl rfl ?_; clear hS; intro _ hS) | (refine hS.st 3 rfl rfl rfl ?_; clear hS; intro _ hS) | (refine hS.st0 4 rfl rfl rfl ?_; clear hS; intro _ hS) | (refine hS.st 4 rfl rfl rfl ?_; clear hS; intro _ hS) | (refine hS.st0 5 rfl rfl rfl ?_; clear hS; intro _ hS) | (refine hS.st 5 rfl rfl rfl ?_; clear hS; intro _ hS) | (refine hS.st0 6 rfl rfl rfl ?_; clear hS; intro _ hS) | (refine hS.st 6 rfl rfl rfl ?_; clear hS; intro _ hS) | (refine hS.st0 7 rfl rfl rfl ?_; clear hS; intro _ hS) | (refine hS.st 7 rfl rfl rfl ?_; clear hS; intro _ hS) | (refine bnd_mk (by decide) (by decide) ?_) | (refine so_i rfl ?_))
        have hk := hK _ hS.ext
        have e : pushV a axis d bs = (0, 0, 1) := by
          unfold pushV
          rw [if_pos hR, if_neg]
          rintro ⟨h1, h2⟩
          rw [h2, decide_eq_true h1] at h
          cases h
        rw [e] at hk
        exact hk
      have hA : (axis = 0 ∨ axis = 1) ∧ within d = true := by
        rw [Bool.not_eq_false', Bool.and_eq_true] at h
        exact ⟨of_decide_eq_true h.1, h.2⟩
      have hd := within_iff.1 hA.2
      have hv : pushV a axis d bs = (sgn d * (pushF (sgn d) a (axis != 0) bs 0 (mag d, -1)).1, (pushF (sgn d) a (axis != 0) bs 0 (mag d, -1)).2, 0) := by
        unfold pushV
        rw [if_pos hR, if_pos hA]
      rw [hv] at hK
      have hmag : 0 ≤ mag d ∧ mag d ≤ 1152921504606846976 := by unfold mag; split <;> omega
      have em : (if IntKind.wrap .i64 ((0 : Int) - d) > d then IntKind.wrap .i64 ((0 : Int) - d) else d) = mag d := by
        rw [wr64 (n := 0 - d) (by omega) (by omega)]
        unfold mag
        split <;> split <;> omega
      rw [em]
      repeat (first | (refine asI_i rfl ?_) | (refine asB_i rfl ?_) | (refine asP_i rfl ?_) | (refine asS_i rfl ?_) | (refine asY_i rfl ?_) | (refine asM_i rfl ?_) | (refine asA_i rfl rfl ?_) | (refine asT_i rfl rfl ?_) | (refine lv_i ?_))
      refine lp_mk (fun s : (Int × Int) × Nat => [.int .i64 s.1.1, .int .i64 s.1.2, .int .i64 (s.2 : Int)])
        (fun m s w' => m = bs.length - s.2 ∧ s.2 ≤ bs.length ∧ St w w' [(ra, a.cells, 25)] ∧ 0 ≤ s.1.1 ∧ s.1.1 ≤ mag d ∧ pushF (sgn d) a (axis != 0) (bs.drop s.2) s.2 s.1 = pushF (sgn d) a (axis != 0) bs 0 (mag d, -1)) bs.length ((mag d, -1), 0) rfl
        ⟨rfl, Nat.zero_le _, hS, hmag.1, Int.le_refl _, rfl⟩ ?_
      clear hS
      rintro _ ⟨p, i⟩ w4 ⟨rfl, hi, hS, hp0, hp1, hF⟩ J hJ
      simp only at hi hp0 hp1 hF hJ ⊢
      repeat (first | (refine asI_i rfl ?_) | (refine asB_i rfl ?_) | (refine asP_i rfl ?_) | (refine asS_i rfl ?_) | (refine asY_i rfl ?_) | (refine asM_i rfl ?_) | (refine asA_i rfl rfl ?_) | (refine asT_i rfl rfl ?_) | (refine lv_i ?_))
      refine cond_split (fun hc => ?_) (fun hc => ?_)
      · have hil : i < bs.length := by simpa using hc
        have hb : bs[i]? = some bs[i] := List.getElem?_eq_getElem hil
        generalize bs[i] = b at hb
        have hbr : b.right = true := by
          have := hR.1
          rw [allR, List.all_eq_true] at this
          exact this b (List.mem_of_getElem? hb)
        refine jn_of (fun s w' => s = [.int .i64 (stepP (sgn d) a (axis != 0) b i p).1, .int .i64 (stepP (sgn d) a (axis != 0) b i p).2] ∧ St w w' [(ra, a.cells, 25)]) ?_ ?_
        · clear hS
          rintro _ w5 ⟨rfl, hS⟩
          repeat (first | (refine asI_i rfl ?_) | (refine asB_i rfl ?_) | (refine asP_i rfl ?_) | (refine asS_i rfl ?_) | (refine asY_i rfl ?_) | (refine asM_i rfl ?_) | (refine asA_i rfl rfl ?_) | (refine asT_i rfl rfl ?_) | (refine lv_i ?_))
          have ei : IntKind.wrap .i64 ((i : Int) + 1) = ((i + 1 : Nat) : Int) := by rw [wr64 (by omega) (by omega)]; omega
          rw [ei]
          have hle := stepP_le (s := sgn d) (a := a) (b := b) (k := axis != 0) (i := i) hp0
          refine hJ (bs.length - (i + 1)) (stepP (sgn d) a (axis != 0) b i p, i + 1) w5 (by omega) ⟨rfl, by simp only; omega, hS, hle.1, Int.le_trans hle.2 hp1, ?_⟩
          rw [← hF, drop_cons hb]
          simp only [pushF]
          congr 1
        · intro J2 hJ2
          repeat (first | (refine asI_i rfl ?_) | (refine asB_i rfl ?_) | (refine asP_i rfl ?_) | (refine asS_i rfl ?_) | (refine asY_i rfl ?_) | (refine asM_i rfl ?_) | (refine asA_i rfl rfl ?_) | (refine asT_i rfl rfl ?_) | (refine lv_i ?_) | (refine St.dw hS ?_; clear hS; intro _ hS _) | (refine hS.ld0 0 rfl rfl ?_) | (refine hS.ld 0 rfl rfl ?_) | (refine hS.ld0 1 rfl rfl ?_) | (refine hS.ld 1 rfl rfl ?_) | (refine hS.ld0 2 rfl rfl ?_) | (refine hS.ld 2 rfl rfl ?_) | (refine hS.ld0 3 rfl rfl ?_) | (refine hS.ld 3 rfl rfl ?_) | (refine hS.ld0 4 rfl rfl ?_) | (refine hS.ld 4 rfl rfl ?_) | (refine hS.ld0 5 rfl rfl ?_) | (refine hS.ld 5 rfl rfl ?_) | (refine hS.ld0 6 rfl rfl ?_) | (refine hS.ld 6 rfl rfl ?_) | (refine hS.ld0 7 rfl rfl ?_) | (refine hS.ld 7 rfl rfl ?_) | (refine hS.hd0 0 rfl rfl ?_) | (refine hS.hd 0 rfl rfl ?_) | (refine hS.hd0 1 rfl rfl ?_) | (refine hS.hd 1 rfl rfl ?_) | (refine hS.hd0 2 rfl rfl ?_) | (refine hS.hd 2 rfl rfl ?_) | (refine hS.hd0 3 rfl rfl ?_) | (refine hS.hd 3 rfl rfl ?_) | (refine hS.hd0 4 rfl rfl ?_) | (refine hS.hd 4 rfl rfl ?_) | (refine hS.hd0 5 rfl rfl ?_) | (refine hS.hd 5 rfl rfl ?_) | (refine hS.hd0 6 rfl rfl ?_) | (refine hS.hd 6 rfl rfl ?_) | (refine hS.hd0 7 rfl rfl ?_) | (refine hS.hd 7 rfl rfl ?_) | (refine hS.st0 0 rfl rfl rfl ?_; clear hS; intro _ hS) | (refine hS.st 0 rfl rfl rfl ?_; clear hS; intro _ hS) | (refine hS.st0 1 rfl rfl rfl ?_; clear hS; intro _ hS) | (refine hS.st 1 rfl rfl rfl ?_; clear hS; intro _ hS) | (refine hS.st0 2 rfl rfl rfl ?_; clear hS; intro _ hS) | (refine hS.st 2 rfl rfl rfl ?_; clear hS; intro _ hS) | (refine hS.st0 3 rfl rfl rfl ?_; clear hS; intro _ hS) | (refine hS.st 3 rfl rfl rfl ?_; clear hS; intro _ hS) | (refine hS.st0 4 rfl rfl rfl ?_; clear hS; intro _ hS) | (refine hS.st 4 rfl rfl rfl ?_; clear hS; intro _ hS) | (refine hS.st0 5 rfl rfl rfl ?_; clear hS; intro _ hS) | (refine hS.st 5 rfl rfl rfl ?_; clear hS; intro _ hS) | (refine hS.st0 6 rfl rfl rfl ?_; clear hS; intro _ hS) | (refine hS.st 6 rfl rfl rfl ?_; clear hS; intro _ hS) | (refine hS.st0 7 rfl rfl rfl ?_; clear hS; intro _ hS) | (refine hS.st 7 rfl rfl rfl ?_; clear hS; intro _ hS) | (refine bnd_mk (by decide) (by decide) ?_) | (refine so_i rfl ?_))
          refine bx_at (Reads.no hS.ext hL) rfl hb ?_
          intro ad c0 c1 c2
          refine ld_mk c0 (asI_i rfl (ld_mk c1 (asI_i rfl (ld_mk c2 (asI_i rfl ?_)))))
          clear c0 c1 c2
          rcases hA.1 with rfl | rfl
          · repeat (first | (refine rgap_k (a := a) (b := b) (axis := 0) hR.2 hbr ?_; intro _ x; replace hS := hS.to x; clear x) | (refine asI_i rfl ?_) | (refine asB_i rfl ?_) | (refine asP_i rfl ?_) | (refine asS_i rfl ?_) | (refine asY_i rfl ?_) | (refine asM_i rfl ?_) | (refine asA_i rfl rfl ?_) | (refine asT_i rfl rfl ?_) | (refine lv_i ?_) | (refine St.dw hS ?_; clear hS; intro _ hS _) | (refine hS.ld0 0 rfl rfl ?_) | (refine hS.ld 0 rfl rfl ?_) | (refine hS.ld0 1 rfl rfl ?_) | (refine hS.ld 1 rfl rfl ?_) | (refine hS.ld0 2 rfl rfl ?_) | (refine hS.ld 2 rfl rfl ?_) | (refine hS.ld0 3 rfl rfl ?_) | (refine hS.ld 3 rfl rfl ?_) | (refine hS.ld0 4 rfl rfl ?_) | (refine hS.ld 4 rfl rfl ?_) | (refine hS.ld0 5 rfl rfl ?_) | (refine hS.ld 5 rfl rfl ?_) | (refine hS.ld0 6 rfl rfl ?_) | (refine hS.ld 6 rfl rfl ?_) | (refine hS.ld0 7 rfl rfl ?_) | (refine hS.ld 7 rfl rfl ?_) | (refine hS.hd0 0 rfl rfl ?_) | (refine hS.hd 0 rfl rfl ?_) | (refine hS.hd0 1 rfl rfl ?_) | (refine hS.hd 1 rfl rfl ?_) | (refine hS.hd0 2 rfl rfl ?_) | (refine hS.hd 2 rfl rfl ?_) | (refine hS.hd0 3 rfl rfl ?_) | (refine hS.hd 3 rfl rfl ?_) | (refine hS.hd0 4 rfl rfl ?_) | (refine hS.hd 4 rfl rfl ?_) | (refine hS.hd0 5 rfl rfl ?_) | (refine hS.hd 5 rfl rfl ?_) | (refine hS.hd0 6 rfl rfl ?_) | (refine hS.hd 6 rfl rfl ?_) | (refine hS.hd0 7 rfl rfl ?_) | (refine hS.hd 7 rfl rfl ?_) | (refine hS.st0 0 rfl rfl rfl ?_; clear hS; intro _ hS) | (refine hS.st 0 rfl rfl rfl ?_; clear hS; intro _ hS) | (refine hS.st0 1 rfl rfl rfl ?_; clear hS; intro _ hS) | (refine hS.st 1 rfl rfl rfl ?_; clear hS; intro _ hS) | (refine hS.st0 2 rfl rfl rfl ?_; clear hS; intro _ hS) | (refine hS.st 2 rfl rfl rfl ?_; clear hS; intro _ hS) | (refine hS.st0 3 rfl rfl rfl ?_; clear hS; intro _ hS) | (refine hS.st 3 rfl rfl rfl ?_; clear hS; intro _ hS) | (refine hS.st0 4 rfl rfl rfl ?_; clear hS; intro _ hS) | (refine hS.st 4 rfl rfl rfl ?_; clear hS; intro _ hS) | (refine hS.st0 5 rfl rfl rfl ?_; clear hS; intro _ hS) | (refine hS.st 5 rfl rfl rfl ?_; clear hS; intro _ hS) | (refine hS.st0 6 rfl rfl rfl ?_; clear hS; intro _ hS) | (refine hS.st 6 rfl rfl rfl ?_; clear hS; intro _ hS) | (refine hS.st0 7 rfl rfl rfl ?_; clear hS; intro _ hS) | (refine hS.st 7 rfl rfl rfl ?_; clear hS; intro _ hS) | (refine bnd_mk (by decide) (by decide) ?_) | (refine so_i rfl ?_))
            refine bx_at (Reads.no hS.ext hL) rfl hb ?_
            intro ad c0 c1 c2
            refine ld_mk c0 (asI_i rfl (ld_mk c1 (asI_i rfl ?_)))
            repeat (first | (refine rpart_k (b := b) (axis := 0) ?_; intro _ x; replace hS := hS.to x; clear x) | (refine rpart_k (b := a) (axis := 0) ?_; intro _ x; replace hS := hS.to x; clear x) | (refine asI_i rfl ?_) | (refine asB_i rfl ?_) | (refine asP_i rfl ?_) | (refine asS_i rfl ?_) | (refine asY_i rfl ?_) | (refine asM_i rfl ?_) | (refine asA_i rfl rfl ?_) | (refine asT_i rfl rfl ?_) | (refine lv_i ?_) | (refine St.dw hS ?_; clear hS; intro _ hS _) | (refine hS.ld0 0 rfl rfl ?_) | (refine hS.ld 0 rfl rfl ?_) | (refine hS.ld0 1 rfl rfl ?_) | (refine hS.ld 1 rfl rfl ?_) | (refine hS.ld0 2 rfl rfl ?_) | (refine hS.ld 2 rfl rfl ?_) | (refine hS.ld0 3 rfl rfl ?_) | (refine hS.ld 3 rfl rfl ?_) | (refine hS.ld0 4 rfl rfl ?_) | (refine hS.ld 4 rfl rfl ?_) | (refine hS.ld0 5 rfl rfl ?_) | (refine hS.ld 5 rfl rfl ?_) | (refine hS.ld0 6 rfl rfl ?_) | (refine hS.ld 6 rfl rfl ?_) | (refine hS.ld0 7 rfl rfl ?_) | (refine hS.ld 7 rfl rfl ?_) | (refine hS.hd0 0 rfl rfl ?_) | (refine hS.hd 0 rfl rfl ?_) | (refine hS.hd0 1 rfl rfl ?_) | (refine hS.hd 1 rfl rfl ?_) | (refine hS.hd0 2 rfl rfl ?_) | (refine hS.hd 2 rfl rfl ?_) | (refine hS.hd0 3 rfl rfl ?_) | (refine hS.hd 3 rfl rfl ?_) | (refine hS.hd0 4 rfl rfl ?_) | (refine hS.hd 4 rfl rfl ?_) | (refine hS.hd0 5 rfl rfl ?_) | (refine hS.hd 5 rfl rfl ?_) | (refine hS.hd0 6 rfl rfl ?_) | (refine hS.hd 6 rfl rfl ?_) | (refine hS.hd0 7 rfl rfl ?_) | (refine hS.hd 7 rfl rfl ?_) | (refine hS.st0 0 rfl rfl rfl ?_; clear hS; intro _ hS) | (refine hS.st 0 rfl rfl rfl ?_; clear hS; intro _ hS) | (refine hS.st0 1 rfl rfl rfl ?_; clear hS; intro _ hS) | (refine hS.st 1 rfl rfl rfl ?_; clear hS; intro _ hS) | (refine hS.st0 2 rfl rfl rfl ?_; clear hS; intro _ hS) | (refine hS.st 2 rfl rfl rfl ?_; clear hS; intro _ hS) | (refine hS.st0 3 rfl rfl rfl ?_; clear hS; intro _ hS) | (refine hS.st 3 rfl rfl rfl ?_; clear hS; intro _ hS) | (refine hS.st0 4 rfl rfl rfl ?_; clear hS; intro _ hS) | (refine hS.st 4 rfl rfl rfl ?_; clear hS; intro _ hS) | (refine hS.st0 5 rfl rfl rfl ?_; clear hS; intro _ hS) | (refine hS.st 5 rfl rfl rfl ?_; clear hS; intro _ hS) | (refine hS.st0 6 rfl rfl rfl ?_; clear hS; intro _ hS) | (refine hS.st 6 rfl rfl rfl ?_; clear hS; intro _ hS) | (refine hS.st0 7 rfl rfl rfl ?_; clear hS; intro _ hS) | (refine hS.st 7 rfl rfl rfl ?_; clear hS; intro _ hS) | (refine bnd_mk (by decide) (by decide) ?_) | (refine so_i rfl ?_))
            have h1 := right_at hbr false
            have h2 := right_at hR.2 false
            have hside : IntKind.wrap .i64 (b.at false - a.at false) = b.at false - a.at false := wr64 (by omega) (by omega)
            refine jn_of (fun s w' => s = [.bool (decide (0 < d ∧ 0 < b.at false - a.at false ∨ d < 0 ∧ b.at false - a.at false < 0))] ∧ St w w' [(ra, a.cells, 25)]) ?_ ?_
            · clear hS
              rintro _ w6 ⟨rfl, hS⟩
              repeat (first | (refine asI_i rfl ?_) | (refine asB_i rfl ?_) | (refine asP_i rfl ?_) | (refine asS_i rfl ?_) | (refine asY_i rfl ?_) | (refine asM_i rfl ?_) | (refine asA_i rfl rfl ?_) | (refine asT_i rfl rfl ?_) | (refine lv_i ?_))
              have hah : ∀ h : stepC (sgn d) a false b p.1, 0 < d ∧ 0 < b.at false - a.at false ∨ d < 0 ∧ b.at false - a.at false < 0 := fun h => by
                obtain ⟨q1, q2, q3, q4⟩ := h
                unfold sgn at q1
                unfold mag at hp1
                split at q1
                · exact .inr ⟨by assumption, by omega⟩
                · refine .inl ⟨?_, by omega⟩
                  rw [if_neg (by assumption)] at hp1
                  omega
              have hsg : 0 < d ∧ 0 < b.at false - a.at false ∨ d < 0 ∧ b.at false - a.at false < 0 → 0 < sgn d * (b.at false - a.at false) := fun h => by
                unfold sgn
                rcases h with ⟨h, h'⟩ | ⟨h, h'⟩
                · rw [if_neg (by omega)]; omega
                · rw [if_pos h]; omega
              refine jn_of (fun s w' => s = [.bool (decide (stepC (sgn d) a false b p.1))] ∧ St w w' [(ra, a.cells, 25)]) ?_ ?_
              · clear hS
                rintro _ w7 ⟨rfl, hS⟩
                refine asB_i rfl (cond_split (fun hst => ?_) (fun hst => ?_))
                · have hst' := of_decide_eq_true hst
                  repeat (first | (refine asI_i rfl ?_) | (refine asB_i rfl ?_) | (refine asP_i rfl ?_) | (refine asS_i rfl ?_) | (refine asY_i rfl ?_) | (refine asM_i rfl ?_) | (refine asA_i rfl rfl ?_) | (refine asT_i rfl rfl ?_) | (refine lv_i ?_))
                  refine hJ2 _ _ ⟨?_, hS⟩
                  show _ = [Value.int .i64 (stepP (sgn d) a false b i p).1, Value.int .i64 (stepP (sgn d) a false b i p).2]
                  unfold stepP
                  rw [if_pos hst']
                  rfl
                · have hst' := of_decide_eq_false hst
                  refine hJ2 _ _ ⟨?_, hS⟩
                  show _ = [Value.int .i64 (stepP (sgn d) a false b i p).1, Value.int .i64 (stepP (sgn d) a false b i p).2]
                  unfold stepP
                  rw [if_neg hst']
              · intro J3 hJ3
                repeat (first | (refine asI_i rfl ?_) | (refine asB_i rfl ?_) | (refine asP_i rfl ?_) | (refine asS_i rfl ?_) | (refine asY_i rfl ?_) | (refine asM_i rfl ?_) | (refine asA_i rfl rfl ?_) | (refine asT_i rfl rfl ?_) | (refine lv_i ?_) | (refine St.dw hS ?_; clear hS; intro _ hS _) | (refine hS.ld0 0 rfl rfl ?_) | (refine hS.ld 0 rfl rfl ?_) | (refine hS.ld0 1 rfl rfl ?_) | (refine hS.ld 1 rfl rfl ?_) | (refine hS.ld0 2 rfl rfl ?_) | (refine hS.ld 2 rfl rfl ?_) | (refine hS.ld0 3 rfl rfl ?_) | (refine hS.ld 3 rfl rfl ?_) | (refine hS.ld0 4 rfl rfl ?_) | (refine hS.ld 4 rfl rfl ?_) | (refine hS.ld0 5 rfl rfl ?_) | (refine hS.ld 5 rfl rfl ?_) | (refine hS.ld0 6 rfl rfl ?_) | (refine hS.ld 6 rfl rfl ?_) | (refine hS.ld0 7 rfl rfl ?_) | (refine hS.ld 7 rfl rfl ?_) | (refine hS.hd0 0 rfl rfl ?_) | (refine hS.hd 0 rfl rfl ?_) | (refine hS.hd0 1 rfl rfl ?_) | (refine hS.hd 1 rfl rfl ?_) | (refine hS.hd0 2 rfl rfl ?_) | (refine hS.hd 2 rfl rfl ?_) | (refine hS.hd0 3 rfl rfl ?_) | (refine hS.hd 3 rfl rfl ?_) | (refine hS.hd0 4 rfl rfl ?_) | (refine hS.hd 4 rfl rfl ?_) | (refine hS.hd0 5 rfl rfl ?_) | (refine hS.hd 5 rfl rfl ?_) | (refine hS.hd0 6 rfl rfl ?_) | (refine hS.hd 6 rfl rfl ?_) | (refine hS.hd0 7 rfl rfl ?_) | (refine hS.hd 7 rfl rfl ?_) | (refine hS.st0 0 rfl rfl rfl ?_; clear hS; intro _ hS) | (refine hS.st 0 rfl rfl rfl ?_; clear hS; intro _ hS) | (refine hS.st0 1 rfl rfl rfl ?_; clear hS; intro _ hS) | (refine hS.st 1 rfl rfl rfl ?_; clear hS; intro _ hS) | (refine hS.st0 2 rfl rfl rfl ?_; clear hS; intro _ hS) | (refine hS.st 2 rfl rfl rfl ?_; clear hS; intro _ hS) | (refine hS.st0 3 rfl rfl rfl ?_; clear hS; intro _ hS) | (refine hS.st 3 rfl rfl rfl ?_; clear hS; intro _ hS) | (refine hS.st0 4 rfl rfl rfl ?_; clear hS; intro _ hS) | (refine hS.st 4 rfl rfl rfl ?_; clear hS; intro _ hS) | (refine hS.st0 5 rfl rfl rfl ?_; clear hS; intro _ hS) | (refine hS.st 5 rfl rfl rfl ?_; clear hS; intro _ hS) | (refine hS.st0 6 rfl rfl rfl ?_; clear hS; intro _ hS) | (refine hS.st 6 rfl rfl rfl ?_; clear hS; intro _ hS) | (refine hS.st0 7 rfl rfl rfl ?_; clear hS; intro _ hS) | (refine hS.st 7 rfl rfl rfl ?_; clear hS; intro _ hS) | (refine bnd_mk (by decide) (by decide) ?_) | (refine so_i rfl ?_))
                refine cond_split (fun t1 => ?_) (fun t1 => hJ3 _ _ ⟨?_, hS⟩)
                · have t1' := hsg (of_decide_eq_true t1)
                  refine cond_split (fun t2 => ?_) (fun t2 => hJ3 _ _ ⟨?_, hS⟩)
                  · have t2' : 0 ≤ gap a b false := of_decide_eq_true t2
                    repeat (first | (refine asI_i rfl ?_) | (refine asB_i rfl ?_) | (refine asP_i rfl ?_) | (refine asS_i rfl ?_) | (refine asY_i rfl ?_) | (refine asM_i rfl ?_) | (refine asA_i rfl rfl ?_) | (refine asT_i rfl rfl ?_) | (refine lv_i ?_) | (refine St.dw hS ?_; clear hS; intro _ hS _) | (refine hS.ld0 0 rfl rfl ?_) | (refine hS.ld 0 rfl rfl ?_) | (refine hS.ld0 1 rfl rfl ?_) | (refine hS.ld 1 rfl rfl ?_) | (refine hS.ld0 2 rfl rfl ?_) | (refine hS.ld 2 rfl rfl ?_) | (refine hS.ld0 3 rfl rfl ?_) | (refine hS.ld 3 rfl rfl ?_) | (refine hS.ld0 4 rfl rfl ?_) | (refine hS.ld 4 rfl rfl ?_) | (refine hS.ld0 5 rfl rfl ?_) | (refine hS.ld 5 rfl rfl ?_) | (refine hS.ld0 6 rfl rfl ?_) | (refine hS.ld 6 rfl rfl ?_) | (refine hS.ld0 7 rfl rfl ?_) | (refine hS.ld 7 rfl rfl ?_) | (refine hS.hd0 0 rfl rfl ?_) | (refine hS.hd 0 rfl rfl ?_) | (refine hS.hd0 1 rfl rfl ?_) | (refine hS.hd 1 rfl rfl ?_) | (refine hS.hd0 2 rfl rfl ?_) | (refine hS.hd 2 rfl rfl ?_) | (refine hS.hd0 3 rfl rfl ?_) | (refine hS.hd 3 rfl rfl ?_) | (refine hS.hd0 4 rfl rfl ?_) | (refine hS.hd 4 rfl rfl ?_) | (refine hS.hd0 5 rfl rfl ?_) | (refine hS.hd 5 rfl rfl ?_) | (refine hS.hd0 6 rfl rfl ?_) | (refine hS.hd 6 rfl rfl ?_) | (refine hS.hd0 7 rfl rfl ?_) | (refine hS.hd 7 rfl rfl ?_) | (refine hS.st0 0 rfl rfl rfl ?_; clear hS; intro _ hS) | (refine hS.st 0 rfl rfl rfl ?_; clear hS; intro _ hS) | (refine hS.st0 1 rfl rfl rfl ?_; clear hS; intro _ hS) | (refine hS.st 1 rfl rfl rfl ?_; clear hS; intro _ hS) | (refine hS.st0 2 rfl rfl rfl ?_; clear hS; intro _ hS) | (refine hS.st 2 rfl rfl rfl ?_; clear hS; intro _ hS) | (refine hS.st0 3 rfl rfl rfl ?_; clear hS; intro _ hS) | (refine hS.st 3 rfl rfl rfl ?_; clear hS; intro _ hS) | (refine hS.st0 4 rfl rfl rfl ?_; clear hS; intro _ hS) | (refine hS.st 4 rfl rfl rfl ?_; clear hS; intro _ hS) | (refine hS.st0 5 rfl rfl rfl ?_; clear hS; intro _ hS) | (refine hS.st 5 rfl rfl rfl ?_; clear hS; intro _ hS) | (refine hS.st0 6 rfl rfl rfl ?_; clear hS; intro _ hS) | (refine hS.st 6 rfl rfl rfl ?_; clear hS; intro _ hS) | (refine hS.st0 7 rfl rfl rfl ?_; clear hS; intro _ hS) | (refine hS.st 7 rfl rfl rfl ?_; clear hS; intro _ hS) | (refine bnd_mk (by decide) (by decide) ?_) | (refine so_i rfl ?_))
                    refine bx_at (Reads.no hS.ext hL) rfl hb ?_
                    intro ad c0 c1 c2
                    refine ld_mk c0 (asI_i rfl (ld_mk c1 (asI_i rfl (ld_mk c2 (asI_i rfl ?_)))))
                    refine rgap_k (a := a) (b := b) hR.2 hbr ?_
                    intro _ x
                    replace hS := hS.to x
                    have ew : (IntKind.wrap .i64 ((1 : Int) - 0) != 0) = true := by decide
                    rw [ew]
                    repeat (first | (refine asI_i rfl ?_) | (refine asB_i rfl ?_) | (refine asP_i rfl ?_) | (refine asS_i rfl ?_) | (refine asY_i rfl ?_) | (refine asM_i rfl ?_) | (refine asA_i rfl rfl ?_) | (refine asT_i rfl rfl ?_) | (refine lv_i ?_) | (refine St.dw hS ?_; clear hS; intro _ hS _) | (refine hS.ld0 0 rfl rfl ?_) | (refine hS.ld 0 rfl rfl ?_) | (refine hS.ld0 1 rfl rfl ?_) | (refine hS.ld 1 rfl rfl ?_) | (refine hS.ld0 2 rfl rfl ?_) | (refine hS.ld 2 rfl rfl ?_) | (refine hS.ld0 3 rfl rfl ?_) | (refine hS.ld 3 rfl rfl ?_) | (refine hS.ld0 4 rfl rfl ?_) | (refine hS.ld 4 rfl rfl ?_) | (refine hS.ld0 5 rfl rfl ?_) | (refine hS.ld 5 rfl rfl ?_) | (refine hS.ld0 6 rfl rfl ?_) | (refine hS.ld 6 rfl rfl ?_) | (refine hS.ld0 7 rfl rfl ?_) | (refine hS.ld 7 rfl rfl ?_) | (refine hS.hd0 0 rfl rfl ?_) | (refine hS.hd 0 rfl rfl ?_) | (refine hS.hd0 1 rfl rfl ?_) | (refine hS.hd 1 rfl rfl ?_) | (refine hS.hd0 2 rfl rfl ?_) | (refine hS.hd 2 rfl rfl ?_) | (refine hS.hd0 3 rfl rfl ?_) | (refine hS.hd 3 rfl rfl ?_) | (refine hS.hd0 4 rfl rfl ?_) | (refine hS.hd 4 rfl rfl ?_) | (refine hS.hd0 5 rfl rfl ?_) | (refine hS.hd 5 rfl rfl ?_) | (refine hS.hd0 6 rfl rfl ?_) | (refine hS.hd 6 rfl rfl ?_) | (refine hS.hd0 7 rfl rfl ?_) | (refine hS.hd 7 rfl rfl ?_) | (refine hS.st0 0 rfl rfl rfl ?_; clear hS; intro _ hS) | (refine hS.st 0 rfl rfl rfl ?_; clear hS; intro _ hS) | (refine hS.st0 1 rfl rfl rfl ?_; clear hS; intro _ hS) | (refine hS.st 1 rfl rfl rfl ?_; clear hS; intro _ hS) | (refine hS.st0 2 rfl rfl rfl ?_; clear hS; intro _ hS) | (refine hS.st 2 rfl rfl rfl ?_; clear hS; intro _ hS) | (refine hS.st0 3 rfl rfl rfl ?_; clear hS; intro _ hS) | (refine hS.st 3 rfl rfl rfl ?_; clear hS; intro _ hS) | (refine hS.st0 4 rfl rfl rfl ?_; clear hS; intro _ hS) | (refine hS.st 4 rfl rfl rfl ?_; clear hS; intro _ hS) | (refine hS.st0 5 rfl rfl rfl ?_; clear hS; intro _ hS) | (refine hS.st 5 rfl rfl rfl ?_; clear hS; intro _ hS) | (refine hS.st0 6 rfl rfl rfl ?_; clear hS; intro _ hS) | (refine hS.st 6 rfl rfl rfl ?_; clear hS; intro _ hS) | (refine hS.st0 7 rfl rfl rfl ?_; clear hS; intro _ hS) | (refine hS.st 7 rfl rfl rfl ?_; clear hS; intro _ hS) | (refine bnd_mk (by decide) (by decide) ?_) | (refine so_i rfl ?_))
                    refine cond_split (fun t3 => hJ3 _ _ ⟨?_, hS⟩) (fun t3 => hJ3 _ _ ⟨?_, hS⟩)
                    · have t3' : gap a b true < 0 := of_decide_eq_true t3
                      congr 2
                      refine Bool.eq_iff_iff.2 ⟨fun t4 => decide_eq_true ⟨t1', t2', of_decide_eq_true t4, t3'⟩, fun t4 => decide_eq_true (of_decide_eq_true t4).2.2.1⟩
                    · rw [decide_eq_false (fun hh : stepC (sgn d) a false b p.1 => of_decide_eq_false t3 hh.2.2.2)]
                  · rw [decide_eq_false (fun hh : stepC (sgn d) a false b p.1 => of_decide_eq_false t2 hh.2.1)]
                · rw [decide_eq_false (fun hh : stepC (sgn d) a false b p.1 => of_decide_eq_false t1 (hah hh))]
            · intro J3 hJ3
              have e3 : IntKind.wrap .i64 (b.at ((0 : Int) != 0) - a.at ((0 : Int) != 0)) = b.at false - a.at false := hside
              rw [e3]
              refine cond_split (fun t1 => cond_split (fun t2 => hJ3 _ _ ⟨?_, hS⟩) (fun t2 => cond_split (fun t3 => ?_) (fun t3 => hJ3 _ _ ⟨?_, hS⟩))) (fun t1 => cond_split (fun t3 => hJ3 _ _ ⟨?_, hS⟩) (fun t3 => hJ3 _ _ ⟨?_, hS⟩))
              · have u1 : 0 < d := of_decide_eq_true t1
                have u2 : 0 < b.at false - a.at false := of_decide_eq_true t2
                rw [decide_eq_true (.inl ⟨u1, u2⟩)]
              · have u1 : 0 < d := of_decide_eq_true t1
                have u3 : d < 0 := of_decide_eq_true t3
                omega
              · have u1 : 0 < d := of_decide_eq_true t1
                have u2 : ¬ 0 < b.at false - a.at false := of_decide_eq_false t2
                rw [decide_eq_false (by omega)]
              · have u1 : ¬ 0 < d := of_decide_eq_false t1
                have u3 : d < 0 := of_decide_eq_true t3
                congr 2
                refine Bool.eq_iff_iff.2 ⟨fun t4 => decide_eq_true (.inr ⟨u3, of_decide_eq_true t4⟩), fun t4 => decide_eq_true ?_⟩
                have := of_decide_eq_true t4
                omega
              · have u1 : ¬ 0 < d := of_decide_eq_false t1
                have u3 : ¬ d < 0 := of_decide_eq_false t3
                rw [decide_eq_false (by omega)]
          · repeat (first | (refine rgap_k (a := a) (b := b) (axis := 1) hR.2 hbr ?_; intro _ x; replace hS := hS.to x; clear x) | (refine asI_i rfl ?_) | (refine asB_i rfl ?_) | (refine asP_i rfl ?_) | (refine asS_i rfl ?_) | (refine asY_i rfl ?_) | (refine asM_i rfl ?_) | (refine asA_i rfl rfl ?_) | (refine asT_i rfl rfl ?_) | (refine lv_i ?_) | (refine St.dw hS ?_; clear hS; intro _ hS _) | (refine hS.ld0 0 rfl rfl ?_) | (refine hS.ld 0 rfl rfl ?_) | (refine hS.ld0 1 rfl rfl ?_) | (refine hS.ld 1 rfl rfl ?_) | (refine hS.ld0 2 rfl rfl ?_) | (refine hS.ld 2 rfl rfl ?_) | (refine hS.ld0 3 rfl rfl ?_) | (refine hS.ld 3 rfl rfl ?_) | (refine hS.ld0 4 rfl rfl ?_) | (refine hS.ld 4 rfl rfl ?_) | (refine hS.ld0 5 rfl rfl ?_) | (refine hS.ld 5 rfl rfl ?_) | (refine hS.ld0 6 rfl rfl ?_) | (refine hS.ld 6 rfl rfl ?_) | (refine hS.ld0 7 rfl rfl ?_) | (refine hS.ld 7 rfl rfl ?_) | (refine hS.hd0 0 rfl rfl ?_) | (refine hS.hd 0 rfl rfl ?_) | (refine hS.hd0 1 rfl rfl ?_) | (refine hS.hd 1 rfl rfl ?_) | (refine hS.hd0 2 rfl rfl ?_) | (refine hS.hd 2 rfl rfl ?_) | (refine hS.hd0 3 rfl rfl ?_) | (refine hS.hd 3 rfl rfl ?_) | (refine hS.hd0 4 rfl rfl ?_) | (refine hS.hd 4 rfl rfl ?_) | (refine hS.hd0 5 rfl rfl ?_) | (refine hS.hd 5 rfl rfl ?_) | (refine hS.hd0 6 rfl rfl ?_) | (refine hS.hd 6 rfl rfl ?_) | (refine hS.hd0 7 rfl rfl ?_) | (refine hS.hd 7 rfl rfl ?_) | (refine hS.st0 0 rfl rfl rfl ?_; clear hS; intro _ hS) | (refine hS.st 0 rfl rfl rfl ?_; clear hS; intro _ hS) | (refine hS.st0 1 rfl rfl rfl ?_; clear hS; intro _ hS) | (refine hS.st 1 rfl rfl rfl ?_; clear hS; intro _ hS) | (refine hS.st0 2 rfl rfl rfl ?_; clear hS; intro _ hS) | (refine hS.st 2 rfl rfl rfl ?_; clear hS; intro _ hS) | (refine hS.st0 3 rfl rfl rfl ?_; clear hS; intro _ hS) | (refine hS.st 3 rfl rfl rfl ?_; clear hS; intro _ hS) | (refine hS.st0 4 rfl rfl rfl ?_; clear hS; intro _ hS) | (refine hS.st 4 rfl rfl rfl ?_; clear hS; intro _ hS) | (refine hS.st0 5 rfl rfl rfl ?_; clear hS; intro _ hS) | (refine hS.st 5 rfl rfl rfl ?_; clear hS; intro _ hS) | (refine hS.st0 6 rfl rfl rfl ?_; clear hS; intro _ hS) | (refine hS.st 6 rfl rfl rfl ?_; clear hS; intro _ hS) | (refine hS.st0 7 rfl rfl rfl ?_; clear hS; intro _ hS) | (refine hS.st 7 rfl rfl rfl ?_; clear hS; intro _ hS) | (refine bnd_mk (by decide) (by decide) ?_) | (refine so_i rfl ?_))
            refine bx_at (Reads.no hS.ext hL) rfl hb ?_
            intro ad c0 c1 c2
            refine ld_mk c0 (asI_i rfl (ld_mk c1 (asI_i rfl ?_)))
            repeat (first | (refine rpart_k (b := b) (axis := 1) ?_; intro _ x; replace hS := hS.to x; clear x) | (refine rpart_k (b := a) (axis := 1) ?_; intro _ x; replace hS := hS.to x; clear x) | (refine asI_i rfl ?_) | (refine asB_i rfl ?_) | (refine asP_i rfl ?_) | (refine asS_i rfl ?_) | (refine asY_i rfl ?_) | (refine asM_i rfl ?_) | (refine asA_i rfl rfl ?_) | (refine asT_i rfl rfl ?_) | (refine lv_i ?_) | (refine St.dw hS ?_; clear hS; intro _ hS _) | (refine hS.ld0 0 rfl rfl ?_) | (refine hS.ld 0 rfl rfl ?_) | (refine hS.ld0 1 rfl rfl ?_) | (refine hS.ld 1 rfl rfl ?_) | (refine hS.ld0 2 rfl rfl ?_) | (refine hS.ld 2 rfl rfl ?_) | (refine hS.ld0 3 rfl rfl ?_) | (refine hS.ld 3 rfl rfl ?_) | (refine hS.ld0 4 rfl rfl ?_) | (refine hS.ld 4 rfl rfl ?_) | (refine hS.ld0 5 rfl rfl ?_) | (refine hS.ld 5 rfl rfl ?_) | (refine hS.ld0 6 rfl rfl ?_) | (refine hS.ld 6 rfl rfl ?_) | (refine hS.ld0 7 rfl rfl ?_) | (refine hS.ld 7 rfl rfl ?_) | (refine hS.hd0 0 rfl rfl ?_) | (refine hS.hd 0 rfl rfl ?_) | (refine hS.hd0 1 rfl rfl ?_) | (refine hS.hd 1 rfl rfl ?_) | (refine hS.hd0 2 rfl rfl ?_) | (refine hS.hd 2 rfl rfl ?_) | (refine hS.hd0 3 rfl rfl ?_) | (refine hS.hd 3 rfl rfl ?_) | (refine hS.hd0 4 rfl rfl ?_) | (refine hS.hd 4 rfl rfl ?_) | (refine hS.hd0 5 rfl rfl ?_) | (refine hS.hd 5 rfl rfl ?_) | (refine hS.hd0 6 rfl rfl ?_) | (refine hS.hd 6 rfl rfl ?_) | (refine hS.hd0 7 rfl rfl ?_) | (refine hS.hd 7 rfl rfl ?_) | (refine hS.st0 0 rfl rfl rfl ?_; clear hS; intro _ hS) | (refine hS.st 0 rfl rfl rfl ?_; clear hS; intro _ hS) | (refine hS.st0 1 rfl rfl rfl ?_; clear hS; intro _ hS) | (refine hS.st 1 rfl rfl rfl ?_; clear hS; intro _ hS) | (refine hS.st0 2 rfl rfl rfl ?_; clear hS; intro _ hS) | (refine hS.st 2 rfl rfl rfl ?_; clear hS; intro _ hS) | (refine hS.st0 3 rfl rfl rfl ?_; clear hS; intro _ hS) | (refine hS.st 3 rfl rfl rfl ?_; clear hS; intro _ hS) | (refine hS.st0 4 rfl rfl rfl ?_; clear hS; intro _ hS) | (refine hS.st 4 rfl rfl rfl ?_; clear hS; intro _ hS) | (refine hS.st0 5 rfl rfl rfl ?_; clear hS; intro _ hS) | (refine hS.st 5 rfl rfl rfl ?_; clear hS; intro _ hS) | (refine hS.st0 6 rfl rfl rfl ?_; clear hS; intro _ hS) | (refine hS.st 6 rfl rfl rfl ?_; clear hS; intro _ hS) | (refine hS.st0 7 rfl rfl rfl ?_; clear hS; intro _ hS) | (refine hS.st 7 rfl rfl rfl ?_; clear hS; intro _ hS) | (refine bnd_mk (by decide) (by decide) ?_) | (refine so_i rfl ?_))
            have h1 := right_at hbr true
            have h2 := right_at hR.2 true
            have hside : IntKind.wrap .i64 (b.at true - a.at true) = b.at true - a.at true := wr64 (by omega) (by omega)
            refine jn_of (fun s w' => s = [.bool (decide (0 < d ∧ 0 < b.at true - a.at true ∨ d < 0 ∧ b.at true - a.at true < 0))] ∧ St w w' [(ra, a.cells, 25)]) ?_ ?_
            · clear hS
              rintro _ w6 ⟨rfl, hS⟩
              repeat (first | (refine asI_i rfl ?_) | (refine asB_i rfl ?_) | (refine asP_i rfl ?_) | (refine asS_i rfl ?_) | (refine asY_i rfl ?_) | (refine asM_i rfl ?_) | (refine asA_i rfl rfl ?_) | (refine asT_i rfl rfl ?_) | (refine lv_i ?_))
              have hah : ∀ h : stepC (sgn d) a true b p.1, 0 < d ∧ 0 < b.at true - a.at true ∨ d < 0 ∧ b.at true - a.at true < 0 := fun h => by
                obtain ⟨q1, q2, q3, q4⟩ := h
                unfold sgn at q1
                unfold mag at hp1
                split at q1
                · exact .inr ⟨by assumption, by omega⟩
                · refine .inl ⟨?_, by omega⟩
                  rw [if_neg (by assumption)] at hp1
                  omega
              have hsg : 0 < d ∧ 0 < b.at true - a.at true ∨ d < 0 ∧ b.at true - a.at true < 0 → 0 < sgn d * (b.at true - a.at true) := fun h => by
                unfold sgn
                rcases h with ⟨h, h'⟩ | ⟨h, h'⟩
                · rw [if_neg (by omega)]; omega
                · rw [if_pos h]; omega
              refine jn_of (fun s w' => s = [.bool (decide (stepC (sgn d) a true b p.1))] ∧ St w w' [(ra, a.cells, 25)]) ?_ ?_
              · clear hS
                rintro _ w7 ⟨rfl, hS⟩
                refine asB_i rfl (cond_split (fun hst => ?_) (fun hst => ?_))
                · have hst' := of_decide_eq_true hst
                  repeat (first | (refine asI_i rfl ?_) | (refine asB_i rfl ?_) | (refine asP_i rfl ?_) | (refine asS_i rfl ?_) | (refine asY_i rfl ?_) | (refine asM_i rfl ?_) | (refine asA_i rfl rfl ?_) | (refine asT_i rfl rfl ?_) | (refine lv_i ?_))
                  refine hJ2 _ _ ⟨?_, hS⟩
                  show _ = [Value.int .i64 (stepP (sgn d) a true b i p).1, Value.int .i64 (stepP (sgn d) a true b i p).2]
                  unfold stepP
                  rw [if_pos hst']
                  rfl
                · have hst' := of_decide_eq_false hst
                  refine hJ2 _ _ ⟨?_, hS⟩
                  show _ = [Value.int .i64 (stepP (sgn d) a true b i p).1, Value.int .i64 (stepP (sgn d) a true b i p).2]
                  unfold stepP
                  rw [if_neg hst']
              · intro J3 hJ3
                repeat (first | (refine asI_i rfl ?_) | (refine asB_i rfl ?_) | (refine asP_i rfl ?_) | (refine asS_i rfl ?_) | (refine asY_i rfl ?_) | (refine asM_i rfl ?_) | (refine asA_i rfl rfl ?_) | (refine asT_i rfl rfl ?_) | (refine lv_i ?_) | (refine St.dw hS ?_; clear hS; intro _ hS _) | (refine hS.ld0 0 rfl rfl ?_) | (refine hS.ld 0 rfl rfl ?_) | (refine hS.ld0 1 rfl rfl ?_) | (refine hS.ld 1 rfl rfl ?_) | (refine hS.ld0 2 rfl rfl ?_) | (refine hS.ld 2 rfl rfl ?_) | (refine hS.ld0 3 rfl rfl ?_) | (refine hS.ld 3 rfl rfl ?_) | (refine hS.ld0 4 rfl rfl ?_) | (refine hS.ld 4 rfl rfl ?_) | (refine hS.ld0 5 rfl rfl ?_) | (refine hS.ld 5 rfl rfl ?_) | (refine hS.ld0 6 rfl rfl ?_) | (refine hS.ld 6 rfl rfl ?_) | (refine hS.ld0 7 rfl rfl ?_) | (refine hS.ld 7 rfl rfl ?_) | (refine hS.hd0 0 rfl rfl ?_) | (refine hS.hd 0 rfl rfl ?_) | (refine hS.hd0 1 rfl rfl ?_) | (refine hS.hd 1 rfl rfl ?_) | (refine hS.hd0 2 rfl rfl ?_) | (refine hS.hd 2 rfl rfl ?_) | (refine hS.hd0 3 rfl rfl ?_) | (refine hS.hd 3 rfl rfl ?_) | (refine hS.hd0 4 rfl rfl ?_) | (refine hS.hd 4 rfl rfl ?_) | (refine hS.hd0 5 rfl rfl ?_) | (refine hS.hd 5 rfl rfl ?_) | (refine hS.hd0 6 rfl rfl ?_) | (refine hS.hd 6 rfl rfl ?_) | (refine hS.hd0 7 rfl rfl ?_) | (refine hS.hd 7 rfl rfl ?_) | (refine hS.st0 0 rfl rfl rfl ?_; clear hS; intro _ hS) | (refine hS.st 0 rfl rfl rfl ?_; clear hS; intro _ hS) | (refine hS.st0 1 rfl rfl rfl ?_; clear hS; intro _ hS) | (refine hS.st 1 rfl rfl rfl ?_; clear hS; intro _ hS) | (refine hS.st0 2 rfl rfl rfl ?_; clear hS; intro _ hS) | (refine hS.st 2 rfl rfl rfl ?_; clear hS; intro _ hS) | (refine hS.st0 3 rfl rfl rfl ?_; clear hS; intro _ hS) | (refine hS.st 3 rfl rfl rfl ?_; clear hS; intro _ hS) | (refine hS.st0 4 rfl rfl rfl ?_; clear hS; intro _ hS) | (refine hS.st 4 rfl rfl rfl ?_; clear hS; intro _ hS) | (refine hS.st0 5 rfl rfl rfl ?_; clear hS; intro _ hS) | (refine hS.st 5 rfl rfl rfl ?_; clear hS; intro _ hS) | (refine hS.st0 6 rfl rfl rfl ?_; clear hS; intro _ hS) | (refine hS.st 6 rfl rfl rfl ?_; clear hS; intro _ hS) | (refine hS.st0 7 rfl rfl rfl ?_; clear hS; intro _ hS) | (refine hS.st 7 rfl rfl rfl ?_; clear hS; intro _ hS) | (refine bnd_mk (by decide) (by decide) ?_) | (refine so_i rfl ?_))
                refine cond_split (fun t1 => ?_) (fun t1 => hJ3 _ _ ⟨?_, hS⟩)
                · have t1' := hsg (of_decide_eq_true t1)
                  refine cond_split (fun t2 => ?_) (fun t2 => hJ3 _ _ ⟨?_, hS⟩)
                  · have t2' : 0 ≤ gap a b true := of_decide_eq_true t2
                    repeat (first | (refine asI_i rfl ?_) | (refine asB_i rfl ?_) | (refine asP_i rfl ?_) | (refine asS_i rfl ?_) | (refine asY_i rfl ?_) | (refine asM_i rfl ?_) | (refine asA_i rfl rfl ?_) | (refine asT_i rfl rfl ?_) | (refine lv_i ?_) | (refine St.dw hS ?_; clear hS; intro _ hS _) | (refine hS.ld0 0 rfl rfl ?_) | (refine hS.ld 0 rfl rfl ?_) | (refine hS.ld0 1 rfl rfl ?_) | (refine hS.ld 1 rfl rfl ?_) | (refine hS.ld0 2 rfl rfl ?_) | (refine hS.ld 2 rfl rfl ?_) | (refine hS.ld0 3 rfl rfl ?_) | (refine hS.ld 3 rfl rfl ?_) | (refine hS.ld0 4 rfl rfl ?_) | (refine hS.ld 4 rfl rfl ?_) | (refine hS.ld0 5 rfl rfl ?_) | (refine hS.ld 5 rfl rfl ?_) | (refine hS.ld0 6 rfl rfl ?_) | (refine hS.ld 6 rfl rfl ?_) | (refine hS.ld0 7 rfl rfl ?_) | (refine hS.ld 7 rfl rfl ?_) | (refine hS.hd0 0 rfl rfl ?_) | (refine hS.hd 0 rfl rfl ?_) | (refine hS.hd0 1 rfl rfl ?_) | (refine hS.hd 1 rfl rfl ?_) | (refine hS.hd0 2 rfl rfl ?_) | (refine hS.hd 2 rfl rfl ?_) | (refine hS.hd0 3 rfl rfl ?_) | (refine hS.hd 3 rfl rfl ?_) | (refine hS.hd0 4 rfl rfl ?_) | (refine hS.hd 4 rfl rfl ?_) | (refine hS.hd0 5 rfl rfl ?_) | (refine hS.hd 5 rfl rfl ?_) | (refine hS.hd0 6 rfl rfl ?_) | (refine hS.hd 6 rfl rfl ?_) | (refine hS.hd0 7 rfl rfl ?_) | (refine hS.hd 7 rfl rfl ?_) | (refine hS.st0 0 rfl rfl rfl ?_; clear hS; intro _ hS) | (refine hS.st 0 rfl rfl rfl ?_; clear hS; intro _ hS) | (refine hS.st0 1 rfl rfl rfl ?_; clear hS; intro _ hS) | (refine hS.st 1 rfl rfl rfl ?_; clear hS; intro _ hS) | (refine hS.st0 2 rfl rfl rfl ?_; clear hS; intro _ hS) | (refine hS.st 2 rfl rfl rfl ?_; clear hS; intro _ hS) | (refine hS.st0 3 rfl rfl rfl ?_; clear hS; intro _ hS) | (refine hS.st 3 rfl rfl rfl ?_; clear hS; intro _ hS) | (refine hS.st0 4 rfl rfl rfl ?_; clear hS; intro _ hS) | (refine hS.st 4 rfl rfl rfl ?_; clear hS; intro _ hS) | (refine hS.st0 5 rfl rfl rfl ?_; clear hS; intro _ hS) | (refine hS.st 5 rfl rfl rfl ?_; clear hS; intro _ hS) | (refine hS.st0 6 rfl rfl rfl ?_; clear hS; intro _ hS) | (refine hS.st 6 rfl rfl rfl ?_; clear hS; intro _ hS) | (refine hS.st0 7 rfl rfl rfl ?_; clear hS; intro _ hS) | (refine hS.st 7 rfl rfl rfl ?_; clear hS; intro _ hS) | (refine bnd_mk (by decide) (by decide) ?_) | (refine so_i rfl ?_))
                    refine bx_at (Reads.no hS.ext hL) rfl hb ?_
                    intro ad c0 c1 c2
                    refine ld_mk c0 (asI_i rfl (ld_mk c1 (asI_i rfl (ld_mk c2 (asI_i rfl ?_)))))
                    refine rgap_k (a := a) (b := b) hR.2 hbr ?_
                    intro _ x
                    replace hS := hS.to x
                    have ew : (IntKind.wrap .i64 ((1 : Int) - 1) != 0) = false := by decide
                    rw [ew]
                    repeat (first | (refine asI_i rfl ?_) | (refine asB_i rfl ?_) | (refine asP_i rfl ?_) | (refine asS_i rfl ?_) | (refine asY_i rfl ?_) | (refine asM_i rfl ?_) | (refine asA_i rfl rfl ?_) | (refine asT_i rfl rfl ?_) | (refine lv_i ?_) | (refine St.dw hS ?_; clear hS; intro _ hS _) | (refine hS.ld0 0 rfl rfl ?_) | (refine hS.ld 0 rfl rfl ?_) | (refine hS.ld0 1 rfl rfl ?_) | (refine hS.ld 1 rfl rfl ?_) | (refine hS.ld0 2 rfl rfl ?_) | (refine hS.ld 2 rfl rfl ?_) | (refine hS.ld0 3 rfl rfl ?_) | (refine hS.ld 3 rfl rfl ?_) | (refine hS.ld0 4 rfl rfl ?_) | (refine hS.ld 4 rfl rfl ?_) | (refine hS.ld0 5 rfl rfl ?_) | (refine hS.ld 5 rfl rfl ?_) | (refine hS.ld0 6 rfl rfl ?_) | (refine hS.ld 6 rfl rfl ?_) | (refine hS.ld0 7 rfl rfl ?_) | (refine hS.ld 7 rfl rfl ?_) | (refine hS.hd0 0 rfl rfl ?_) | (refine hS.hd 0 rfl rfl ?_) | (refine hS.hd0 1 rfl rfl ?_) | (refine hS.hd 1 rfl rfl ?_) | (refine hS.hd0 2 rfl rfl ?_) | (refine hS.hd 2 rfl rfl ?_) | (refine hS.hd0 3 rfl rfl ?_) | (refine hS.hd 3 rfl rfl ?_) | (refine hS.hd0 4 rfl rfl ?_) | (refine hS.hd 4 rfl rfl ?_) | (refine hS.hd0 5 rfl rfl ?_) | (refine hS.hd 5 rfl rfl ?_) | (refine hS.hd0 6 rfl rfl ?_) | (refine hS.hd 6 rfl rfl ?_) | (refine hS.hd0 7 rfl rfl ?_) | (refine hS.hd 7 rfl rfl ?_) | (refine hS.st0 0 rfl rfl rfl ?_; clear hS; intro _ hS) | (refine hS.st 0 rfl rfl rfl ?_; clear hS; intro _ hS) | (refine hS.st0 1 rfl rfl rfl ?_; clear hS; intro _ hS) | (refine hS.st 1 rfl rfl rfl ?_; clear hS; intro _ hS) | (refine hS.st0 2 rfl rfl rfl ?_; clear hS; intro _ hS) | (refine hS.st 2 rfl rfl rfl ?_; clear hS; intro _ hS) | (refine hS.st0 3 rfl rfl rfl ?_; clear hS; intro _ hS) | (refine hS.st 3 rfl rfl rfl ?_; clear hS; intro _ hS) | (refine hS.st0 4 rfl rfl rfl ?_; clear hS; intro _ hS) | (refine hS.st 4 rfl rfl rfl ?_; clear hS; intro _ hS) | (refine hS.st0 5 rfl rfl rfl ?_; clear hS; intro _ hS) | (refine hS.st 5 rfl rfl rfl ?_; clear hS; intro _ hS) | (refine hS.st0 6 rfl rfl rfl ?_; clear hS; intro _ hS) | (refine hS.st 6 rfl rfl rfl ?_; clear hS; intro _ hS) | (refine hS.st0 7 rfl rfl rfl ?_; clear hS; intro _ hS) | (refine hS.st 7 rfl rfl rfl ?_; clear hS; intro _ hS) | (refine bnd_mk (by decide) (by decide) ?_) | (refine so_i rfl ?_))
                    refine cond_split (fun t3 => hJ3 _ _ ⟨?_, hS⟩) (fun t3 => hJ3 _ _ ⟨?_, hS⟩)
                    · have t3' : gap a b false < 0 := of_decide_eq_true t3
                      congr 2
                      refine Bool.eq_iff_iff.2 ⟨fun t4 => decide_eq_true ⟨t1', t2', of_decide_eq_true t4, t3'⟩, fun t4 => decide_eq_true (of_decide_eq_true t4).2.2.1⟩
                    · rw [decide_eq_false (fun hh : stepC (sgn d) a true b p.1 => of_decide_eq_false t3 hh.2.2.2)]
                  · rw [decide_eq_false (fun hh : stepC (sgn d) a true b p.1 => of_decide_eq_false t2 hh.2.1)]
                · rw [decide_eq_false (fun hh : stepC (sgn d) a true b p.1 => of_decide_eq_false t1 (hah hh))]
            · intro J3 hJ3
              have e3 : IntKind.wrap .i64 (b.at ((1 : Int) != 0) - a.at ((1 : Int) != 0)) = b.at true - a.at true := hside
              rw [e3]
              refine cond_split (fun t1 => cond_split (fun t2 => hJ3 _ _ ⟨?_, hS⟩) (fun t2 => cond_split (fun t3 => ?_) (fun t3 => hJ3 _ _ ⟨?_, hS⟩))) (fun t1 => cond_split (fun t3 => hJ3 _ _ ⟨?_, hS⟩) (fun t3 => hJ3 _ _ ⟨?_, hS⟩))
              · have u1 : 0 < d := of_decide_eq_true t1
                have u2 : 0 < b.at true - a.at true := of_decide_eq_true t2
                rw [decide_eq_true (.inl ⟨u1, u2⟩)]
              · have u1 : 0 < d := of_decide_eq_true t1
                have u3 : d < 0 := of_decide_eq_true t3
                omega
              · have u1 : 0 < d := of_decide_eq_true t1
                have u2 : ¬ 0 < b.at true - a.at true := of_decide_eq_false t2
                rw [decide_eq_false (by omega)]
              · have u1 : ¬ 0 < d := of_decide_eq_false t1
                have u3 : d < 0 := of_decide_eq_true t3
                congr 2
                refine Bool.eq_iff_iff.2 ⟨fun t4 => decide_eq_true (.inr ⟨u3, of_decide_eq_true t4⟩), fun t4 => decide_eq_true ?_⟩
                have := of_decide_eq_true t4
                omega
              · have u1 : ¬ 0 < d := of_decide_eq_false t1
                have u3 : ¬ d < 0 := of_decide_eq_false t3
                rw [decide_eq_false (by omega)]
      · have hil : i = bs.length := by
          have : ¬ i < bs.length := by simpa using hc
          omega
        subst hil
        rw [List.drop_length] at hF
        have hF' : p = pushF (sgn d) a (axis != 0) bs 0 (mag d, -1) := hF
        refine cond_split (fun t => ?_) (fun t => ?_)
        · repeat (first | (refine asI_i rfl ?_) | (refine asB_i rfl ?_) | (refine asP_i rfl ?_) | (refine asS_i rfl ?_) | (refine asY_i rfl ?_) | (refine asM_i rfl ?_) | (refine asA_i rfl rfl ?_) | (refine asT_i rfl rfl ?_) | (refine lv_i ?_) | (refine St.dw hS ?_; clear hS; intro _ hS _) | (refine hS.ld0 0 rfl rfl ?_) | (refine hS.ld 0 rfl rfl ?_) | (refine hS.ld0 1 rfl rfl ?_) | (refine hS.ld 1 rfl rfl ?_) | (refine hS.ld0 2 rfl rfl ?_) | (refine hS.ld 2 rfl rfl ?_) | (refine hS.ld0 3 rfl rfl ?_) | (refine hS.ld 3 rfl rfl ?_) | (refine hS.ld0 4 rfl rfl ?_) | (refine hS.ld 4 rfl rfl ?_) | (refine hS.ld0 5 rfl rfl ?_) | (refine hS.ld 5 rfl rfl ?_) | (refine hS.ld0 6 rfl rfl ?_) | (refine hS.ld 6 rfl rfl ?_) | (refine hS.ld0 7 rfl rfl ?_) | (refine hS.ld 7 rfl rfl ?_) | (refine hS.hd0 0 rfl rfl ?_) | (refine hS.hd 0 rfl rfl ?_) | (refine hS.hd0 1 rfl rfl ?_) | (refine hS.hd 1 rfl rfl ?_) | (refine hS.hd0 2 rfl rfl ?_) | (refine hS.hd 2 rfl rfl ?_) | (refine hS.hd0 3 rfl rfl ?_) | (refine hS.hd 3 rfl rfl ?_) | (refine hS.hd0 4 rfl rfl ?_) | (refine hS.hd 4 rfl rfl ?_) | (refine hS.hd0 5 rfl rfl ?_) | (refine hS.hd 5 rfl rfl ?_) | (refine hS.hd0 6 rfl rfl ?_) | (refine hS.hd 6 rfl rfl ?_) | (refine hS.hd0 7 rfl rfl ?_) | (refine hS.hd 7 rfl rfl ?_) | (refine hS.st0 0 rfl rfl rfl ?_; clear hS; intro _ hS) | (refine hS.st 0 rfl rfl rfl ?_; clear hS; intro _ hS) | (refine hS.st0 1 rfl rfl rfl ?_; clear hS; intro _ hS) | (refine hS.st 1 rfl rfl rfl ?_; clear hS; intro _ hS) | (refine hS.st0 2 rfl rfl rfl ?_; clear hS; intro _ hS) | (refine hS.st 2 rfl rfl rfl ?_; clear hS; intro _ hS) | (refine hS.st0 3 rfl rfl rfl ?_; clear hS; intro _ hS) | (refine hS.st 3 rfl rfl rfl ?_; clear hS; intro _ hS) | (refine hS.st0 4 rfl rfl rfl ?_; clear hS; intro _ hS) | (refine hS.st 4 rfl rfl rfl ?_; clear hS; intro _ hS) | (refine hS.st0 5 rfl rfl rfl ?_; clear hS; intro _ hS) | (refine hS.st 5 rfl rfl rfl ?_; clear hS; intro _ hS) | (refine hS.st0 6 rfl rfl rfl ?_; clear hS; intro _ hS) | (refine hS.st 6 rfl rfl rfl ?_; clear hS; intro _ hS) | (refine hS.st0 7 rfl rfl rfl ?_; clear hS; intro _ hS) | (refine hS.st 7 rfl rfl rfl ?_; clear hS; intro _ hS) | (refine bnd_mk (by decide) (by decide) ?_) | (refine so_i rfl ?_))
          have hk := hK _ hS.ext
          rw [← hF'] at hk
          have hs : sgn d = -1 := by unfold sgn; rw [if_pos (of_decide_eq_true t)]
          have e : IntKind.wrap .i64 ((0 : Int) - p.1) = sgn d * p.1 := by
            rw [hs, wr64 (by omega) (by omega)]
            omega
          rw [e]
          exact hk
        · repeat (first | (refine asI_i rfl ?_) | (refine asB_i rfl ?_) | (refine asP_i rfl ?_) | (refine asS_i rfl ?_) | (refine asY_i rfl ?_) | (refine asM_i rfl ?_) | (refine asA_i rfl rfl ?_) | (refine asT_i rfl rfl ?_) | (refine lv_i ?_) | (refine St.dw hS ?_; clear hS; intro _ hS _) | (refine hS.ld0 0 rfl rfl ?_) | (refine hS.ld 0 rfl rfl ?_) | (refine hS.ld0 1 rfl rfl ?_) | (refine hS.ld 1 rfl rfl ?_) | (refine hS.ld0 2 rfl rfl ?_) | (refine hS.ld 2 rfl rfl ?_) | (refine hS.ld0 3 rfl rfl ?_) | (refine hS.ld 3 rfl rfl ?_) | (refine hS.ld0 4 rfl rfl ?_) | (refine hS.ld 4 rfl rfl ?_) | (refine hS.ld0 5 rfl rfl ?_) | (refine hS.ld 5 rfl rfl ?_) | (refine hS.ld0 6 rfl rfl ?_) | (refine hS.ld 6 rfl rfl ?_) | (refine hS.ld0 7 rfl rfl ?_) | (refine hS.ld 7 rfl rfl ?_) | (refine hS.hd0 0 rfl rfl ?_) | (refine hS.hd 0 rfl rfl ?_) | (refine hS.hd0 1 rfl rfl ?_) | (refine hS.hd 1 rfl rfl ?_) | (refine hS.hd0 2 rfl rfl ?_) | (refine hS.hd 2 rfl rfl ?_) | (refine hS.hd0 3 rfl rfl ?_) | (refine hS.hd 3 rfl rfl ?_) | (refine hS.hd0 4 rfl rfl ?_) | (refine hS.hd 4 rfl rfl ?_) | (refine hS.hd0 5 rfl rfl ?_) | (refine hS.hd 5 rfl rfl ?_) | (refine hS.hd0 6 rfl rfl ?_) | (refine hS.hd 6 rfl rfl ?_) | (refine hS.hd0 7 rfl rfl ?_) | (refine hS.hd 7 rfl rfl ?_) | (refine hS.st0 0 rfl rfl rfl ?_; clear hS; intro _ hS) | (refine hS.st 0 rfl rfl rfl ?_; clear hS; intro _ hS) | (refine hS.st0 1 rfl rfl rfl ?_; clear hS; intro _ hS) | (refine hS.st 1 rfl rfl rfl ?_; clear hS; intro _ hS) | (refine hS.st0 2 rfl rfl rfl ?_; clear hS; intro _ hS) | (refine hS.st 2 rfl rfl rfl ?_; clear hS; intro _ hS) | (refine hS.st0 3 rfl rfl rfl ?_; clear hS; intro _ hS) | (refine hS.st 3 rfl rfl rfl ?_; clear hS; intro _ hS) | (refine hS.st0 4 rfl rfl rfl ?_; clear hS; intro _ hS) | (refine hS.st 4 rfl rfl rfl ?_; clear hS; intro _ hS) | (refine hS.st0 5 rfl rfl rfl ?_; clear hS; intro _ hS) | (refine hS.st 5 rfl rfl rfl ?_; clear hS; intro _ hS) | (refine hS.st0 6 rfl rfl rfl ?_; clear hS; intro _ hS) | (refine hS.st 6 rfl rfl rfl ?_; clear hS; intro _ hS) | (refine hS.st0 7 rfl rfl rfl ?_; clear hS; intro _ hS) | (refine hS.st 7 rfl rfl rfl ?_; clear hS; intro _ hS) | (refine bnd_mk (by decide) (by decide) ?_) | (refine so_i rfl ?_))
          have hk := hK _ hS.ext
          rw [← hF'] at hk
          have hs : sgn d = 1 := by unfold sgn; rw [if_neg (of_decide_eq_false t)]
          rw [hs, Int.one_mul] at hk
          exact hk
    · intro J hJ
      refine cond_split (fun h0 => hJ _ _ ⟨?_, hS⟩) (fun h0 => cond_split (fun h1 => hJ _ _ ⟨?_, hS⟩) (fun h1 => hJ _ _ ⟨?_, hS⟩))
      · have u : axis < 0 := of_decide_eq_true h0
        rw [decide_eq_false (by omega)]
        rfl
      · have u : axis > 1 := of_decide_eq_true h1
        rw [decide_eq_false (by omega)]
        rfl
      · have u : ¬ axis < 0 := of_decide_eq_false h0
        have u' : ¬ axis > 1 := of_decide_eq_false h1
        rw [decide_eq_true (by omega)]
        rfl
  · intro J hJ
    refine cond_split (fun h => hJ _ _ ⟨?_, hS⟩) (fun h => hJ _ _ ⟨?_, hS⟩)
    · have : a.right = false := by simpa using h
      simp [this]
    · have : a.right = true := by simpa using h
      simp [this]
end Go.Proofs.Ytfeplleoedlicaa
