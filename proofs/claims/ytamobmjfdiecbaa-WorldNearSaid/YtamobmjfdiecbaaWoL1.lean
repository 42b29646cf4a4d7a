/- WoL1: arguments that are entities; the law WorldFull comes out true for every input. Conditions: those of the law's arguments as they are read. -/
import Derived.Test.YtamobmjfdiecbaaWoH
import Derived.Test.YtamobmjfdiecbaaOpS
namespace Go.Proofs.Ytamobmjfdiecbaa
open Go Go.Sx Go.Fp
attribute [local irreducible] jn lv ld st nw asI asB asP asS asY asM asF asA asT lp rn ru rq cl dw dr bnd bn2 nz nn hd hr so eqW
attribute [local irreducible] callOk

def i8 : List Lf := [.int .i64, .int .i64, .int .i64, .int .i64, .int .i64, .int .i64, .int .i64, .int .i64]
def Ent.I (e : Ent) : Prop := I64 e.h ∧ I64 e.x ∧ I64 e.y ∧ I64 e.r ∧ I64 e.vx ∧ I64 e.vy ∧ I64 e.o ∧ I64 e.t

theorem ent_of {z : List Value} (h : FitsAll [.int .i64, .int .i64, .int .i64, .int .i64, .int .i64, .int .i64, .int .i64, .int .i64] z) : ∃ e : Ent, z = e.cells ∧ e.I := by
  obtain ⟨_, _, rfl, ⟨x0, rfl, h0⟩, _, _, rfl, ⟨x1, rfl, h1⟩, _, _, rfl, ⟨x2, rfl, h2⟩, _, _, rfl, ⟨x3, rfl, h3⟩, _, _, rfl, ⟨x4, rfl, h4⟩, _, _, rfl, ⟨x5, rfl, h5⟩, _, _, rfl, ⟨x6, rfl, h6⟩, _, _, rfl, ⟨x7, rfl, h7⟩, rfl⟩ := h
  exact ⟨⟨x0, x1, x2, x3, x4, x5, x6, x7⟩, rfl, i64_of h0, i64_of h1, i64_of h2, i64_of h3, i64_of h4, i64_of h5, i64_of h6, i64_of h7⟩

theorem and63 (x : Int) : 0 ≤ Go.bits .and .i64 x 63 ∧ Go.bits .and .i64 x 63 ≤ 63 := by
  have h : ∀ a : Nat, a ≤ 63 → 0 ≤ IntKind.wrap .i64 (a : Int) ∧ IntKind.wrap .i64 (a : Int) ≤ 63 := fun a ha => by
    rw [wr64 (by omega) (by omega)]; omega
  simp only [Go.bits]
  refine h _ ?_
  rw [BitVec.toNat_and]
  refine Nat.le_trans Nat.and_le_right ?_
  decide

/-- a world in which the first places are taken by one and the same -/
def fullS (e : Ent) (i : Nat) : List Spot := (List.range i).map (fun j => spn Spot.zero j e) ++ List.replicate (64 - i) Spot.zero

theorem fullS_lt {e : Ent} {i j : Nat} (h : j < i) : (fullS e i)[j]? = some (spn Spot.zero j e) := by
  unfold fullS
  rw [List.getElem?_append_left (by simpa using h)]
  simp [h]
theorem fullS_ge {e : Ent} {i j : Nat} (h : i ≤ j) (hj : j < 64) : (fullS e i)[j]? = some Spot.zero := by
  unfold fullS
  rw [List.getElem?_append_right (by simpa using h)]
  have e1 : ((List.range i).map (fun j => spn Spot.zero j e)).length = i := by simp
  rw [e1, List.getElem?_replicate, if_pos (by omega)]
theorem fullS_len {e : Ent} {i : Nat} (h : i ≤ 64) : (fullS e i).length = 64 := by
  unfold fullS
  simp
  omega
theorem fullS_set {e : Ent} {i : Nat} (h : i < 64) : (fullS e i).set i (spn Spot.zero i e) = fullS e (i + 1) := by
  apply List.ext_getElem?
  intro j
  by_cases hj : j = i
  · subst hj
    rw [List.getElem?_set_self (by rw [fullS_len (by omega)]; exact h), fullS_lt (by omega)]
  · rw [List.getElem?_set_ne (fun e => hj e.symm)]
    rcases Nat.lt_or_gt_of_ne hj with hj' | hj'
    · rw [fullS_lt hj', fullS_lt (by omega)]
    · by_cases h64 : j < 64
      · rw [fullS_ge (by omega) h64, fullS_ge (by omega) h64]
      · rw [List.getElem?_eq_none (by rw [fullS_len (by omega)]; omega), List.getElem?_eq_none (by rw [fullS_len (by omega)]; omega)]
theorem fullS_free {e : Ent} {i : Nat} (h : i < 64) : IsFree (fullS e i) i Spot.zero :=
  ⟨fullS_ge (Nat.le_refl _) h, rfl, fun j s hj hs => by rw [fullS_lt hj] at hs; cases hs; rfl⟩

theorem worldFull_law (W : World) (z0 : List Value) (F0 : FitsAll [.int .i64, .int .i64, .int .i64, .int .i64, .int .i64, .int .i64, .int .i64, .int .i64] z0) (k : Int) (_hk : (Lit.int .i64 k).wf = true) :
    cl Try.prog 3 #[.agg z0.toArray, .int .i64 k] W fun v w' => v = .bool true ∧ Ext no W w' := by
  obtain ⟨e, rfl, _⟩ := ent_of F0
  have hk := and63 k
  obtain ⟨kk, hkk⟩ : ∃ n : Nat, Go.bits .and .i64 k 63 = (n : Int) := ⟨(Go.bits .and .i64 k 63).toNat, by omega⟩
  rw [hkk] at hk
  apply F3_calls
  unfold F3
  have hS := St.start W
  refine hS.nw fun r1 w1 hS => ?_
  refine wawake_k fun w2 hx2 => asB_i rfl ?_
  refine wnew_k fun w3 F r g hw hx3 hF hr => asP_i rfl ?_
  have hP := Pw.start (hS.to hx2) hx3 hw hF hr
  refine hP.ld8 0 rfl (hP.right (e := e) fun w4 hP => asI_i rfl (lv_i ?_))
  refine jn_of (fun s w' => s = [.bool (e.rightE != 0)] ∧ w4 = w') ?_ ?_
  · rintro _ _ ⟨rfl, rfl⟩
    refine asB_i rfl (cond_split (fun h => ?_) (fun h => ?_))
    · exact jn_mk (cond_t rfl (asB_i rfl ⟨rfl, hP.st.ext⟩))
    have hE : e.rightE = 0 := by simpa using h
    refine lv_i (lv_i ?_)
    refine lp_mk (fun i : Nat => [.int .i64 (if kk < i then 64 + (kk : Int) else 0), .int .i64 (i : Int)])
      (fun m i w' => m = 64 - i ∧ i ≤ 64 ∧ ∃ F B D, Pw W w' [(r1, e.cells, 27)] F r g (fullS e i) B D (1024 * i)) 64 0 rfl ⟨rfl, Nat.zero_le _, F, [], [], hP⟩ ?_
    clear hP
    rintro _ i w5 ⟨rfl, hi, F5, B5, D5, hP⟩ J hJ
    refine asI_i rfl (asI_i rfl (cond_split (fun h => ?_) (fun h => ?_)))
    · have hi64 : i < 64 := by
        have := of_decide_eq_true h
        omega
      refine jn_of (fun s w' => s = [.int .i64 (if kk < i + 1 then 64 + (kk : Int) else 0)] ∧ ∃ F B D, Pw W w' [(r1, e.cells, 27)] F r g (fullS e (i + 1)) B D (1024 * (i + 1))) ?_ ?_
      · rintro _ w6 ⟨rfl, hP⟩
        refine asI_i rfl (lv_i ?_)
        have ei : IntKind.wrap .i64 ((i : Int) + 1) = ((i + 1 : Nat) : Int) := by rw [wr64 (by omega) (by omega)]; omega
        rw [ei]
        exact hJ (64 - (i + 1)) (i + 1) w6 (by omega) ⟨rfl, hi64, hP⟩
      · intro J2 hJ2
        refine hP.ld8 0 rfl (hP.spawn (e := e) (by omega) (fun w' _ he => absurd hE he) (fun w' _ _ hf => absurd (hf i _ (fullS_free hi64).1) (by decide)) ?_)
        intro w6 F6 i' s _ hf hP6
        obtain ⟨rfl, rfl⟩ := hf.unique (fullS_free hi64)
        rw [fullS_set hi64] at hP6
        refine asT_i rfl rfl (asI_i rfl (asI_i rfl (lv_i (lv_i (cond_f rfl ?_)))))
        rw [hkk]
        refine cond_split (fun h => lv_i (hJ2 _ _ ⟨?_, F6, _, _, hP6⟩)) (fun h => hJ2 _ _ ⟨?_, F6, _, _, hP6⟩)
        · have : i' = kk := by
            have : (i' : Int) = (kk : Int) := by simpa using h
            omega
          subst this
          rw [if_pos (by omega)]
          congr 2
        · have : ¬ i' = kk := by
            intro hh
            subst hh
            simp at h
          congr 2
          by_cases hlt : kk < i'
          · rw [if_pos hlt, if_pos (by omega)]
          · rw [if_neg hlt, if_neg (by omega)]
    · have hi64 : i = 64 := by
        have := of_decide_eq_false h
        omega
      subst hi64
      rw [if_pos (by omega)]
      have nofree : ∀ (j : Nat) s, (fullS e 64)[j]? = some s → free s = false := by
        intro j s hs
        have hj := (List.getElem?_eq_some_iff.1 hs).1
        rw [fullS_len (by omega)] at hj
        rw [fullS_lt hj] at hs
        cases hs
        rfl
      have notfree : ∀ {i s}, ¬ IsFree (fullS e 64) i s := fun hf => by
        have := nofree _ _ hf.1
        rw [hf.2.1] at this
        cases this
      refine hP.ld8 0 rfl (hP.spawn (e := e) (by omega) (fun w' _ he => absurd hE he) ?_ (fun w' F' i s _ hf => absurd hf notfree))
      intro w6 hP _ _
      refine asT_i rfl rfl (asI_i rfl (asI_i rfl (lv_i (lv_i ?_))))
      have hsk : (fullS e 64)[kk]? = some (spn Spot.zero kk e) := fullS_lt (by omega)
      have hat : atI (fullS e 64) (64 + (kk : Int)) = some kk := by
        unfold atI
        rw [if_neg (by omega)]
        have e1 : (64 + (kk : Int)).toNat % 64 = kk := by omega
        rw [e1, hsk]
        simp only
        rw [if_pos ⟨rfl, by show ((0 : Int) + 1) * 64 + (kk : Int) = _; omega⟩]
      refine hP.kill (by omega) (fun hn => by rw [hat] at hn; cases hn) ?_
      intro w7 i s ha _ _ hs _ _ hP
      rw [hat] at ha
      cases ha
      rw [hsk] at hs
      cases hs
      refine asI_i rfl (lv_i ?_)
      have hkl : kk < (fullS e 64).length := by rw [fullS_len (by omega)]; omega
      have hfr : IsFree ((fullS e 64).set kk ⟨(spn Spot.zero kk e).gen, false, (spn Spot.zero kk e).e⟩) kk ⟨(spn Spot.zero kk e).gen, false, (spn Spot.zero kk e).e⟩ := by
        refine ⟨List.getElem?_set_self hkl, rfl, fun j s hj hs => ?_⟩
        rw [List.getElem?_set_ne (by omega)] at hs
        exact nofree j s hs
      refine hP.ld8 0 rfl (hP.spawn (e := e) (by omega) (fun w' _ he => absurd hE he) (fun w' _ _ hf => absurd (hf kk _ hfr.1) (by rw [hfr.2.1]; decide)) ?_)
      intro w8 F8 i s _ hf hP
      obtain ⟨rfl, rfl⟩ := hf.unique hfr
      refine asT_i rfl rfl (asI_i rfl (asI_i rfl (lv_i (lv_i ?_))))
      have nofree2 : ∀ (j : Nat) s, (((fullS e 64).set i ⟨(spn Spot.zero i e).gen, false, (spn Spot.zero i e).e⟩).set i (spn ⟨(spn Spot.zero i e).gen, false, (spn Spot.zero i e).e⟩ i e))[j]? = some s → free s = false := by
        intro j s hs
        rw [List.set_set] at hs
        by_cases hj : j = i
        · subst hj
          rw [List.getElem?_set_self hkl] at hs
          cases hs
          rfl
        · rw [List.getElem?_set_ne (fun e => hj e.symm)] at hs
          exact nofree j s hs
      refine hP.ld8 0 rfl (hP.spawn (e := e) (by omega) (fun w' _ he => absurd hE he) ?_ (fun w' F' j s _ hf => ?_))
      · intro w9 hP _ _
        refine asT_i rfl rfl (asI_i rfl (asI_i rfl (lv_i (lv_i (jn_mk ?_)))))
        have hh : ((spn Spot.zero i e).gen + 1) * 64 + (i : Int) = 128 + (i : Int) := by show ((0 : Int) + 1 + 1) * 64 + (i : Int) = _; omega
        simp only [hh]
        have em : ∀ a : Nat, Int.tmod ((64 * a + i : Nat) : Int) 64 = ((i : Nat) : Int) := fun a => by
          have : Int.tmod ((64 * a + i : Nat) : Int) 64 = (((64 * a + i) % 64 : Nat) : Int) := rfl
          rw [this]
          omega
        have e1 : Int.tmod (128 + (i : Int)) 64 = (i : Int) := by have := em 2; rw [show ((64 * 2 + i : Nat) : Int) = 128 + (i : Int) by omega] at this; exact this
        have e2 : Int.tmod (64 + (i : Int)) 64 = (i : Int) := by have := em 1; rw [show ((64 * 1 + i : Nat) : Int) = 64 + (i : Int) by omega] at this; exact this
        rw [e1, e2]
        exact cond_t rfl (cond_t rfl (cond_t rfl (cond_t (by simp <;> omega) (cond_t (by simp) (asB_i rfl ⟨rfl, hP.st.ext⟩)))))
      · have := nofree2 _ _ hf.1
        rw [hf.2.1] at this
        cases this
  · intro J hJ
    exact cond_f rfl (cond_f rfl (hJ _ _ ⟨rfl, rfl⟩))
end Go.Proofs.Ytamobmjfdiecbaa
