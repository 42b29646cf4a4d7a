/- PhP: how far a box is pushed by the program. Conditions: those of each theorem, on its arguments. -/
import Derived.Test.YtamobmjfdiecbaaDoorMgPhysicsApart4
import Derived.Shelf.SlIterI.Nil
import Derived.Shelf.SortM.Plain
import Derived.Shelf.SortM.SortNone
import Derived.Ground.GgzProg
import Derived.Ground.SlgmProg
import Derived.Test.YtamobmjfdiecbaaDoorChecked
import Derived.Test.YtamobmjfdiecbaaDoorMgPhysicsApart3
import Derived.Test.YtamobmjfdiecbaaDoorProg
import Derived.Test.YtamobmjfdiecbaaDoorMgPhysicsApart1
import Derived.KernelRfl
namespace Go.Proofs.YtamobmjfdiecbaaDoor
open Go Go.Sx
attribute [local irreducible] jn lv ld st nw asI asB asP asS asY asM asF asA asT lp rn ru rq cl dw dr bnd bn2 nz nn hd hr so eqW

def stepC (s : Int) (a : Bx) (k : Bool) (b : Bx) (way : Int) : Prop := 0 < s * (b.at k - a.at k) ∧ 0 ≤ gap a b k ∧ gap a b k < way ∧ gap a b (!k) < 0
instance (s : Int) (a : Bx) (k : Bool) (b : Bx) (way : Int) : Decidable (stepC s a k b way) := by unfold stepC; infer_instance
def stepP (s : Int) (a : Bx) (k : Bool) (b : Bx) (i : Int) (p : Int × Int) : Int × Int := if stepC s a k b p.1 then (gap a b k, i) else p
def pushF (s : Int) (a : Bx) (k : Bool) : List Bx → Int → Int × Int → Int × Int
  | [], _, p => p
  | b :: bs, i, p => pushF s a k bs (i + 1) (stepP s a k b i p)
def sgn (d : Int) : Int := if d < 0 then -1 else 1
def mgn (d : Int) : Int := if d < 0 then -d else d
def pushV (a : Bx) (axis d : Int) (bs : List Bx) : Int × Int × Int :=
  if allR bs = true ∧ a.right = true then
    if (axis = 0 ∨ axis = 1) ∧ within d = true then
      (sgn d * (pushF (sgn d) a (axis != 0) bs 0 (mgn d, -1)).1, (pushF (sgn d) a (axis != 0) bs 0 (mgn d, -1)).2, 0)
    else (0, 0, 1)
  else (0, 0, 60)

theorem sgn_mag (d : Int) : sgn d * d = mgn d := by unfold sgn mgn; split <;> omega

theorem drop_cons {bs : List Bx} {i : Nat} {b : Bx} (hb : bs[i]? = some b) : bs.drop i = b :: bs.drop (i + 1) := by
  have h := List.getElem?_eq_some_iff.1 hb
  rw [List.drop_eq_getElem_cons h.1, h.2]

theorem stepP_le {s : Int} {a b : Bx} {k : Bool} {i : Int} {p : Int × Int} (h : 0 ≤ p.1) : 0 ≤ (stepP s a k b i p).1 ∧ (stepP s a k b i p).1 ≤ p.1 := by
  unfold stepP
  split
  · rename_i hc
    exact ⟨hc.2.1, Int.le_of_lt hc.2.2.1⟩
  · exact ⟨h, Int.le_refl _⟩

theorem gap_I {a b : Bx} (ha : a.right = true) (hb : b.right = true) (k : Bool) : -9223372036854775808 ≤ gap a b k ∧ gap a b k ≤ 9223372036854775807 := by
  have := gap_le ha hb k
  omega

theorem side_I {a b : Bx} (ha : a.right = true) (hb : b.right = true) (k : Bool) (d : Int) : IntKind.wrap .i64 (sgn d * IntKind.wrap .i64 (b.at k - a.at k)) = sgn d * (b.at k - a.at k) := by
  have h1 := right_at ha k
  have h2 := right_at hb k
  have hs : sgn d = -1 ∨ sgn d = 1 := by unfold sgn; split <;> simp
  rw [wr64 (n := b.at k - a.at k) (by omega) (by omega)]
  rcases hs with h | h <;> rw [h] <;> exact wr64 (by omega) (by omega)

theorem push_k {a : Bx} {axis d : Int} {w : World} {l : Option Addr} {n c : Nat} {bs : List Bx} (hL : Reads w l (fl bs)) (hn : bs.length = n) (hm : n ≤ 1125899906842624) {K : Value → World → Prop}
    (hK : ∀ w', Ext no w w' → K (t3 (pushV a axis d bs)) w') : cl Tryd.prog 42 #[a.v, .int .i64 axis, .int .i64 d, .slice l n c] w K := by
  subst hn
  apply F42_calls
  unfold F42
  have hS := St.start w
  (refine St.nw hS ?_; clear hS; intro ra _ hS)
  repeat (first | (refine asI_i rfl ?_) | (refine asB_i rfl ?_) | (refine asP_i rfl ?_) | (refine asS_i rfl ?_) | (refine asY_i rfl ?_) | (refine asM_i rfl ?_) | (refine asA_i rfl rfl ?_) | (refine asT_i rfl rfl ?_) | (refine lv_i ?_) | (refine St.dw hS ?_; clear hS; intro _ hS _) | (refine hS.ld0 0 rfl rfl ?_) | (refine hS.ld 0 rfl rfl ?_) | (refine hS.ld0 1 rfl rfl ?_) | (refine hS.ld 1 rfl rfl ?_) | (refine hS.ld0 2 rfl rfl ?_) | (refine hS.ld 2 rfl rfl ?_) | (refine hS.ld0 3 rfl rfl ?_) | (refine hS.ld 3 rfl rfl ?_) | (refine hS.ld0 4 rfl rfl ?_) | (refine hS.ld 4 rfl rfl ?_) | (refine hS.ld0 5 rfl rfl ?_) | (refine hS.ld 5 rfl rfl ?_) | (refine hS.ld0 6 rfl rfl ?_) | (refine hS.ld 6 rfl rfl ?_) | (refine hS.ld0 7 rfl rfl ?_) | (refine hS.ld 7 rfl rfl ?_) | (refine hS.hd0 0 rfl rfl ?_) | (refine hS.hd 0 rfl rfl ?_) | (refine hS.hd0 1 rfl rfl ?_) | (refine hS.hd 1 rfl rfl ?_) | (refine hS.hd0 2 rfl rfl ?_) | (refine hS.hd 2 rfl rfl ?_) | (refine hS.hd0 3 rfl rfl ?_) | (refine hS.hd 3 rfl rfl ?_) | (refine hS.hd0 4 rfl rfl ?_) | (refine hS.hd 4 rfl rfl ?_) | (refine hS.hd0 5 rfl rfl ?_) | (refine hS.hd 5 rfl rfl ?_) | (refine hS.hd0 6 rfl rfl ?_) | (refine hS.hd 6 rfl rfl ?_) | (refine hS.hd0 7 rfl rfl ?_) | (refine hS.hd 7 rfl rfl ?_) | (refine hS.st0 0 rfl rfl rfl ?_; clear hS; intro _ hS) | (refine hS.st 0 rfl rfl rfl ?_; clear hS; intro _ hS) | (refine hS.st0 1 rfl rfl rfl ?_; clear hS; intro _ hS) | (refine hS.st 1 rfl rfl rfl ?_; clear hS; intro _ hS) | (refine hS.st0 2 rfl rfl rfl ?_; clear hS; intro _ hS) | (refine hS.st 2 rfl rfl rfl ?_; clear hS; intro _ hS) | (refine hS.st0 3 rfl rfl rfl ?_; clear hS; intro _ hS) | (refine hS.st 3 rfl rfl rfl ?_; clear hS; intro _ hS) | (refine hS.st0 4 rfl rfl rfl ?_; clear hS; intro _ hS) | (refine hS.st 4 rfl rfl rfl ?_; clear hS; intro _ hS) | (refine hS.st0 5 rfl rfl rfl ?_; clear hS; intro _ hS) | (refine hS.st 5 rfl rfl rfl ?_; clear hS; intro _ hS) | (refine hS.st0 6 rfl rfl rfl ?_; clear hS; intro _ hS) | (refine hS.st 6 rfl rfl rfl ?_; clear hS; intro _ hS) | (refine hS.st0 7 rfl rfl rfl ?_; clear hS; intro _ hS) | (refine hS.st 7 rfl rfl rfl ?_; clear hS; intro _ hS) | (refine bnd_mk (by decide) (by decide) ?_) | (refine so_i rfl ?_))
  refine all_k (Reads.no hS.ext hL) rfl hm ?_
  intro w1 x
  replace hS := hS.to x
  repeat (first | (refine asI_i rfl ?_) | (refine asB_i rfl ?_) | (refine asP_i rfl ?_) | (refine asS_i rfl ?_) | (refine asY_i rfl ?_) | (refine asM_i rfl ?_) | (refine asA_i rfl rfl ?_) | (refine asT_i rfl rfl ?_) | (refine lv_i ?_) | (refine St.dw hS ?_; clear hS; intro _ hS _) | (refine hS.ld0 0 rfl rfl ?_) | (refine hS.ld 0 rfl rfl ?_) | (refine hS.ld0 1 rfl rfl ?_) | (refine hS.ld 1 rfl rfl ?_) | (refine hS.ld0 2 rfl rfl ?_) | (refine hS.ld 2 rfl rfl ?_) | (refine hS.ld0 3 rfl rfl ?_) | (refine hS.ld 3 rfl rfl ?_) | (refine hS.ld0 4 rfl rfl ?_) | (refine hS.ld 4 rfl rfl ?_) | (refine hS.ld0 5 rfl rfl ?_) | (refine hS.ld 5 rfl rfl ?_) | (refine hS.ld0 6 rfl rfl ?_) | (refine hS.ld 6 rfl rfl ?_) | (refine hS.ld0 7 rfl rfl ?_) | (refine hS.ld 7 rfl rfl ?_) | (refine hS.hd0 0 rfl rfl ?_) | (refine hS.hd 0 rfl rfl ?_) | (refine hS.hd0 1 rfl rfl ?_) | (refine hS.hd 1 rfl rfl ?_) | (refine hS.hd0 2 rfl rfl ?_) | (refine hS.hd 2 rfl rfl ?_) | (refine hS.hd0 3 rfl rfl ?_) | (refine hS.hd 3 rfl rfl ?_) | (refine hS.hd0 4 rfl rfl ?_) | (refine hS.hd 4 rfl rfl ?_) | (refine hS.hd0 5 rfl rfl ?_) | (refine hS.hd 5 rfl rfl ?_) | (refine hS.hd0 6 rfl rfl ?_) | (refine hS.hd 6 rfl rfl ?_) | (refine hS.hd0 7 rfl rfl ?_) | (refine hS.hd 7 rfl rfl ?_) | (refine hS.st0 0 rfl rfl rfl ?_; clear hS; intro _ hS) | (refine hS.st 0 rfl rfl rfl ?_; clear hS; intro _ hS) | (refine hS.st0 1 rfl rfl rfl ?_; clear hS; intro _ hS) | (refine hS.st 1 rfl rfl rfl ?_; clear hS; intro _ hS) | (refine hS.st0 2 rfl rfl rfl ?_; clear hS; intro _ hS) | (refine hS.st 2 rfl rfl rfl ?_; clear hS; intro _ hS) | (refine hS.st0 3 rfl rfl rfl ?_; clear hS; intro _ hS) | (refine hS.st 3 rfl rfl rfl ?_; clear hS; intro _ hS) | (refine hS.st0 4 rfl rfl rfl ?_; clear hS; intro _ hS) | (refine hS.st 4 rfl rfl rfl ?_; clear hS; intro _ hS) | (refine hS.st0 5 rfl rfl rfl ?_; clear hS; intro _ hS) | (refine hS.st 5 rfl rfl rfl ?_; clear hS; intro _ hS) | (refine hS.st0 6 rfl rfl rfl ?_; clear hS; intro _ hS) | (refine hS.st 6 rfl rfl rfl ?_; clear hS; intro _ hS) | (refine hS.st0 7 rfl rfl rfl ?_; clear hS; intro _ hS) | (refine hS.st 7 rfl rfl rfl ?_; clear hS; intro _ hS) | (refine bnd_mk (by decide) (by decide) ?_) | (refine so_i rfl ?_))
  refine cond_split (fun h => ?_) (fun h => ?_)
  · repeat (first | (refine asI_i rfl ?_) | (refine asB_i rfl ?_) | (refine asP_i rfl ?_) | (refine asS_i rfl ?_) | (refine asY_i rfl ?_) | (refine asM_i rfl ?_) | (refine asA_i rfl rfl ?_) | (refine asT_i rfl rfl ?_) | (refine lv_i ?_) | (refine St.dw hS ?_; clear hS; intro _ hS _) | (refine hS.ld0 0 rfl rfl ?_) | (refine hS.ld 0 rfl rfl ?_) | (refine hS.ld0 1 rfl rfl ?_) | (refine hS.ld 1 rfl rfl ?_) | (refine hS.ld0 2 rfl rfl ?_) | (refine hS.ld 2 rfl rfl ?_) | (refine hS.ld0 3 rfl rfl ?_) | (refine hS.ld 3 rfl rfl ?_) | (refine hS.ld0 4 rfl rfl ?_) | (refine hS.ld 4 rfl rfl ?_) | (refine hS.ld0 5 rfl rfl ?_) | (refine hS.ld 5 rfl rfl ?_) | (refine hS.ld0 6 rfl rfl ?_) | (refine hS.ld 6 rfl rfl ?_) | (refine hS.ld0 7 rfl rfl ?_) | (refine hS.ld 7 rfl rfl ?_) | (refine hS.hd0 0 rfl rfl ?_) | (refine hS.hd 0 rfl rfl ?_) | (refine hS.hd0 1 rfl rfl ?_) | (refine hS.hd 1 rfl rfl ?_) | (refine hS.hd0 2 rfl rfl ?_) | (refine hS.hd 2 rfl rfl ?_) | (refine hS.hd0 3 rfl rfl ?_) | (refine hS.hd 3 rfl rfl ?_) | (refine hS.hd0 4 rfl rfl ?_) | (refine hS.hd 4 rfl rfl ?_) | (refine hS.hd0 5 rfl rfl ?_) | (refine hS.hd 5 rfl rfl ?_) | (refine hS.hd0 6 rfl rfl ?_) | (refine hS.hd 6 rfl rfl ?_) | (refine hS.hd0 7 rfl rfl ?_) | (refine hS.hd 7 rfl rfl ?_) | (refine hS.st0 0 rfl rfl rfl ?_; clear hS; intro _ hS) | (refine hS.st 0 rfl rfl rfl ?_; clear hS; intro _ hS) | (refine hS.st0 1 rfl rfl rfl ?_; clear hS; intro _ hS) | (refine hS.st 1 rfl rfl rfl ?_; clear hS; intro _ hS) | (refine hS.st0 2 rfl rfl rfl ?_; clear hS; intro _ hS) | (refine hS.st 2 rfl rfl rfl ?_; clear hS; intro _ hS) | (refine hS.st0 3 rfl rfl rfl ?_; clear hS; intro _ hS) | (refine hS.st 3 rfl rfl rfl ?_; clear hS; intro _ hS) | (refine hS.st0 4 rfl rfl rfl ?_; clear hS; intro _ hS) | (refine hS.st 4 rfl rfl rfl ?_; clear hS; intro _ hS) | (refine hS.st0 5 rfl rfl rfl ?_; clear hS; intro _ hS) | (refine hS.st 5 rfl rfl rfl ?_; clear hS; intro _ hS) | (refine hS.st0 6 rfl rfl rfl ?_; clear hS; intro _ hS) | (refine hS.st 6 rfl rfl rfl ?_; clear hS; intro _ hS) | (refine hS.st0 7 rfl rfl rfl ?_; clear hS; intro _ hS) | (refine hS.st 7 rfl rfl rfl ?_; clear hS; intro _ hS) | (refine bnd_mk (by decide) (by decide) ?_) | (refine so_i rfl ?_))
    have hk := hK _ hS.ext
    have e : pushV a axis d bs = (0, 0, 60) := by
      unfold pushV
      rw [if_neg]
      rintro ⟨h1, h2⟩
      rw [h1, h2] at h
      cases h
    rw [e] at hk
    exact hk
  have hR : allR bs = true ∧ a.right = true := by simpa using h
  refine jn_of (fun s w' => s = [.bool (!(decide (axis = 0 ∨ axis = 1) && within d))] ∧ St w w' [(ra, a.cells, 38)]) ?_ ?_
  · clear hS
    rintro _ w2 ⟨rfl, hS⟩
    refine asB_i rfl (cond_split (fun h => ?_) (fun h => ?_))
    · repeat (first | (refine asI_i rfl ?_) | (refine asB_i rfl ?_) | (refine asP_i rfl ?_) | (refine asS_i rfl ?_) | (refine asY_i rfl ?_) | (refine asM_i rfl ?_) | (refine asA_i rfl rfl ?_) | (refine asT_i rfl rfl ?_) | (refine lv_i ?_) | (refine St.dw hS ?_; clear hS; intro _ hS _) | (refine hS.ld0 0 rfl rfl ?_) | (refine hS.ld 0 rfl rfl ?_) | (refine hS.ld0 1 rfl rfl ?_) | (refine hS.ld 1 rfl rfl ?_) | (refine hS.ld0 2 rfl rfl ?_) | (refine hS.ld 2 rfl rfl ?_) | (refine hS.ld0 3 rfl rfl ?_) | (refine hS.ld 3 rfl rfl ?_) | (refine hS.ld0 4 rfl rfl ?_) | (refine hS.ld 4 rfl rfl ?_) | (refine hS.ld0 5 rfl rfl ?_) | (refine hS.ld 5 rfl rfl ?_) | (refine hS.ld0 6 rfl rfl ?_) | (refine hS.ld 6 rfl rfl ?_) | (refine hS.ld0 7 rfl rfl ?_) | (refine hS.ld 7 rfl rfl ?_) | (refine hS.hd0 0 rfl rfl ?_) | (refine hS.hd 0 rfl rfl ?_) | (refine hS.hd0 1 rfl rfl ?_) | (refine hS.hd 1 rfl rfl ?_) | (refine hS.hd0 2 rfl rfl ?_) | (refine hS.hd 2 rfl rfl ?_) | (refine hS.hd0 3 rfl rfl ?_) | (refine hS.hd 3 rfl rfl ?_) | (refine hS.hd0 4 rfl rfl ?_) | (refine hS.hd 4 rfl rfl ?_) | (refine hS.hd0 5 rfl rfl ?_) | (refine hS.hd 5 rfl rfl ?_) | (refine hS.hd0 6 rfl rfl ?_) | (refine hS.hd 6 rfl rfl ?_) | (refine hS.hd0 7 rfl rfl ?_) | (refine hS.hd 7 rfl rfl ?_) | (refine hS.st0 0 rfl rfl rfl ?_; clear hS; intro _ hS) | (refine hS.st 0 rfl rfl rfl ?_; clear hS; intro _ hS) | (refine hS.st0 1 rfl rfl rfl ?_; clear hS; intro _ hS) | (refine hS.st 1 rfl rfl rfl ?_; clear hS; intro _ hS) | (refine hS.st0 2 rfl rfl rfl ?_; clear hS; intro _ hS) | (refine hS.st 2 rfl rfl rfl ?_; clear hS; intro _ hS) | (refine hS.st0 3 rfl rfl rfl ?_; clear hS; intro _ hS) | (refine hS.st 3 rfl rfl rfl ?_; clear hS; intro _ hS) | (refine hS.st0 4 rfl rfl rfl ?_; clear hS; intro _ hS) | (refine hS.st 4 rfl rfl rfl ?_; clear hS; intro _ hS) | (refine hS.st0 5 rfl rfl rfl ?_; clear hS; intro _ hS) | (refine hS.st 5 rfl rfl rfl ?_; clear hS; intro _ hS) | (refine hS.st0 6 rfl rfl rfl ?_; clear hS; intro _ hS) | (refine hS.st 6 rfl rfl rfl ?_; clear hS; intro _ hS) | (refine hS.st0 7 rfl rfl rfl ?_; clear hS; intro _ hS) | (refine hS.st 7 rfl rfl rfl ?_; clear hS; intro _ hS) | (refine bnd_mk (by decide) (by decide) ?_) | (refine so_i rfl ?_))
      have hk := hK _ hS.ext
      have e : pushV a axis d bs = (0, 0, 1) := by
        unfold pushV
        rw [if_pos hR, if_neg]
        rintro ⟨h1, h2⟩
        rw [h2, decide_eq_true h1] at h
        cases h
      rw [e] at hk
      exact hk
    have hA : (axis = 0 ∨ axis = 1) ∧ within d = true := by
      rw [Bool.not_eq_false', Bool.and_eq_true] at h
      exact ⟨of_decide_eq_true h.1, h.2⟩
    have hd := within_iff.1 hA.2
    have hv : pushV a axis d bs = (sgn d * (pushF (sgn d) a (axis != 0) bs 0 (mgn d, -1)).1, (pushF (sgn d) a (axis != 0) bs 0 (mgn d, -1)).2, 0) := by
      unfold pushV
      rw [if_pos hR, if_pos hA]
    rw [hv] at hK
    repeat (first | (refine asI_i rfl ?_) | (refine asB_i rfl ?_) | (refine asP_i rfl ?_) | (refine asS_i rfl ?_) | (refine asY_i rfl ?_) | (refine asM_i rfl ?_) | (refine asA_i rfl rfl ?_) | (refine asT_i rfl rfl ?_) | (refine lv_i ?_))
    refine jn_of (fun s w' => s = [.int .i64 (sgn d)] ∧ St w w' [(ra, a.cells, 38)]) ?_ ?_
    · clear hS
      rintro _ w3 ⟨rfl, hS⟩
      repeat (first | (refine asI_i rfl ?_) | (refine asB_i rfl ?_) | (refine asP_i rfl ?_) | (refine asS_i rfl ?_) | (refine asY_i rfl ?_) | (refine asM_i rfl ?_) | (refine asA_i rfl rfl ?_) | (refine asT_i rfl rfl ?_) | (refine lv_i ?_))
      have hmag : 0 ≤ mgn d ∧ mgn d ≤ 1152921504606846976 := by unfold mgn; split <;> omega
      rw [sgn_mag, wr64 (n := mgn d) (by omega) (by omega)]
      refine lp_mk (fun s : (Int × Int) × Nat => [.int .i64 s.1.1, .int .i64 s.1.2, .int .i64 (s.2 : Int)])
        (fun m s w' => m = bs.length - s.2 ∧ s.2 ≤ bs.length ∧ St w w' [(ra, a.cells, 38)] ∧ 0 ≤ s.1.1 ∧ s.1.1 ≤ mgn d ∧ pushF (sgn d) a (axis != 0) (bs.drop s.2) s.2 s.1 = pushF (sgn d) a (axis != 0) bs 0 (mgn d, -1)) bs.length ((mgn d, -1), 0) rfl
        ⟨rfl, Nat.zero_le _, hS, hmag.1, Int.le_refl _, rfl⟩ ?_
      clear hS
      rintro _ ⟨p, i⟩ w4 ⟨rfl, hi, hS, hp0, hp1, hF⟩ J hJ
      simp only at hi hp0 hp1 hF hJ ⊢
      repeat (first | (refine asI_i rfl ?_) | (refine asB_i rfl ?_) | (refine asP_i rfl ?_) | (refine asS_i rfl ?_) | (refine asY_i rfl ?_) | (refine asM_i rfl ?_) | (refine asA_i rfl rfl ?_) | (refine asT_i rfl rfl ?_) | (refine lv_i ?_))
      refine cond_split (fun hc => ?_) (fun hc => ?_)
      · have hil : i < bs.length := by simpa using hc
        have hb : bs[i]? = some bs[i] := List.getElem?_eq_getElem hil
        generalize bs[i] = b at hb
        have hbr : b.right = true := by
          have := hR.1
          rw [allR, List.all_eq_true] at this
          exact this b (List.mem_of_getElem? hb)
        refine jn_of (fun s w' => s = [.int .i64 (stepP (sgn d) a (axis != 0) b i p).1, .int .i64 (stepP (sgn d) a (axis != 0) b i p).2] ∧ St w w' [(ra, a.cells, 38)]) ?_ ?_
        · clear hS
          rintro _ w5 ⟨rfl, hS⟩
          repeat (first | (refine asI_i rfl ?_) | (refine asB_i rfl ?_) | (refine asP_i rfl ?_) | (refine asS_i rfl ?_) | (refine asY_i rfl ?_) | (refine asM_i rfl ?_) | (refine asA_i rfl rfl ?_) | (refine asT_i rfl rfl ?_) | (refine lv_i ?_))
          have ei : IntKind.wrap .i64 ((i : Int) + 1) = ((i + 1 : Nat) : Int) := by rw [wr64 (by omega) (by omega)]; omega
          rw [ei]
          have hle := stepP_le (s := sgn d) (a := a) (b := b) (k := axis != 0) (i := i) hp0
          refine hJ (bs.length - (i + 1)) (stepP (sgn d) a (axis != 0) b i p, i + 1) w5 (by omega) ⟨rfl, by simp only; omega, hS, hle.1, Int.le_trans hle.2 hp1, ?_⟩
          rw [← hF, drop_cons hb]
          simp only [pushF]
          congr 1
        · intro J2 hJ2
          refine bx_at (Reads.no hS.ext hL) rfl hb ?_
          intro ad c0 c1 c2
          refine ld_mk c0 (asI_i rfl (ld_mk c1 (asI_i rfl (ld_mk c2 (asI_i rfl ?_)))))
          (refine St.nw hS ?_; clear hS; intro rb _ hS)
          repeat (first | (refine gaps_k (a := a) (b := b) hR.2 hbr ?_; intro _ x; replace hS := hS.to x; clear x) | (refine asI_i rfl ?_) | (refine asB_i rfl ?_) | (refine asP_i rfl ?_) | (refine asS_i rfl ?_) | (refine asY_i rfl ?_) | (refine asM_i rfl ?_) | (refine asA_i rfl rfl ?_) | (refine asT_i rfl rfl ?_) | (refine lv_i ?_) | (refine St.dw hS ?_; clear hS; intro _ hS _) | (refine hS.ld0 0 rfl rfl ?_) | (refine hS.ld 0 rfl rfl ?_) | (refine hS.ld0 1 rfl rfl ?_) | (refine hS.ld 1 rfl rfl ?_) | (refine hS.ld0 2 rfl rfl ?_) | (refine hS.ld 2 rfl rfl ?_) | (refine hS.ld0 3 rfl rfl ?_) | (refine hS.ld 3 rfl rfl ?_) | (refine hS.ld0 4 rfl rfl ?_) | (refine hS.ld 4 rfl rfl ?_) | (refine hS.ld0 5 rfl rfl ?_) | (refine hS.ld 5 rfl rfl ?_) | (refine hS.ld0 6 rfl rfl ?_) | (refine hS.ld 6 rfl rfl ?_) | (refine hS.ld0 7 rfl rfl ?_) | (refine hS.ld 7 rfl rfl ?_) | (refine hS.hd0 0 rfl rfl ?_) | (refine hS.hd 0 rfl rfl ?_) | (refine hS.hd0 1 rfl rfl ?_) | (refine hS.hd 1 rfl rfl ?_) | (refine hS.hd0 2 rfl rfl ?_) | (refine hS.hd 2 rfl rfl ?_) | (refine hS.hd0 3 rfl rfl ?_) | (refine hS.hd 3 rfl rfl ?_) | (refine hS.hd0 4 rfl rfl ?_) | (refine hS.hd 4 rfl rfl ?_) | (refine hS.hd0 5 rfl rfl ?_) | (refine hS.hd 5 rfl rfl ?_) | (refine hS.hd0 6 rfl rfl ?_) | (refine hS.hd 6 rfl rfl ?_) | (refine hS.hd0 7 rfl rfl ?_) | (refine hS.hd 7 rfl rfl ?_) | (refine hS.st0 0 rfl rfl rfl ?_; clear hS; intro _ hS) | (refine hS.st 0 rfl rfl rfl ?_; clear hS; intro _ hS) | (refine hS.st0 1 rfl rfl rfl ?_; clear hS; intro _ hS) | (refine hS.st 1 rfl rfl rfl ?_; clear hS; intro _ hS) | (refine hS.st0 2 rfl rfl rfl ?_; clear hS; intro _ hS) | (refine hS.st 2 rfl rfl rfl ?_; clear hS; intro _ hS) | (refine hS.st0 3 rfl rfl rfl ?_; clear hS; intro _ hS) | (refine hS.st 3 rfl rfl rfl ?_; clear hS; intro _ hS) | (refine hS.st0 4 rfl rfl rfl ?_; clear hS; intro _ hS) | (refine hS.st 4 rfl rfl rfl ?_; clear hS; intro _ hS) | (refine hS.st0 5 rfl rfl rfl ?_; clear hS; intro _ hS) | (refine hS.st 5 rfl rfl rfl ?_; clear hS; intro _ hS) | (refine hS.st0 6 rfl rfl rfl ?_; clear hS; intro _ hS) | (refine hS.st 6 rfl rfl rfl ?_; clear hS; intro _ hS) | (refine hS.st0 7 rfl rfl rfl ?_; clear hS; intro _ hS) | (refine hS.st 7 rfl rfl rfl ?_; clear hS; intro _ hS) | (refine bnd_mk (by decide) (by decide) ?_) | (refine so_i rfl ?_))
          (refine St.nw hS ?_; clear hS; intro rg _ hS)
          repeat (first | (refine gaps_k (a := a) (b := b) hR.2 hbr ?_; intro _ x; replace hS := hS.to x; clear x) | (refine asI_i rfl ?_) | (refine asB_i rfl ?_) | (refine asP_i rfl ?_) | (refine asS_i rfl ?_) | (refine asY_i rfl ?_) | (refine asM_i rfl ?_) | (refine asA_i rfl rfl ?_) | (refine asT_i rfl rfl ?_) | (refine lv_i ?_) | (refine St.dw hS ?_; clear hS; intro _ hS _) | (refine hS.ld0 0 rfl rfl ?_) | (refine hS.ld 0 rfl rfl ?_) | (refine hS.ld0 1 rfl rfl ?_) | (refine hS.ld 1 rfl rfl ?_) | (refine hS.ld0 2 rfl rfl ?_) | (refine hS.ld 2 rfl rfl ?_) | (refine hS.ld0 3 rfl rfl ?_) | (refine hS.ld 3 rfl rfl ?_) | (refine hS.ld0 4 rfl rfl ?_) | (refine hS.ld 4 rfl rfl ?_) | (refine hS.ld0 5 rfl rfl ?_) | (refine hS.ld 5 rfl rfl ?_) | (refine hS.ld0 6 rfl rfl ?_) | (refine hS.ld 6 rfl rfl ?_) | (refine hS.ld0 7 rfl rfl ?_) | (refine hS.ld 7 rfl rfl ?_) | (refine hS.hd0 0 rfl rfl ?_) | (refine hS.hd 0 rfl rfl ?_) | (refine hS.hd0 1 rfl rfl ?_) | (refine hS.hd 1 rfl rfl ?_) | (refine hS.hd0 2 rfl rfl ?_) | (refine hS.hd 2 rfl rfl ?_) | (refine hS.hd0 3 rfl rfl ?_) | (refine hS.hd 3 rfl rfl ?_) | (refine hS.hd0 4 rfl rfl ?_) | (refine hS.hd 4 rfl rfl ?_) | (refine hS.hd0 5 rfl rfl ?_) | (refine hS.hd 5 rfl rfl ?_) | (refine hS.hd0 6 rfl rfl ?_) | (refine hS.hd 6 rfl rfl ?_) | (refine hS.hd0 7 rfl rfl ?_) | (refine hS.hd 7 rfl rfl ?_) | (refine hS.st0 0 rfl rfl rfl ?_; clear hS; intro _ hS) | (refine hS.st 0 rfl rfl rfl ?_; clear hS; intro _ hS) | (refine hS.st0 1 rfl rfl rfl ?_; clear hS; intro _ hS) | (refine hS.st 1 rfl rfl rfl ?_; clear hS; intro _ hS) | (refine hS.st0 2 rfl rfl rfl ?_; clear hS; intro _ hS) | (refine hS.st 2 rfl rfl rfl ?_; clear hS; intro _ hS) | (refine hS.st0 3 rfl rfl rfl ?_; clear hS; intro _ hS) | (refine hS.st 3 rfl rfl rfl ?_; clear hS; intro _ hS) | (refine hS.st0 4 rfl rfl rfl ?_; clear hS; intro _ hS) | (refine hS.st 4 rfl rfl rfl ?_; clear hS; intro _ hS) | (refine hS.st0 5 rfl rfl rfl ?_; clear hS; intro _ hS) | (refine hS.st 5 rfl rfl rfl ?_; clear hS; intro _ hS) | (refine hS.st0 6 rfl rfl rfl ?_; clear hS; intro _ hS) | (refine hS.st 6 rfl rfl rfl ?_; clear hS; intro _ hS) | (refine hS.st0 7 rfl rfl rfl ?_; clear hS; intro _ hS) | (refine hS.st 7 rfl rfl rfl ?_; clear hS; intro _ hS) | (refine bnd_mk (by decide) (by decide) ?_) | (refine so_i rfl ?_))
          rcases hA.1 with rfl | rfl
          · repeat (first | (refine parts_k (x := b.x) (y := b.y) ?_; intro _ x; replace hS := hS.to x; clear x) | (refine parts_k (x := a.x) (y := a.y) ?_; intro _ x; replace hS := hS.to x; clear x) | (refine asI_i rfl ?_) | (refine asB_i rfl ?_) | (refine asP_i rfl ?_) | (refine asS_i rfl ?_) | (refine asY_i rfl ?_) | (refine asM_i rfl ?_) | (refine asA_i rfl rfl ?_) | (refine asT_i rfl rfl ?_) | (refine lv_i ?_) | (refine St.dw hS ?_; clear hS; intro _ hS _) | (refine hS.ld0 0 rfl rfl ?_) | (refine hS.ld 0 rfl rfl ?_) | (refine hS.ld0 1 rfl rfl ?_) | (refine hS.ld 1 rfl rfl ?_) | (refine hS.ld0 2 rfl rfl ?_) | (refine hS.ld 2 rfl rfl ?_) | (refine hS.ld0 3 rfl rfl ?_) | (refine hS.ld 3 rfl rfl ?_) | (refine hS.ld0 4 rfl rfl ?_) | (refine hS.ld 4 rfl rfl ?_) | (refine hS.ld0 5 rfl rfl ?_) | (refine hS.ld 5 rfl rfl ?_) | (refine hS.ld0 6 rfl rfl ?_) | (refine hS.ld 6 rfl rfl ?_) | (refine hS.ld0 7 rfl rfl ?_) | (refine hS.ld 7 rfl rfl ?_) | (refine hS.hd0 0 rfl rfl ?_) | (refine hS.hd 0 rfl rfl ?_) | (refine hS.hd0 1 rfl rfl ?_) | (refine hS.hd 1 rfl rfl ?_) | (refine hS.hd0 2 rfl rfl ?_) | (refine hS.hd 2 rfl rfl ?_) | (refine hS.hd0 3 rfl rfl ?_) | (refine hS.hd 3 rfl rfl ?_) | (refine hS.hd0 4 rfl rfl ?_) | (refine hS.hd 4 rfl rfl ?_) | (refine hS.hd0 5 rfl rfl ?_) | (refine hS.hd 5 rfl rfl ?_) | (refine hS.hd0 6 rfl rfl ?_) | (refine hS.hd 6 rfl rfl ?_) | (refine hS.hd0 7 rfl rfl ?_) | (refine hS.hd 7 rfl rfl ?_) | (refine hS.st0 0 rfl rfl rfl ?_; clear hS; intro _ hS) | (refine hS.st 0 rfl rfl rfl ?_; clear hS; intro _ hS) | (refine hS.st0 1 rfl rfl rfl ?_; clear hS; intro _ hS) | (refine hS.st 1 rfl rfl rfl ?_; clear hS; intro _ hS) | (refine hS.st0 2 rfl rfl rfl ?_; clear hS; intro _ hS) | (refine hS.st 2 rfl rfl rfl ?_; clear hS; intro _ hS) | (refine hS.st0 3 rfl rfl rfl ?_; clear hS; intro _ hS) | (refine hS.st 3 rfl rfl rfl ?_; clear hS; intro _ hS) | (refine hS.st0 4 rfl rfl rfl ?_; clear hS; intro _ hS) | (refine hS.st 4 rfl rfl rfl ?_; clear hS; intro _ hS) | (refine hS.st0 5 rfl rfl rfl ?_; clear hS; intro _ hS) | (refine hS.st 5 rfl rfl rfl ?_; clear hS; intro _ hS) | (refine hS.st0 6 rfl rfl rfl ?_; clear hS; intro _ hS) | (refine hS.st 6 rfl rfl rfl ?_; clear hS; intro _ hS) | (refine hS.st0 7 rfl rfl rfl ?_; clear hS; intro _ hS) | (refine hS.st 7 rfl rfl rfl ?_; clear hS; intro _ hS) | (refine bnd_mk (by decide) (by decide) ?_) | (refine so_i rfl ?_))
            have hside : IntKind.wrap .i64 (sgn d * IntKind.wrap .i64 (b.x - a.x)) = sgn d * (b.at false - a.at false) := side_I hR.2 hbr false d
            rw [hside]
            refine jn_of (fun s w' => s = [.bool (decide (stepC (sgn d) a false b p.1))] ∧ St w w' [(rg, [.int .i64 (gap a b false), .int .i64 (gap a b true)], 97), (rb, b.cells, 38), (ra, a.cells, 38)]) ?_ ?_
            · clear hS
              rintro _ w6 ⟨rfl, hS⟩
              refine asB_i rfl (cond_split (fun hst => ?_) (fun hst => ?_))
              · have hst' := of_decide_eq_true hst
                repeat (first | (refine asI_i rfl ?_) | (refine asB_i rfl ?_) | (refine asP_i rfl ?_) | (refine asS_i rfl ?_) | (refine asY_i rfl ?_) | (refine asM_i rfl ?_) | (refine asA_i rfl rfl ?_) | (refine asT_i rfl rfl ?_) | (refine lv_i ?_) | (refine St.dw hS ?_; clear hS; intro _ hS _) | (refine hS.ld0 0 rfl rfl ?_) | (refine hS.ld 0 rfl rfl ?_) | (refine hS.ld0 1 rfl rfl ?_) | (refine hS.ld 1 rfl rfl ?_) | (refine hS.ld0 2 rfl rfl ?_) | (refine hS.ld 2 rfl rfl ?_) | (refine hS.ld0 3 rfl rfl ?_) | (refine hS.ld 3 rfl rfl ?_) | (refine hS.ld0 4 rfl rfl ?_) | (refine hS.ld 4 rfl rfl ?_) | (refine hS.ld0 5 rfl rfl ?_) | (refine hS.ld 5 rfl rfl ?_) | (refine hS.ld0 6 rfl rfl ?_) | (refine hS.ld 6 rfl rfl ?_) | (refine hS.ld0 7 rfl rfl ?_) | (refine hS.ld 7 rfl rfl ?_) | (refine hS.hd0 0 rfl rfl ?_) | (refine hS.hd 0 rfl rfl ?_) | (refine hS.hd0 1 rfl rfl ?_) | (refine hS.hd 1 rfl rfl ?_) | (refine hS.hd0 2 rfl rfl ?_) | (refine hS.hd 2 rfl rfl ?_) | (refine hS.hd0 3 rfl rfl ?_) | (refine hS.hd 3 rfl rfl ?_) | (refine hS.hd0 4 rfl rfl ?_) | (refine hS.hd 4 rfl rfl ?_) | (refine hS.hd0 5 rfl rfl ?_) | (refine hS.hd 5 rfl rfl ?_) | (refine hS.hd0 6 rfl rfl ?_) | (refine hS.hd 6 rfl rfl ?_) | (refine hS.hd0 7 rfl rfl ?_) | (refine hS.hd 7 rfl rfl ?_) | (refine hS.st0 0 rfl rfl rfl ?_; clear hS; intro _ hS) | (refine hS.st 0 rfl rfl rfl ?_; clear hS; intro _ hS) | (refine hS.st0 1 rfl rfl rfl ?_; clear hS; intro _ hS) | (refine hS.st 1 rfl rfl rfl ?_; clear hS; intro _ hS) | (refine hS.st0 2 rfl rfl rfl ?_; clear hS; intro _ hS) | (refine hS.st 2 rfl rfl rfl ?_; clear hS; intro _ hS) | (refine hS.st0 3 rfl rfl rfl ?_; clear hS; intro _ hS) | (refine hS.st 3 rfl rfl rfl ?_; clear hS; intro _ hS) | (refine hS.st0 4 rfl rfl rfl ?_; clear hS; intro _ hS) | (refine hS.st 4 rfl rfl rfl ?_; clear hS; intro _ hS) | (refine hS.st0 5 rfl rfl rfl ?_; clear hS; intro _ hS) | (refine hS.st 5 rfl rfl rfl ?_; clear hS; intro _ hS) | (refine hS.st0 6 rfl rfl rfl ?_; clear hS; intro _ hS) | (refine hS.st 6 rfl rfl rfl ?_; clear hS; intro _ hS) | (refine hS.st0 7 rfl rfl rfl ?_; clear hS; intro _ hS) | (refine hS.st 7 rfl rfl rfl ?_; clear hS; intro _ hS) | (refine bnd_mk (by decide) (by decide) ?_) | (refine so_i rfl ?_))
                refine hJ2 _ _ ⟨?_, hS.tail.tail⟩
                show _ = [Value.int .i64 (stepP (sgn d) a false b i p).1, Value.int .i64 (stepP (sgn d) a false b i p).2]
                unfold stepP
                rw [if_pos hst']
              · have hst' := of_decide_eq_false hst
                refine hJ2 _ _ ⟨?_, hS.tail.tail⟩
                show _ = [Value.int .i64 (stepP (sgn d) a false b i p).1, Value.int .i64 (stepP (sgn d) a false b i p).2]
                unfold stepP
                rw [if_neg hst']
            · intro J3 hJ3
              refine cond_split (fun t1 => ?_) (fun t1 => hJ3 _ _ ⟨?_, hS⟩)
              · repeat (first | (refine asI_i rfl ?_) | (refine asB_i rfl ?_) | (refine asP_i rfl ?_) | (refine asS_i rfl ?_) | (refine asY_i rfl ?_) | (refine asM_i rfl ?_) | (refine asA_i rfl rfl ?_) | (refine asT_i rfl rfl ?_) | (refine lv_i ?_) | (refine St.dw hS ?_; clear hS; intro _ hS _) | (refine hS.ld0 0 rfl rfl ?_) | (refine hS.ld 0 rfl rfl ?_) | (refine hS.ld0 1 rfl rfl ?_) | (refine hS.ld 1 rfl rfl ?_) | (refine hS.ld0 2 rfl rfl ?_) | (refine hS.ld 2 rfl rfl ?_) | (refine hS.ld0 3 rfl rfl ?_) | (refine hS.ld 3 rfl rfl ?_) | (refine hS.ld0 4 rfl rfl ?_) | (refine hS.ld 4 rfl rfl ?_) | (refine hS.ld0 5 rfl rfl ?_) | (refine hS.ld 5 rfl rfl ?_) | (refine hS.ld0 6 rfl rfl ?_) | (refine hS.ld 6 rfl rfl ?_) | (refine hS.ld0 7 rfl rfl ?_) | (refine hS.ld 7 rfl rfl ?_) | (refine hS.hd0 0 rfl rfl ?_) | (refine hS.hd 0 rfl rfl ?_) | (refine hS.hd0 1 rfl rfl ?_) | (refine hS.hd 1 rfl rfl ?_) | (refine hS.hd0 2 rfl rfl ?_) | (refine hS.hd 2 rfl rfl ?_) | (refine hS.hd0 3 rfl rfl ?_) | (refine hS.hd 3 rfl rfl ?_) | (refine hS.hd0 4 rfl rfl ?_) | (refine hS.hd 4 rfl rfl ?_) | (refine hS.hd0 5 rfl rfl ?_) | (refine hS.hd 5 rfl rfl ?_) | (refine hS.hd0 6 rfl rfl ?_) | (refine hS.hd 6 rfl rfl ?_) | (refine hS.hd0 7 rfl rfl ?_) | (refine hS.hd 7 rfl rfl ?_) | (refine hS.st0 0 rfl rfl rfl ?_; clear hS; intro _ hS) | (refine hS.st 0 rfl rfl rfl ?_; clear hS; intro _ hS) | (refine hS.st0 1 rfl rfl rfl ?_; clear hS; intro _ hS) | (refine hS.st 1 rfl rfl rfl ?_; clear hS; intro _ hS) | (refine hS.st0 2 rfl rfl rfl ?_; clear hS; intro _ hS) | (refine hS.st 2 rfl rfl rfl ?_; clear hS; intro _ hS) | (refine hS.st0 3 rfl rfl rfl ?_; clear hS; intro _ hS) | (refine hS.st 3 rfl rfl rfl ?_; clear hS; intro _ hS) | (refine hS.st0 4 rfl rfl rfl ?_; clear hS; intro _ hS) | (refine hS.st 4 rfl rfl rfl ?_; clear hS; intro _ hS) | (refine hS.st0 5 rfl rfl rfl ?_; clear hS; intro _ hS) | (refine hS.st 5 rfl rfl rfl ?_; clear hS; intro _ hS) | (refine hS.st0 6 rfl rfl rfl ?_; clear hS; intro _ hS) | (refine hS.st 6 rfl rfl rfl ?_; clear hS; intro _ hS) | (refine hS.st0 7 rfl rfl rfl ?_; clear hS; intro _ hS) | (refine hS.st 7 rfl rfl rfl ?_; clear hS; intro _ hS) | (refine bnd_mk (by decide) (by decide) ?_) | (refine so_i rfl ?_))
                refine cond_split (fun t2 => ?_) (fun t2 => hJ3 _ _ ⟨?_, hS⟩)
                · repeat (first | (refine asI_i rfl ?_) | (refine asB_i rfl ?_) | (refine asP_i rfl ?_) | (refine asS_i rfl ?_) | (refine asY_i rfl ?_) | (refine asM_i rfl ?_) | (refine asA_i rfl rfl ?_) | (refine asT_i rfl rfl ?_) | (refine lv_i ?_) | (refine St.dw hS ?_; clear hS; intro _ hS _) | (refine hS.ld0 0 rfl rfl ?_) | (refine hS.ld 0 rfl rfl ?_) | (refine hS.ld0 1 rfl rfl ?_) | (refine hS.ld 1 rfl rfl ?_) | (refine hS.ld0 2 rfl rfl ?_) | (refine hS.ld 2 rfl rfl ?_) | (refine hS.ld0 3 rfl rfl ?_) | (refine hS.ld 3 rfl rfl ?_) | (refine hS.ld0 4 rfl rfl ?_) | (refine hS.ld 4 rfl rfl ?_) | (refine hS.ld0 5 rfl rfl ?_) | (refine hS.ld 5 rfl rfl ?_) | (refine hS.ld0 6 rfl rfl ?_) | (refine hS.ld 6 rfl rfl ?_) | (refine hS.ld0 7 rfl rfl ?_) | (refine hS.ld 7 rfl rfl ?_) | (refine hS.hd0 0 rfl rfl ?_) | (refine hS.hd 0 rfl rfl ?_) | (refine hS.hd0 1 rfl rfl ?_) | (refine hS.hd 1 rfl rfl ?_) | (refine hS.hd0 2 rfl rfl ?_) | (refine hS.hd 2 rfl rfl ?_) | (refine hS.hd0 3 rfl rfl ?_) | (refine hS.hd 3 rfl rfl ?_) | (refine hS.hd0 4 rfl rfl ?_) | (refine hS.hd 4 rfl rfl ?_) | (refine hS.hd0 5 rfl rfl ?_) | (refine hS.hd 5 rfl rfl ?_) | (refine hS.hd0 6 rfl rfl ?_) | (refine hS.hd 6 rfl rfl ?_) | (refine hS.hd0 7 rfl rfl ?_) | (refine hS.hd 7 rfl rfl ?_) | (refine hS.st0 0 rfl rfl rfl ?_; clear hS; intro _ hS) | (refine hS.st 0 rfl rfl rfl ?_; clear hS; intro _ hS) | (refine hS.st0 1 rfl rfl rfl ?_; clear hS; intro _ hS) | (refine hS.st 1 rfl rfl rfl ?_; clear hS; intro _ hS) | (refine hS.st0 2 rfl rfl rfl ?_; clear hS; intro _ hS) | (refine hS.st 2 rfl rfl rfl ?_; clear hS; intro _ hS) | (refine hS.st0 3 rfl rfl rfl ?_; clear hS; intro _ hS) | (refine hS.st 3 rfl rfl rfl ?_; clear hS; intro _ hS) | (refine hS.st0 4 rfl rfl rfl ?_; clear hS; intro _ hS) | (refine hS.st 4 rfl rfl rfl ?_; clear hS; intro _ hS) | (refine hS.st0 5 rfl rfl rfl ?_; clear hS; intro _ hS) | (refine hS.st 5 rfl rfl rfl ?_; clear hS; intro _ hS) | (refine hS.st0 6 rfl rfl rfl ?_; clear hS; intro _ hS) | (refine hS.st 6 rfl rfl rfl ?_; clear hS; intro _ hS) | (refine hS.st0 7 rfl rfl rfl ?_; clear hS; intro _ hS) | (refine hS.st 7 rfl rfl rfl ?_; clear hS; intro _ hS) | (refine bnd_mk (by decide) (by decide) ?_) | (refine so_i rfl ?_))
                  refine cond_split (fun t3 => ?_) (fun t3 => hJ3 _ _ ⟨?_, hS⟩)
                  · repeat (first | (refine asI_i rfl ?_) | (refine asB_i rfl ?_) | (refine asP_i rfl ?_) | (refine asS_i rfl ?_) | (refine asY_i rfl ?_) | (refine asM_i rfl ?_) | (refine asA_i rfl rfl ?_) | (refine asT_i rfl rfl ?_) | (refine lv_i ?_) | (refine St.dw hS ?_; clear hS; intro _ hS _) | (refine hS.ld0 0 rfl rfl ?_) | (refine hS.ld 0 rfl rfl ?_) | (refine hS.ld0 1 rfl rfl ?_) | (refine hS.ld 1 rfl rfl ?_) | (refine hS.ld0 2 rfl rfl ?_) | (refine hS.ld 2 rfl rfl ?_) | (refine hS.ld0 3 rfl rfl ?_) | (refine hS.ld 3 rfl rfl ?_) | (refine hS.ld0 4 rfl rfl ?_) | (refine hS.ld 4 rfl rfl ?_) | (refine hS.ld0 5 rfl rfl ?_) | (refine hS.ld 5 rfl rfl ?_) | (refine hS.ld0 6 rfl rfl ?_) | (refine hS.ld 6 rfl rfl ?_) | (refine hS.ld0 7 rfl rfl ?_) | (refine hS.ld 7 rfl rfl ?_) | (refine hS.hd0 0 rfl rfl ?_) | (refine hS.hd 0 rfl rfl ?_) | (refine hS.hd0 1 rfl rfl ?_) | (refine hS.hd 1 rfl rfl ?_) | (refine hS.hd0 2 rfl rfl ?_) | (refine hS.hd 2 rfl rfl ?_) | (refine hS.hd0 3 rfl rfl ?_) | (refine hS.hd 3 rfl rfl ?_) | (refine hS.hd0 4 rfl rfl ?_) | (refine hS.hd 4 rfl rfl ?_) | (refine hS.hd0 5 rfl rfl ?_) | (refine hS.hd 5 rfl rfl ?_) | (refine hS.hd0 6 rfl rfl ?_) | (refine hS.hd 6 rfl rfl ?_) | (refine hS.hd0 7 rfl rfl ?_) | (refine hS.hd 7 rfl rfl ?_) | (refine hS.st0 0 rfl rfl rfl ?_; clear hS; intro _ hS) | (refine hS.st 0 rfl rfl rfl ?_; clear hS; intro _ hS) | (refine hS.st0 1 rfl rfl rfl ?_; clear hS; intro _ hS) | (refine hS.st 1 rfl rfl rfl ?_; clear hS; intro _ hS) | (refine hS.st0 2 rfl rfl rfl ?_; clear hS; intro _ hS) | (refine hS.st 2 rfl rfl rfl ?_; clear hS; intro _ hS) | (refine hS.st0 3 rfl rfl rfl ?_; clear hS; intro _ hS) | (refine hS.st 3 rfl rfl rfl ?_; clear hS; intro _ hS) | (refine hS.st0 4 rfl rfl rfl ?_; clear hS; intro _ hS) | (refine hS.st 4 rfl rfl rfl ?_; clear hS; intro _ hS) | (refine hS.st0 5 rfl rfl rfl ?_; clear hS; intro _ hS) | (refine hS.st 5 rfl rfl rfl ?_; clear hS; intro _ hS) | (refine hS.st0 6 rfl rfl rfl ?_; clear hS; intro _ hS) | (refine hS.st 6 rfl rfl rfl ?_; clear hS; intro _ hS) | (refine hS.st0 7 rfl rfl rfl ?_; clear hS; intro _ hS) | (refine hS.st 7 rfl rfl rfl ?_; clear hS; intro _ hS) | (refine bnd_mk (by decide) (by decide) ?_) | (refine so_i rfl ?_))
                    refine hJ3 _ _ ⟨?_, hS⟩
                    congr 2
                    refine Bool.eq_iff_iff.2 ⟨fun t4 => decide_eq_true ⟨of_decide_eq_true t1, of_decide_eq_true t2, of_decide_eq_true t3, of_decide_eq_true t4⟩, fun t4 => decide_eq_true (of_decide_eq_true t4).2.2.2⟩
                  · rw [decide_eq_false (fun hh : stepC (sgn d) a false b p.1 => of_decide_eq_false t3 hh.2.2.1)]
                · rw [decide_eq_false (fun hh : stepC (sgn d) a false b p.1 => of_decide_eq_false t2 hh.2.1)]
              · rw [decide_eq_false (fun hh : stepC (sgn d) a false b p.1 => of_decide_eq_false t1 hh.1)]
          · repeat (first | (refine parts_k (x := b.x) (y := b.y) ?_; intro _ x; replace hS := hS.to x; clear x) | (refine parts_k (x := a.x) (y := a.y) ?_; intro _ x; replace hS := hS.to x; clear x) | (refine asI_i rfl ?_) | (refine asB_i rfl ?_) | (refine asP_i rfl ?_) | (refine asS_i rfl ?_) | (refine asY_i rfl ?_) | (refine asM_i rfl ?_) | (refine asA_i rfl rfl ?_) | (refine asT_i rfl rfl ?_) | (refine lv_i ?_) | (refine St.dw hS ?_; clear hS; intro _ hS _) | (refine hS.ld0 0 rfl rfl ?_) | (refine hS.ld 0 rfl rfl ?_) | (refine hS.ld0 1 rfl rfl ?_) | (refine hS.ld 1 rfl rfl ?_) | (refine hS.ld0 2 rfl rfl ?_) | (refine hS.ld 2 rfl rfl ?_) | (refine hS.ld0 3 rfl rfl ?_) | (refine hS.ld 3 rfl rfl ?_) | (refine hS.ld0 4 rfl rfl ?_) | (refine hS.ld 4 rfl rfl ?_) | (refine hS.ld0 5 rfl rfl ?_) | (refine hS.ld 5 rfl rfl ?_) | (refine hS.ld0 6 rfl rfl ?_) | (refine hS.ld 6 rfl rfl ?_) | (refine hS.ld0 7 rfl rfl ?_) | (refine hS.ld 7 rfl rfl ?_) | (refine hS.hd0 0 rfl rfl ?_) | (refine hS.hd 0 rfl rfl ?_) | (refine hS.hd0 1 rfl rfl ?_) | (refine hS.hd 1 rfl rfl ?_) | (refine hS.hd0 2 rfl rfl ?_) | (refine hS.hd 2 rfl rfl ?_) | (refine hS.hd0 3 rfl rfl ?_) | (refine hS.hd 3 rfl rfl ?_) | (refine hS.hd0 4 rfl rfl ?_) | (refine hS.hd 4 rfl rfl ?_) | (refine hS.hd0 5 rfl rfl ?_) | (refine hS.hd 5 rfl rfl ?_) | (refine hS.hd0 6 rfl rfl ?_) | (refine hS.hd 6 rfl rfl ?_) | (refine hS.hd0 7 rfl rfl ?_) | (refine hS.hd 7 rfl rfl ?_) | (refine hS.st0 0 rfl rfl rfl ?_; clear hS; intro _ hS) | (refine hS.st 0 rfl rfl rfl ?_; clear hS; intro _ hS) | (refine hS.st0 1 rfl rfl rfl ?_; clear hS; intro _ hS) | (refine hS.st 1 rfl rfl rfl ?_; clear hS; intro _ hS) | (refine hS.st0 2 rfl rfl rfl ?_; clear hS; intro _ hS) | (refine hS.st 2 rfl rfl rfl ?_; clear hS; intro _ hS) | (refine hS.st0 3 rfl rfl rfl ?_; clear hS; intro _ hS) | (refine hS.st 3 rfl rfl rfl ?_; clear hS; intro _ hS) | (refine hS.st0 4 rfl rfl rfl ?_; clear hS; intro _ hS) | (refine hS.st 4 rfl rfl rfl ?_; clear hS; intro _ hS) | (refine hS.st0 5 rfl rfl rfl ?_; clear hS; intro _ hS) | (refine hS.st 5 rfl rfl rfl ?_; clear hS; intro _ hS) | (refine hS.st0 6 rfl rfl rfl ?_; clear hS; intro _ hS) | (refine hS.st 6 rfl rfl rfl ?_; clear hS; intro _ hS) | (refine hS.st0 7 rfl rfl rfl ?_; clear hS; intro _ hS) | (refine hS.st 7 rfl rfl rfl ?_; clear hS; intro _ hS) | (refine bnd_mk (by decide) (by decide) ?_) | (refine so_i rfl ?_))
            have hside : IntKind.wrap .i64 (sgn d * IntKind.wrap .i64 (b.y - a.y)) = sgn d * (b.at true - a.at true) := side_I hR.2 hbr true d
            rw [hside]
            refine jn_of (fun s w' => s = [.bool (decide (stepC (sgn d) a true b p.1))] ∧ St w w' [(rg, [.int .i64 (gap a b false), .int .i64 (gap a b true)], 97), (rb, b.cells, 38), (ra, a.cells, 38)]) ?_ ?_
            · clear hS
              rintro _ w6 ⟨rfl, hS⟩
              refine asB_i rfl (cond_split (fun hst => ?_) (fun hst => ?_))
              · have hst' := of_decide_eq_true hst
                repeat (first | (refine asI_i rfl ?_) | (refine asB_i rfl ?_) | (refine asP_i rfl ?_) | (refine asS_i rfl ?_) | (refine asY_i rfl ?_) | (refine asM_i rfl ?_) | (refine asA_i rfl rfl ?_) | (refine asT_i rfl rfl ?_) | (refine lv_i ?_) | (refine St.dw hS ?_; clear hS; intro _ hS _) | (refine hS.ld0 0 rfl rfl ?_) | (refine hS.ld 0 rfl rfl ?_) | (refine hS.ld0 1 rfl rfl ?_) | (refine hS.ld 1 rfl rfl ?_) | (refine hS.ld0 2 rfl rfl ?_) | (refine hS.ld 2 rfl rfl ?_) | (refine hS.ld0 3 rfl rfl ?_) | (refine hS.ld 3 rfl rfl ?_) | (refine hS.ld0 4 rfl rfl ?_) | (refine hS.ld 4 rfl rfl ?_) | (refine hS.ld0 5 rfl rfl ?_) | (refine hS.ld 5 rfl rfl ?_) | (refine hS.ld0 6 rfl rfl ?_) | (refine hS.ld 6 rfl rfl ?_) | (refine hS.ld0 7 rfl rfl ?_) | (refine hS.ld 7 rfl rfl ?_) | (refine hS.hd0 0 rfl rfl ?_) | (refine hS.hd 0 rfl rfl ?_) | (refine hS.hd0 1 rfl rfl ?_) | (refine hS.hd 1 rfl rfl ?_) | (refine hS.hd0 2 rfl rfl ?_) | (refine hS.hd 2 rfl rfl ?_) | (refine hS.hd0 3 rfl rfl ?_) | (refine hS.hd 3 rfl rfl ?_) | (refine hS.hd0 4 rfl rfl ?_) | (refine hS.hd 4 rfl rfl ?_) | (refine hS.hd0 5 rfl rfl ?_) | (refine hS.hd 5 rfl rfl ?_) | (refine hS.hd0 6 rfl rfl ?_) | (refine hS.hd 6 rfl rfl ?_) | (refine hS.hd0 7 rfl rfl ?_) | (refine hS.hd 7 rfl rfl ?_) | (refine hS.st0 0 rfl rfl rfl ?_; clear hS; intro _ hS) | (refine hS.st 0 rfl rfl rfl ?_; clear hS; intro _ hS) | (refine hS.st0 1 rfl rfl rfl ?_; clear hS; intro _ hS) | (refine hS.st 1 rfl rfl rfl ?_; clear hS; intro _ hS) | (refine hS.st0 2 rfl rfl rfl ?_; clear hS; intro _ hS) | (refine hS.st 2 rfl rfl rfl ?_; clear hS; intro _ hS) | (refine hS.st0 3 rfl rfl rfl ?_; clear hS; intro _ hS) | (refine hS.st 3 rfl rfl rfl ?_; clear hS; intro _ hS) | (refine hS.st0 4 rfl rfl rfl ?_; clear hS; intro _ hS) | (refine hS.st 4 rfl rfl rfl ?_; clear hS; intro _ hS) | (refine hS.st0 5 rfl rfl rfl ?_; clear hS; intro _ hS) | (refine hS.st 5 rfl rfl rfl ?_; clear hS; intro _ hS) | (refine hS.st0 6 rfl rfl rfl ?_; clear hS; intro _ hS) | (refine hS.st 6 rfl rfl rfl ?_; clear hS; intro _ hS) | (refine hS.st0 7 rfl rfl rfl ?_; clear hS; intro _ hS) | (refine hS.st 7 rfl rfl rfl ?_; clear hS; intro _ hS) | (refine bnd_mk (by decide) (by decide) ?_) | (refine so_i rfl ?_))
                refine hJ2 _ _ ⟨?_, hS.tail.tail⟩
                show _ = [Value.int .i64 (stepP (sgn d) a true b i p).1, Value.int .i64 (stepP (sgn d) a true b i p).2]
                unfold stepP
                rw [if_pos hst']
              · have hst' := of_decide_eq_false hst
                refine hJ2 _ _ ⟨?_, hS.tail.tail⟩
                show _ = [Value.int .i64 (stepP (sgn d) a true b i p).1, Value.int .i64 (stepP (sgn d) a true b i p).2]
                unfold stepP
                rw [if_neg hst']
            · intro J3 hJ3
              refine cond_split (fun t1 => ?_) (fun t1 => hJ3 _ _ ⟨?_, hS⟩)
              · repeat (first | (refine asI_i rfl ?_) | (refine asB_i rfl ?_) | (refine asP_i rfl ?_) | (refine asS_i rfl ?_) | (refine asY_i rfl ?_) | (refine asM_i rfl ?_) | (refine asA_i rfl rfl ?_) | (refine asT_i rfl rfl ?_) | (refine lv_i ?_) | (refine St.dw hS ?_; clear hS; intro _ hS _) | (refine hS.ld0 0 rfl rfl ?_) | (refine hS.ld 0 rfl rfl ?_) | (refine hS.ld0 1 rfl rfl ?_) | (refine hS.ld 1 rfl rfl ?_) | (refine hS.ld0 2 rfl rfl ?_) | (refine hS.ld 2 rfl rfl ?_) | (refine hS.ld0 3 rfl rfl ?_) | (refine hS.ld 3 rfl rfl ?_) | (refine hS.ld0 4 rfl rfl ?_) | (refine hS.ld 4 rfl rfl ?_) | (refine hS.ld0 5 rfl rfl ?_) | (refine hS.ld 5 rfl rfl ?_) | (refine hS.ld0 6 rfl rfl ?_) | (refine hS.ld 6 rfl rfl ?_) | (refine hS.ld0 7 rfl rfl ?_) | (refine hS.ld 7 rfl rfl ?_) | (refine hS.hd0 0 rfl rfl ?_) | (refine hS.hd 0 rfl rfl ?_) | (refine hS.hd0 1 rfl rfl ?_) | (refine hS.hd 1 rfl rfl ?_) | (refine hS.hd0 2 rfl rfl ?_) | (refine hS.hd 2 rfl rfl ?_) | (refine hS.hd0 3 rfl rfl ?_) | (refine hS.hd 3 rfl rfl ?_) | (refine hS.hd0 4 rfl rfl ?_) | (refine hS.hd 4 rfl rfl ?_) | (refine hS.hd0 5 rfl rfl ?_) | (refine hS.hd 5 rfl rfl ?_) | (refine hS.hd0 6 rfl rfl ?_) | (refine hS.hd 6 rfl rfl ?_) | (refine hS.hd0 7 rfl rfl ?_) | (refine hS.hd 7 rfl rfl ?_) | (refine hS.st0 0 rfl rfl rfl ?_; clear hS; intro _ hS) | (refine hS.st 0 rfl rfl rfl ?_; clear hS; intro _ hS) | (refine hS.st0 1 rfl rfl rfl ?_; clear hS; intro _ hS) | (refine hS.st 1 rfl rfl rfl ?_; clear hS; intro _ hS) | (refine hS.st0 2 rfl rfl rfl ?_; clear hS; intro _ hS) | (refine hS.st 2 rfl rfl rfl ?_; clear hS; intro _ hS) | (refine hS.st0 3 rfl rfl rfl ?_; clear hS; intro _ hS) | (refine hS.st 3 rfl rfl rfl ?_; clear hS; intro _ hS) | (refine hS.st0 4 rfl rfl rfl ?_; clear hS; intro _ hS) | (refine hS.st 4 rfl rfl rfl ?_; clear hS; intro _ hS) | (refine hS.st0 5 rfl rfl rfl ?_; clear hS; intro _ hS) | (refine hS.st 5 rfl rfl rfl ?_; clear hS; intro _ hS) | (refine hS.st0 6 rfl rfl rfl ?_; clear hS; intro _ hS) | (refine hS.st 6 rfl rfl rfl ?_; clear hS; intro _ hS) | (refine hS.st0 7 rfl rfl rfl ?_; clear hS; intro _ hS) | (refine hS.st 7 rfl rfl rfl ?_; clear hS; intro _ hS) | (refine bnd_mk (by decide) (by decide) ?_) | (refine so_i rfl ?_))
                refine cond_split (fun t2 => ?_) (fun t2 => hJ3 _ _ ⟨?_, hS⟩)
                · repeat (first | (refine asI_i rfl ?_) | (refine asB_i rfl ?_) | (refine asP_i rfl ?_) | (refine asS_i rfl ?_) | (refine asY_i rfl ?_) | (refine asM_i rfl ?_) | (refine asA_i rfl rfl ?_) | (refine asT_i rfl rfl ?_) | (refine lv_i ?_) | (refine St.dw hS ?_; clear hS; intro _ hS _) | (refine hS.ld0 0 rfl rfl ?_) | (refine hS.ld 0 rfl rfl ?_) | (refine hS.ld0 1 rfl rfl ?_) | (refine hS.ld 1 rfl rfl ?_) | (refine hS.ld0 2 rfl rfl ?_) | (refine hS.ld 2 rfl rfl ?_) | (refine hS.ld0 3 rfl rfl ?_) | (refine hS.ld 3 rfl rfl ?_) | (refine hS.ld0 4 rfl rfl ?_) | (refine hS.ld 4 rfl rfl ?_) | (refine hS.ld0 5 rfl rfl ?_) | (refine hS.ld 5 rfl rfl ?_) | (refine hS.ld0 6 rfl rfl ?_) | (refine hS.ld 6 rfl rfl ?_) | (refine hS.ld0 7 rfl rfl ?_) | (refine hS.ld 7 rfl rfl ?_) | (refine hS.hd0 0 rfl rfl ?_) | (refine hS.hd 0 rfl rfl ?_) | (refine hS.hd0 1 rfl rfl ?_) | (refine hS.hd 1 rfl rfl ?_) | (refine hS.hd0 2 rfl rfl ?_) | (refine hS.hd 2 rfl rfl ?_) | (refine hS.hd0 3 rfl rfl ?_) | (refine hS.hd 3 rfl rfl ?_) | (refine hS.hd0 4 rfl rfl ?_) | (refine hS.hd 4 rfl rfl ?_) | (refine hS.hd0 5 rfl rfl ?_) | (refine hS.hd 5 rfl rfl ?_) | (refine hS.hd0 6 rfl rfl ?_) | (refine hS.hd 6 rfl rfl ?_) | (refine hS.hd0 7 rfl rfl ?_) | (refine hS.hd 7 rfl rfl ?_) | (refine hS.st0 0 rfl rfl rfl ?_; clear hS; intro _ hS) | (refine hS.st 0 rfl rfl rfl ?_; clear hS; intro _ hS) | (refine hS.st0 1 rfl rfl rfl ?_; clear hS; intro _ hS) | (refine hS.st 1 rfl rfl rfl ?_; clear hS; intro _ hS) | (refine hS.st0 2 rfl rfl rfl ?_; clear hS; intro _ hS) | (refine hS.st 2 rfl rfl rfl ?_; clear hS; intro _ hS) | (refine hS.st0 3 rfl rfl rfl ?_; clear hS; intro _ hS) | (refine hS.st 3 rfl rfl rfl ?_; clear hS; intro _ hS) | (refine hS.st0 4 rfl rfl rfl ?_; clear hS; intro _ hS) | (refine hS.st 4 rfl rfl rfl ?_; clear hS; intro _ hS) | (refine hS.st0 5 rfl rfl rfl ?_; clear hS; intro _ hS) | (refine hS.st 5 rfl rfl rfl ?_; clear hS; intro _ hS) | (refine hS.st0 6 rfl rfl rfl ?_; clear hS; intro _ hS) | (refine hS.st 6 rfl rfl rfl ?_; clear hS; intro _ hS) | (refine hS.st0 7 rfl rfl rfl ?_; clear hS; intro _ hS) | (refine hS.st 7 rfl rfl rfl ?_; clear hS; intro _ hS) | (refine bnd_mk (by decide) (by decide) ?_) | (refine so_i rfl ?_))
                  refine cond_split (fun t3 => ?_) (fun t3 => hJ3 _ _ ⟨?_, hS⟩)
                  · repeat (first | (refine asI_i rfl ?_) | (refine asB_i rfl ?_) | (refine asP_i rfl ?_) | (refine asS_i rfl ?_) | (refine asY_i rfl ?_) | (refine asM_i rfl ?_) | (refine asA_i rfl rfl ?_) | (refine asT_i rfl rfl ?_) | (refine lv_i ?_) | (refine St.dw hS ?_; clear hS; intro _ hS _) | (refine hS.ld0 0 rfl rfl ?_) | (refine hS.ld 0 rfl rfl ?_) | (refine hS.ld0 1 rfl rfl ?_) | (refine hS.ld 1 rfl rfl ?_) | (refine hS.ld0 2 rfl rfl ?_) | (refine hS.ld 2 rfl rfl ?_) | (refine hS.ld0 3 rfl rfl ?_) | (refine hS.ld 3 rfl rfl ?_) | (refine hS.ld0 4 rfl rfl ?_) | (refine hS.ld 4 rfl rfl ?_) | (refine hS.ld0 5 rfl rfl ?_) | (refine hS.ld 5 rfl rfl ?_) | (refine hS.ld0 6 rfl rfl ?_) | (refine hS.ld 6 rfl rfl ?_) | (refine hS.ld0 7 rfl rfl ?_) | (refine hS.ld 7 rfl rfl ?_) | (refine hS.hd0 0 rfl rfl ?_) | (refine hS.hd 0 rfl rfl ?_) | (refine hS.hd0 1 rfl rfl ?_) | (refine hS.hd 1 rfl rfl ?_) | (refine hS.hd0 2 rfl rfl ?_) | (refine hS.hd 2 rfl rfl ?_) | (refine hS.hd0 3 rfl rfl ?_) | (refine hS.hd 3 rfl rfl ?_) | (refine hS.hd0 4 rfl rfl ?_) | (refine hS.hd 4 rfl rfl ?_) | (refine hS.hd0 5 rfl rfl ?_) | (refine hS.hd 5 rfl rfl ?_) | (refine hS.hd0 6 rfl rfl ?_) | (refine hS.hd 6 rfl rfl ?_) | (refine hS.hd0 7 rfl rfl ?_) | (refine hS.hd 7 rfl rfl ?_) | (refine hS.st0 0 rfl rfl rfl ?_; clear hS; intro _ hS) | (refine hS.st 0 rfl rfl rfl ?_; clear hS; intro _ hS) | (refine hS.st0 1 rfl rfl rfl ?_; clear hS; intro _ hS) | (refine hS.st 1 rfl rfl rfl ?_; clear hS; intro _ hS) | (refine hS.st0 2 rfl rfl rfl ?_; clear hS; intro _ hS) | (refine hS.st 2 rfl rfl rfl ?_; clear hS; intro _ hS) | (refine hS.st0 3 rfl rfl rfl ?_; clear hS; intro _ hS) | (refine hS.st 3 rfl rfl rfl ?_; clear hS; intro _ hS) | (refine hS.st0 4 rfl rfl rfl ?_; clear hS; intro _ hS) | (refine hS.st 4 rfl rfl rfl ?_; clear hS; intro _ hS) | (refine hS.st0 5 rfl rfl rfl ?_; clear hS; intro _ hS) | (refine hS.st 5 rfl rfl rfl ?_; clear hS; intro _ hS) | (refine hS.st0 6 rfl rfl rfl ?_; clear hS; intro _ hS) | (refine hS.st 6 rfl rfl rfl ?_; clear hS; intro _ hS) | (refine hS.st0 7 rfl rfl rfl ?_; clear hS; intro _ hS) | (refine hS.st 7 rfl rfl rfl ?_; clear hS; intro _ hS) | (refine bnd_mk (by decide) (by decide) ?_) | (refine so_i rfl ?_))
                    refine hJ3 _ _ ⟨?_, hS⟩
                    congr 2
                    refine Bool.eq_iff_iff.2 ⟨fun t4 => decide_eq_true ⟨of_decide_eq_true t1, of_decide_eq_true t2, of_decide_eq_true t3, of_decide_eq_true t4⟩, fun t4 => decide_eq_true (of_decide_eq_true t4).2.2.2⟩
                  · rw [decide_eq_false (fun hh : stepC (sgn d) a true b p.1 => of_decide_eq_false t3 hh.2.2.1)]
                · rw [decide_eq_false (fun hh : stepC (sgn d) a true b p.1 => of_decide_eq_false t2 hh.2.1)]
              · rw [decide_eq_false (fun hh : stepC (sgn d) a true b p.1 => of_decide_eq_false t1 hh.1)]
      · have hil : i = bs.length := by
          have : ¬ i < bs.length := by simpa using hc
          omega
        subst hil
        rw [List.drop_length] at hF
        have hF' : p = pushF (sgn d) a (axis != 0) bs 0 (mgn d, -1) := hF
        repeat (first | (refine asI_i rfl ?_) | (refine asB_i rfl ?_) | (refine asP_i rfl ?_) | (refine asS_i rfl ?_) | (refine asY_i rfl ?_) | (refine asM_i rfl ?_) | (refine asA_i rfl rfl ?_) | (refine asT_i rfl rfl ?_) | (refine lv_i ?_) | (refine St.dw hS ?_; clear hS; intro _ hS _) | (refine hS.ld0 0 rfl rfl ?_) | (refine hS.ld 0 rfl rfl ?_) | (refine hS.ld0 1 rfl rfl ?_) | (refine hS.ld 1 rfl rfl ?_) | (refine hS.ld0 2 rfl rfl ?_) | (refine hS.ld 2 rfl rfl ?_) | (refine hS.ld0 3 rfl rfl ?_) | (refine hS.ld 3 rfl rfl ?_) | (refine hS.ld0 4 rfl rfl ?_) | (refine hS.ld 4 rfl rfl ?_) | (refine hS.ld0 5 rfl rfl ?_) | (refine hS.ld 5 rfl rfl ?_) | (refine hS.ld0 6 rfl rfl ?_) | (refine hS.ld 6 rfl rfl ?_) | (refine hS.ld0 7 rfl rfl ?_) | (refine hS.ld 7 rfl rfl ?_) | (refine hS.hd0 0 rfl rfl ?_) | (refine hS.hd 0 rfl rfl ?_) | (refine hS.hd0 1 rfl rfl ?_) | (refine hS.hd 1 rfl rfl ?_) | (refine hS.hd0 2 rfl rfl ?_) | (refine hS.hd 2 rfl rfl ?_) | (refine hS.hd0 3 rfl rfl ?_) | (refine hS.hd 3 rfl rfl ?_) | (refine hS.hd0 4 rfl rfl ?_) | (refine hS.hd 4 rfl rfl ?_) | (refine hS.hd0 5 rfl rfl ?_) | (refine hS.hd 5 rfl rfl ?_) | (refine hS.hd0 6 rfl rfl ?_) | (refine hS.hd 6 rfl rfl ?_) | (refine hS.hd0 7 rfl rfl ?_) | (refine hS.hd 7 rfl rfl ?_) | (refine hS.st0 0 rfl rfl rfl ?_; clear hS; intro _ hS) | (refine hS.st 0 rfl rfl rfl ?_; clear hS; intro _ hS) | (refine hS.st0 1 rfl rfl rfl ?_; clear hS; intro _ hS) | (refine hS.st 1 rfl rfl rfl ?_; clear hS; intro _ hS) | (refine hS.st0 2 rfl rfl rfl ?_; clear hS; intro _ hS) | (refine hS.st 2 rfl rfl rfl ?_; clear hS; intro _ hS) | (refine hS.st0 3 rfl rfl rfl ?_; clear hS; intro _ hS) | (refine hS.st 3 rfl rfl rfl ?_; clear hS; intro _ hS) | (refine hS.st0 4 rfl rfl rfl ?_; clear hS; intro _ hS) | (refine hS.st 4 rfl rfl rfl ?_; clear hS; intro _ hS) | (refine hS.st0 5 rfl rfl rfl ?_; clear hS; intro _ hS) | (refine hS.st 5 rfl rfl rfl ?_; clear hS; intro _ hS) | (refine hS.st0 6 rfl rfl rfl ?_; clear hS; intro _ hS) | (refine hS.st 6 rfl rfl rfl ?_; clear hS; intro _ hS) | (refine hS.st0 7 rfl rfl rfl ?_; clear hS; intro _ hS) | (refine hS.st 7 rfl rfl rfl ?_; clear hS; intro _ hS) | (refine bnd_mk (by decide) (by decide) ?_) | (refine so_i rfl ?_))
        have hk := hK _ hS.ext
        rw [← hF'] at hk
        have hs : sgn d = -1 ∨ sgn d = 1 := by unfold sgn; split <;> simp
        have e : IntKind.wrap .i64 (sgn d * p.1) = sgn d * p.1 := by
          rcases hs with h | h <;> rw [h] <;> exact wr64 (by omega) (by omega)
        rw [e]
        exact hk
    · intro J hJ
      refine cond_split (fun h => ?_) (fun h => ?_)
      · repeat (first | (refine asI_i rfl ?_) | (refine asB_i rfl ?_) | (refine asP_i rfl ?_) | (refine asS_i rfl ?_) | (refine asY_i rfl ?_) | (refine asM_i rfl ?_) | (refine asA_i rfl rfl ?_) | (refine asT_i rfl rfl ?_) | (refine lv_i ?_))
        have : sgn d = -1 := by unfold sgn; rw [if_pos (by simpa using h)]
        exact hJ _ _ ⟨by rw [this], hS⟩
      · have : sgn d = 1 := by unfold sgn; rw [if_neg (by simpa using h)]
        exact hJ _ _ ⟨by rw [this], hS⟩
  · intro J hJ
    have fin : ∀ w', St w w' [(ra, a.cells, 38)] → (axis = 0 ∨ axis = 1) → J [.bool (!within d)] w' := fun w' hS hax => by
      refine hJ _ _ ⟨?_, hS⟩
      rw [decide_eq_true hax]
      rfl
    refine cond_split (fun h0 => cond_split (fun h1 => hJ _ _ ⟨?_, hS⟩) (fun h1 => within_k ?_)) (fun h0 => within_k ?_)
    · have : ¬ (axis = 0 ∨ axis = 1) := by
        rintro (h | h)
        · rw [h] at h0; cases h0
        · rw [h] at h1; cases h1
      rw [decide_eq_false this]
      rfl
    · repeat (first | (refine asI_i rfl ?_) | (refine asB_i rfl ?_) | (refine asP_i rfl ?_) | (refine asS_i rfl ?_) | (refine asY_i rfl ?_) | (refine asM_i rfl ?_) | (refine asA_i rfl rfl ?_) | (refine asT_i rfl rfl ?_) | (refine lv_i ?_))
      exact fin _ hS (.inr (by simpa using h1))
    · repeat (first | (refine asI_i rfl ?_) | (refine asB_i rfl ?_) | (refine asP_i rfl ?_) | (refine asS_i rfl ?_) | (refine asY_i rfl ?_) | (refine asM_i rfl ?_) | (refine asA_i rfl rfl ?_) | (refine asT_i rfl rfl ?_) | (refine lv_i ?_))
      exact fin _ hS (.inl (by simpa using h0))
end Go.Proofs.YtamobmjfdiecbaaDoor

/- PhM: the plain law of pushes. Conditions: those of each theorem, on its arguments. -/
namespace Go.Proofs.YtamobmjfdiecbaaDoor
open Go Go.Sx

/-- b stands in the way -/
def Blk (s : Int) (a : Bx) (k : Bool) (b : Bx) : Prop := 0 < s * (b.at k - a.at k) ∧ 0 ≤ gap a b k ∧ gap a b (!k) < 0

theorem pushF_le (s : Int) (a : Bx) (k : Bool) : ∀ (bs : List Bx) (i : Int) (p : Int × Int), (pushF s a k bs i p).1 ≤ p.1
  | [], _, p => Int.le_refl _
  | b :: bs, i, p => by
    simp only [pushF]
    refine Int.le_trans (pushF_le s a k bs (i + 1) _) ?_
    unfold stepP
    split
    · rename_i h
      exact Int.le_of_lt h.2.2.1
    · exact Int.le_refl _

theorem pushF_blk (s : Int) (a : Bx) (k : Bool) : ∀ (bs : List Bx) (i : Int) (p : Int × Int) (b : Bx), b ∈ bs → Blk s a k b → (pushF s a k bs i p).1 ≤ gap a b k
  | [], _, _, _, h, _ => by cases h
  | c :: bs, i, p, b, h, hb => by
    simp only [pushF]
    rcases List.mem_cons.1 h with rfl | h
    · refine Int.le_trans (pushF_le s a k bs (i + 1) _) ?_
      unfold stepP
      split
      · exact Int.le_refl _
      · rename_i hn
        have : ¬ gap a b k < p.1 := fun hlt => hn ⟨hb.1, hb.2.1, hlt, hb.2.2⟩
        omega
    · exact pushF_blk s a k bs (i + 1) _ b h hb

theorem pushF_who (s : Int) (a : Bx) (k : Bool) : ∀ (bs : List Bx) (i : Int) (p : Int × Int), pushF s a k bs i p = p ∨ ∃ (j : Nat) (b : Bx), bs[j]? = some b ∧ Blk s a k b ∧ gap a b k < p.1 ∧ pushF s a k bs i p = (gap a b k, i + j)
  | [], _, p => .inl rfl
  | c :: bs, i, p => by
    simp only [pushF]
    rcases pushF_who s a k bs (i + 1) (stepP s a k c i p) with h | ⟨j, b, hj, hb, hlt, h⟩
    · rw [h]
      unfold stepP
      split
      · rename_i hc
        exact .inr ⟨0, c, rfl, ⟨hc.1, hc.2.1, hc.2.2.2⟩, hc.2.2.1, by simp⟩
      · exact .inl rfl
    · refine .inr ⟨j + 1, b, by simpa using hj, hb, ?_, by rw [h]; simp; omega⟩
      refine Int.lt_of_lt_of_le hlt ?_
      unfold stepP
      split
      · rename_i hc
        exact Int.le_of_lt hc.2.2.1
      · exact Int.le_refl _

theorem pushF_nn {s : Int} {a : Bx} {k : Bool} {bs : List Bx} {i : Int} {p : Int × Int} (h : 0 ≤ p.1) : 0 ≤ (pushF s a k bs i p).1 := by
  rcases pushF_who s a k bs i p with h' | ⟨j, b, _, hb, _, h'⟩
  · rw [h']; exact h
  · rw [h']; exact hb.2.1

theorem sgn_cases (d : Int) : sgn d = -1 ∧ d < 0 ∧ mgn d = -d ∨ sgn d = 1 ∧ 0 ≤ d ∧ mgn d = d := by
  unfold sgn mgn
  by_cases h : d < 0
  · exact .inl ⟨by rw [if_pos h], h, by rw [if_pos h]⟩
  · exact .inr ⟨by rw [if_neg h], by omega, by rw [if_neg h]⟩

def Bx.moved (a : Bx) (k : Bool) (c : Int) : Bx := if k then ⟨a.x, a.y + c, a.r⟩ else ⟨a.x + c, a.y, a.r⟩
theorem moved_at (a : Bx) (k : Bool) (c : Int) : (a.moved k c).at k = a.at k + c := by cases k <;> rfl
theorem moved_at' (a : Bx) (k : Bool) (c : Int) : (a.moved k c).at (!k) = a.at (!k) := by cases k <;> rfl
theorem moved_r (a : Bx) (k : Bool) (c : Int) : (a.moved k c).r = a.r := by cases k <;> rfl
theorem gap_moved' (a b : Bx) (k : Bool) (c : Int) : gap (a.moved k c) b (!k) = gap a b (!k) := by unfold gap; rw [moved_at', moved_r]
theorem gap_moved (a b : Bx) (k : Bool) (c : Int) : gap (a.moved k c) b k = adiff (a.at k + c) (b.at k) - a.r - b.r := by unfold gap; rw [moved_at, moved_r]

theorem adiff_cases (p q : Int) : adiff p q = p - q ∧ q ≤ p ∨ adiff p q = q - p ∧ p < q := by
  unfold adiff
  split
  · exact .inr ⟨rfl, by omega⟩
  · exact .inl ⟨rfl, by omega⟩

/-- who is pushed comes to stand against nobody whom it did not meet before -/
theorem no_through {a o : Bx} {bs : List Bx} {k : Bool} {d : Int} (ha : 1 ≤ a.r) (ho : 1 ≤ o.r) (hm : o ∈ bs) (hno : ¬ (gap a o k < 0 ∧ gap a o (!k) < 0)) :
    ¬ (gap (a.moved k (sgn d * (pushF (sgn d) a k bs 0 (mgn d, -1)).1)) o k < 0 ∧ gap (a.moved k (sgn d * (pushF (sgn d) a k bs 0 (mgn d, -1)).1)) o (!k) < 0) := by
  rintro ⟨h1, h2⟩
  have hmag : 0 ≤ mgn d := by rcases sgn_cases d with ⟨_, _, h⟩ | ⟨_, _, h⟩ <;> omega
  have hnn : 0 ≤ (pushF (sgn d) a k bs 0 (mgn d, -1)).1 := pushF_nn (p := (mgn d, -1)) hmag
  have hblk := pushF_blk (sgn d) a k bs 0 (mgn d, -1) o hm
  rw [gap_moved'] at h2
  rw [gap_moved] at h1
  have hg : 0 ≤ gap a o k := by
    by_cases h : gap a o k < 0
    · exact absurd ⟨h, h2⟩ hno
    · omega
  generalize (pushF (sgn d) a k bs 0 (mgn d, -1)).1 = way at *
  have hga : gap a o k = adiff (a.at k) (o.at k) - a.r - o.r := rfl
  rw [hga] at hblk hg
  have hb : 0 < sgn d * (o.at k - a.at k) → way ≤ adiff (a.at k) (o.at k) - a.r - o.r := fun hs => hblk ⟨hs, by rw [hga]; exact hg, h2⟩
  generalize a.at k = p at *
  generalize o.at k = q at *
  rcases sgn_cases d with ⟨hs, _, _⟩ | ⟨hs, _, _⟩ <;> rw [hs] at hb h1
  · rcases adiff_cases p q with ⟨e, _⟩ | ⟨e, _⟩ <;> rw [e] at hg hb
    · have := hb (by omega)
      rcases adiff_cases (p + -1 * way) q with ⟨e', _⟩ | ⟨e', _⟩ <;> rw [e'] at h1 <;> omega
    · rcases adiff_cases (p + -1 * way) q with ⟨e', _⟩ | ⟨e', _⟩ <;> rw [e'] at h1 <;> omega
  · rcases adiff_cases p q with ⟨e, _⟩ | ⟨e, _⟩ <;> rw [e] at hg hb
    · rcases adiff_cases (p + 1 * way) q with ⟨e', _⟩ | ⟨e', _⟩ <;> rw [e'] at h1 <;> omega
    · have := hb (by omega)
      rcases adiff_cases (p + 1 * way) q with ⟨e', _⟩ | ⟨e', _⟩ <;> rw [e'] at h1 <;> omega

/-- who is stopped stands against the one that stops it; one step more meets it -/
theorem stopped_at {a o : Bx} {k : Bool} {s : Int} (hs : s = -1 ∨ s = 1) (ha : 1 ≤ a.r) (ho : 1 ≤ o.r) (hb : Blk s a k o) :
    gap (a.moved k (s * gap a o k)) o k = 0 ∧ gap (a.moved k (s * gap a o k + s)) o k < 0 ∧ gap (a.moved k (s * gap a o k + s)) o (!k) < 0 := by
  obtain ⟨h1, h2, h3⟩ := hb
  rw [gap_moved', gap_moved, gap_moved]
  refine ⟨?_, ?_, h3⟩
  · have hga : gap a o k = adiff (a.at k) (o.at k) - a.r - o.r := rfl
    rw [hga] at h2 ⊢
    generalize a.at k = p at *
    generalize o.at k = q at *
    rcases hs with rfl | rfl
    · rcases adiff_cases p q with ⟨e, _⟩ | ⟨e, _⟩ <;> rw [e] at h2 ⊢
      · rcases adiff_cases (p + -1 * (p - q - a.r - o.r)) q with ⟨e', _⟩ | ⟨e', _⟩ <;> rw [e'] <;> omega
      · omega
    · rcases adiff_cases p q with ⟨e, _⟩ | ⟨e, _⟩ <;> rw [e] at h2 ⊢
      · omega
      · rcases adiff_cases (p + 1 * (q - p - a.r - o.r)) q with ⟨e', _⟩ | ⟨e', _⟩ <;> rw [e'] <;> omega
  · have hga : gap a o k = adiff (a.at k) (o.at k) - a.r - o.r := rfl
    rw [hga] at h2 ⊢
    generalize a.at k = p at *
    generalize o.at k = q at *
    rcases hs with rfl | rfl
    · rcases adiff_cases p q with ⟨e, _⟩ | ⟨e, _⟩ <;> rw [e] at h2 ⊢
      · rcases adiff_cases (p + (-1 * (p - q - a.r - o.r) + -1)) q with ⟨e', _⟩ | ⟨e', _⟩ <;> rw [e'] <;> omega
      · omega
    · rcases adiff_cases p q with ⟨e, _⟩ | ⟨e, _⟩ <;> rw [e] at h2 ⊢
      · omega
      · rcases adiff_cases (p + (1 * (q - p - a.r - o.r) + 1)) q with ⟨e', _⟩ | ⟨e', _⟩ <;> rw [e'] <;> omega
end Go.Proofs.YtamobmjfdiecbaaDoor

/- Srt: the keys of a map of one's own, sorted: the kit's contracts over any program laid at this one. Conditions: those of each theorem, on its arguments. -/
namespace Go.Proofs.YtamobmjfdiecbaaDoor
open Go Go.Sx Go.RowKit Go.Maps Go.Sort Go.Shelf Go.WideElems

def keysA_ren : Go.Shelf.Ren := ⟨fun | 7 => 48 | 10 => 62 | n => n, fun | 23 => 106 | 26 => 3 | 3 => 4 | 28 => 110 | 0 => 0 | 27 => 109 | 33 => 86 | 4 => 4 | n => n, fun | n => n⟩
theorem keysA : Go.Proofs.SlLaysZI.n7 Tryd.prog keysA_ren := {
  mixed := by kernel_rfl
  f7 := ⟨Tryd.f48.name, by decide, Tryd.func48.trans (congrArg some (by kernel_rfl))⟩
  f10 := ⟨Tryd.f62.name, by decide, Tryd.func62.trans (congrArg some (by kernel_rfl))⟩
  t0 := Tryd.underlying0
  a0 := Tryd.isAgg0
  z0 := Tryd.sizeOf0
  v0 := Tryd.zeroValue0
  t4 := Tryd.underlying4
  a4 := Tryd.isAgg4
  z4 := Tryd.sizeOf4
  v4 := Tryd.zeroValue4
  t23 := Tryd.underlying106
  a23 := Tryd.isAgg106
  z23 := Tryd.sizeOf106
  v23 := Tryd.zeroValue106
  t26 := Tryd.underlying3
  a26 := Tryd.isAgg3
  z26 := Tryd.sizeOf3
  v26 := Tryd.zeroValue3
  t27 := Tryd.underlying109
  a27 := Tryd.isAgg109
  z27 := Tryd.sizeOf109
  v27 := Tryd.zeroValue109
  t28 := Tryd.underlying110
  a28 := Tryd.isAgg110
  z28 := Tryd.sizeOf110
  v28 := Tryd.zeroValue110
  t33 := Tryd.underlying86
  a33 := Tryd.isAgg86
  z33 := Tryd.sizeOf86
  v33 := Tryd.zeroValue86 }
def sortedA_ren : Go.Shelf.Ren := ⟨fun | 6 => 47 | 8 => 60 | 9 => 61 | 11 => 67 | 13 => 69 | 12 => 68 | 23 => 81 | 24 => 82 | 14 => 72 | 15 => 73 | 16 => 74 | 17 => 75 | 18 => 76 | 19 => 77 | 20 => 78 | 21 => 79 | 22 => 80 | 25 => 87 | 26 => 88 | 27 => 89 | 28 => 90 | 29 => 91 | 30 => 92 | 31 => 94 | n => n, fun | 26 => 3 | 28 => 110 | 24 => 23 | 0 => 0 | 3 => 3 | 37 => 64 | 48 => 138 | 50 => 140 | 4 => 4 | 40 => 131 | 39 => 130 | 45 => 135 | 5 => 5 | 9 => 9 | 51 => 143 | 55 => 93 | 57 => 149 | 58 => 150 | 33 => 86 | n => n, fun | n => n⟩
theorem sortedA : Go.Proofs.SlLaysZI.n6 Tryd.prog sortedA_ren := {
  mixed := by kernel_rfl
  f6 := ⟨Tryd.f47.name, by decide, Tryd.func47.trans (congrArg some (by kernel_rfl))⟩
  f8 := ⟨Tryd.f60.name, by decide, Tryd.func60.trans (congrArg some (by kernel_rfl))⟩
  f11 := ⟨Tryd.f67.name, by decide, Tryd.func67.trans (congrArg some (by kernel_rfl))⟩
  t0 := Tryd.underlying0
  a0 := Tryd.isAgg0
  z0 := Tryd.sizeOf0
  v0 := Tryd.zeroValue0
  t24 := Tryd.underlying23
  a24 := Tryd.isAgg23
  z24 := Tryd.sizeOf23
  v24 := Tryd.zeroValue23
  t26 := Tryd.underlying3
  a26 := Tryd.isAgg3
  z26 := Tryd.sizeOf3
  v26 := Tryd.zeroValue3
  t28 := Tryd.underlying110
  a28 := Tryd.isAgg110
  z28 := Tryd.sizeOf110
  v28 := Tryd.zeroValue110
  i26 := by kernel_rfl }
def sortA_ren : Go.Shelf.Ren := ⟨fun | 5 => 61 | 8 => 69 | 7 => 68 | 19 => 81 | 20 => 82 | 10 => 72 | 11 => 73 | 12 => 74 | 13 => 75 | 14 => 76 | 15 => 77 | 16 => 78 | 17 => 79 | 18 => 80 | 30 => 87 | 31 => 88 | 32 => 89 | 33 => 90 | 34 => 91 | 35 => 92 | 40 => 94 | n => n, fun | 23 => 23 | 25 => 3 | 3 => 3 | 32 => 64 | 22 => 23 | 0 => 0 | 44 => 138 | 46 => 140 | 4 => 4 | 36 => 131 | 35 => 130 | 41 => 135 | 5 => 5 | 9 => 9 | 53 => 143 | 57 => 93 | 63 => 149 | 64 => 150 | n => n, fun | n => n⟩
theorem sortA : Go.Proofs.SlLaysM.n5 Tryd.prog sortA_ren := {
  mixed := by kernel_rfl
  f5 := ⟨Tryd.f61.name, by decide, Tryd.func61.trans (congrArg some (by kernel_rfl))⟩
  f7 := ⟨Tryd.f68.name, by decide, Tryd.func68.trans (congrArg some (by kernel_rfl))⟩
  f8 := Tryd.func69.trans (congrArg some (by kernel_rfl))
  f10 := ⟨Tryd.f72.name, by decide, Tryd.func72.trans (congrArg some (by kernel_rfl))⟩
  f11 := ⟨Tryd.f73.name, by decide, Tryd.func73.trans (congrArg some (by kernel_rfl))⟩
  f12 := ⟨Tryd.f74.name, by decide, Tryd.func74.trans (congrArg some (by kernel_rfl))⟩
  f13 := ⟨Tryd.f75.name, by decide, Tryd.func75.trans (congrArg some (by kernel_rfl))⟩
  f14 := ⟨Tryd.f76.name, by decide, Tryd.func76.trans (congrArg some (by kernel_rfl))⟩
  f15 := ⟨Tryd.f77.name, by decide, Tryd.func77.trans (congrArg some (by kernel_rfl))⟩
  f16 := ⟨Tryd.f78.name, by decide, Tryd.func78.trans (congrArg some (by kernel_rfl))⟩
  f17 := ⟨Tryd.f79.name, by decide, Tryd.func79.trans (congrArg some (by kernel_rfl))⟩
  f18 := ⟨Tryd.f80.name, by decide, Tryd.func80.trans (congrArg some (by kernel_rfl))⟩
  f19 := Tryd.func81.trans (congrArg some (by kernel_rfl))
  f20 := Tryd.func82.trans (congrArg some (by kernel_rfl))
  f30 := ⟨Tryd.f87.name, by decide, Tryd.func87.trans (congrArg some (by kernel_rfl))⟩
  f31 := Tryd.func88.trans (congrArg some (by kernel_rfl))
  f32 := Tryd.func89.trans (congrArg some (by kernel_rfl))
  f33 := ⟨Tryd.f90.name, by decide, Tryd.func90.trans (congrArg some (by kernel_rfl))⟩
  f34 := ⟨Tryd.f91.name, by decide, Tryd.func91.trans (congrArg some (by kernel_rfl))⟩
  f35 := ⟨Tryd.f92.name, by decide, Tryd.func92.trans (congrArg some (by kernel_rfl))⟩
  f40 := ⟨Tryd.f94.name, by decide, Tryd.func94.trans (congrArg some (by kernel_rfl))⟩
  t0 := Tryd.underlying0
  a0 := Tryd.isAgg0
  z0 := Tryd.sizeOf0
  v0 := Tryd.zeroValue0
  t3 := Tryd.underlying3
  a3 := Tryd.isAgg3
  z3 := Tryd.sizeOf3
  v3 := Tryd.zeroValue3
  t4 := Tryd.underlying4
  a4 := Tryd.isAgg4
  z4 := Tryd.sizeOf4
  v4 := Tryd.zeroValue4
  t5 := Tryd.underlying5
  a5 := Tryd.isAgg5
  z5 := Tryd.sizeOf5
  v5 := Tryd.zeroValue5
  t9 := Tryd.underlying9
  a9 := Tryd.isAgg9
  z9 := Tryd.sizeOf9
  v9 := Tryd.zeroValue9
  t22 := Tryd.underlying23
  a22 := Tryd.isAgg23
  z22 := Tryd.sizeOf23
  v22 := Tryd.zeroValue23
  t23 := Tryd.underlying23
  a23 := Tryd.isAgg23
  z23 := Tryd.sizeOf23
  v23 := Tryd.zeroValue23
  t25 := Tryd.underlying3
  a25 := Tryd.isAgg3
  z25 := Tryd.sizeOf3
  v25 := Tryd.zeroValue3
  t32 := Tryd.underlying64
  a32 := Tryd.isAgg64
  z32 := Tryd.sizeOf64
  v32 := Tryd.zeroValue64
  t35 := Tryd.underlying130
  a35 := Tryd.isAgg130
  z35 := Tryd.sizeOf130
  v35 := Tryd.zeroValue130
  t36 := Tryd.underlying131
  a36 := Tryd.isAgg131
  z36 := Tryd.sizeOf131
  v36 := Tryd.zeroValue131
  t41 := Tryd.underlying135
  a41 := Tryd.isAgg135
  z41 := Tryd.sizeOf135
  v41 := Tryd.zeroValue135
  t44 := Tryd.underlying138
  a44 := Tryd.isAgg138
  z44 := Tryd.sizeOf138
  v44 := Tryd.zeroValue138
  t46 := Tryd.underlying140
  a46 := Tryd.isAgg140
  z46 := Tryd.sizeOf140
  v46 := Tryd.zeroValue140
  t53 := Tryd.underlying143
  a53 := Tryd.isAgg143
  z53 := Tryd.sizeOf143
  v53 := Tryd.zeroValue143
  t57 := Tryd.underlying93
  a57 := Tryd.isAgg93
  z57 := Tryd.sizeOf93
  v57 := Tryd.zeroValue93
  t63 := Tryd.underlying149
  a63 := Tryd.isAgg149
  z63 := Tryd.sizeOf149
  v63 := Tryd.zeroValue149
  t64 := Tryd.underlying150
  a64 := Tryd.isAgg150
  z64 := Tryd.sizeOf150
  v64 := Tryd.zeroValue150 }

theorem sortsA (m : Nat) : AnyZI.SortsIn Tryd.prog sortedA_ren Fence.wide m :=
  ⟨fun blk off cap ss W hH hblk hsz => callsIn_wide.2 (AnyM.slices_Sort_int sortA blk off cap ss W hH hblk hsz),
   fun p cap W => callsIn_wide.2 (AnyM.slices_Sort_int_none sortA p cap W)⟩

theorem keys_cl {mb : Option Nat} {w : World} {K : Value → World → Prop} (hK : K (.func (.func 62) #[] #[.pointer (some ⟨w.heap.size, 0, none⟩)]) (w.alloc (.cells #[.map mb] 106))) :
    cl Tryd.prog 48 #[.map mb] w K := by
  have h : CallsIn Fence.wide 5 Tryd.prog 48 #[.map mb] w fun e w' => e = .returned (.func (.func 62) #[] #[.pointer (some ⟨w.heap.size, 0, none⟩)]) ∧ w' = w.alloc (.cells #[.map mb] 106) :=
    AnyZI.keys_in keysA Fence.wide 5 trivial rfl mb w
  exact (callsIn_wide.1 h).mono fun e w' ⟨he, hw⟩ => ⟨_, he, hw ▸ hK⟩

set_option maxHeartbeats 1000000 in
theorem sorted_cl {H : Type} (b nn : Nat) (D0 : DataW H) (R : Value → Option (DataW H × List MemPlace)) (w : World) (hown : w.ownsMap Tryd.prog 3 R b nn D0) (hmax : Maps.size D0 ≤ maxLen) (hbytes : Maps.size D0 * 8 ≤ 140737488355328) {K : Value → World → Prop}
    (hK : ∀ v (ss : List Int) w', ss.Perm (intKeys D0) → w'.ownsRow w.heap.size 3 1 v ss.length ((ss.mergeSort (fun x y => decide (x ≤ y))).map encZ) → Ext no w w' → K v w') :
    cl Tryd.prog 47 #[.func (.func 62) #[] #[.pointer (some ⟨w.heap.size, 0, none⟩)]] (w.alloc (.cells #[.map (some b)] 106)) K := by
  have hbl := hown.lt
  have hseq : SeqGives Fence.wide 2 Tryd.prog 62 #[.pointer (some ⟨w.heap.size, 0, none⟩)] encZ (fun ss => ss.Perm (intKeys D0)) (Maps.size D0) (w.alloc (.cells #[.map (some b)] 106)) :=
    AnyZI.keys_gives (ρ := keysA_ren) { keysA with } Fence.wide _ trivial rfl (by omega) w.heap.size b nn D0 _ (by simp) (by simp) (by
      obtain ⟨es, clock, hb, Ft, hs, hD⟩ := hown
      exact ⟨es, clock, (Below.heap_alloc _ _ b hbl).trans hb, Ft, hs, hD⟩)
  have cS := AnyZI.sorted_in sortedA Fence.wide 5 trivial trivial trivial trivial rfl (by omega) (sortsA _) (enters_of Tryd.func61 (by kernel_rfl) rfl) 62 #[.pointer (some ⟨w.heap.size, 0, none⟩)] trivial (enters_of Tryd.func62 (by kernel_rfl) rfl) _ _ hmax hbytes _ hseq
  change CallsIn _ _ Tryd.prog 47 _ _ _ at cS
  refine (callsIn_wide.1 cS).mono ?_
  rintro e w' ⟨v, ss, rfl, hS, hrow, hnil, hb⟩
  have hx : Ext no (w.alloc (.cells #[.map (some b)] 106)) w' := ⟨hb.os, hb.tape, hb.output, hb.size, fun k hk _ => hb.block k hk⟩
  exact ⟨v, rfl, hK v ss w' hS (ownsRow_base_a hrow (by simp)) ((Ext.alloc _ _).trans hx)⟩
end Go.Proofs.YtamobmjfdiecbaaDoor

/- GrN: the grid's call Near, as a contract over lists of numbers and boxes. Conditions: those of each theorem, on its arguments. -/
namespace Go.Proofs.YtamobmjfdiecbaaDoor
open Go Go.Sx Go.Fp
attribute [local irreducible] jn lv ld st nw asI asB asP asS asY asM asF asA asT lp rn ru rq cl dw dr bnd bn2 nz nn hd hr so eqW
attribute [local irreducible] callOk

set_option maxRecDepth 100000 in
theorem und_mi : Tryd.prog.underlying 106 = some (.map 3 4) := rfl
def kb' (x : Bool) : Value := .bool x
theorem _root_.Go.Sx.St.toX {w0 w w' : World} {L : List (Nat × List Value × TypeId)} (h : St w0 w L) {M : Nat → Prop} (hx : Ext M w w') (hM : ∀ k, M k → w0.heap.size ≤ k) (hL : ∀ b ∈ L, ¬ M b.1) : St w0 w' L :=
  ⟨h.ext.then hx fun k hk hm => by have := hM k hm; omega, fun b hb => ⟨hx.blk (h.kn b hb).1 (hL b hb), (h.kn b hb).2⟩, h.nd⟩
theorem wfZ {n : Int} (h : I64 n) : (Lit.int .i64 n).wf = true := by
  obtain ⟨h1, h2⟩ := h
  simp only [Lit.wf, Bool.and_eq_true, decide_eq_true_eq, IntKind.min, IntKind.max, IntKind.bits, IntKind.signed]
  simp
  omega
def metC (B : List (Int × Bx)) (b : Bx) (ids : List Int) (A : List (Int × Bool)) : List (Int × Bool) := ids.foldl (fun A id => if (meetV (boxAt B id) b).1 = true then aset A id true else A) A
def metL (B : List (Int × Bx)) (D : List ((Int × Int) × List Int)) (b : Bx) (l : List (Int × Int)) : List (Int × Bool) := l.foldl (fun A c => metC B b ((aget D c).getD []) A) []
def gnearV (s : Int) (B : List (Int × Bx)) (D : List ((Int × Int) × List Int)) (b : Bx) : List Int := ((metL B D b (cellsL' s b)).map (·.1)).mergeSort leI

theorem nodup_metC {B : List (Int × Bx)} {b : Bx} : ∀ {ids : List Int} {A : List (Int × Bool)}, (A.map (·.1)).Nodup → ((metC B b ids A).map (·.1)).Nodup
  | [], _, h => h
  | id :: ids, A, h => by
    unfold metC
    rw [List.foldl_cons]
    split
    · exact nodup_metC (nodup_aset h)
    · exact nodup_metC h
theorem nodup_metL {B : List (Int × Bx)} {D : List ((Int × Int) × List Int)} {b : Bx} (l : List (Int × Int)) : ((metL B D b l).map (·.1)).Nodup := by
  have key : ∀ (l : List (Int × Int)) (A : List (Int × Bool)), (A.map (·.1)).Nodup → ((l.foldl (fun A c => metC B b ((aget D c).getD []) A) A).map (·.1)).Nodup := by
    intro l
    induction l with
    | nil => exact fun A h => h
    | cons c l ih => exact fun A h => ih _ (nodup_metC h)
  exact key l [] (by simp)

/-- a map of one's own, in the kit's words -/
theorem _root_.Go.Sx.Mp.own {w : World} {m : Nat} {A : List (Int × Bool)} {bs : List Nat} {clk : Nat} (h : Mp w m ki kb' A bs clk) (hn : (A.map (·.1)).Nodup) (hI : ∀ x ∈ A, I64 x.1) (hs : A.length ≤ maxLen) :
    ∃ D0 : DataW Unit, w.ownsMap Tryd.prog 3 (fun _ => some (.nil, [])) m A.length D0 ∧ (Go.intKeys D0).Perm (A.map (·.1)) ∧ Maps.size D0 = A.length := by
  have hl := ents_length ki kb' (A := A) (bs := bs) h.len
  have hk : ∀ (A : List (Int × Bool)) (bs : List Nat), A.length = bs.length → (ents ki kb' A bs).map (·.key) = A.map fun x => ki x.1 := by
    intro A
    induction A with
    | nil => intro bs _; rfl
    | cons x A ih =>
      intro bs hb
      cases bs with
      | nil => simp at hb
      | cons y bs => simp only [ents, List.map_cons]; rw [ih bs (by simpa using hb)]
  have hb : ∀ (A : List (Int × Bool)) (bs : List Nat), A.length = bs.length → (ents ki kb' A bs).map (·.born) = bs := by
    intro A
    induction A with
    | nil => intro bs hb; cases bs with | nil => rfl | cons y bs => simp at hb
    | cons x A ih =>
      intro bs hb
      cases bs with
      | nil => simp at hb
      | cons y bs => simp only [ents, List.map_cons]; rw [ih bs (by simpa using hb)]
  have hrd : ∀ x ∈ ents ki kb' A bs, ∃ z : Int, x.key = ki z ∧ I64 z := by
    intro x hx
    have h1 : x.key ∈ (ents ki kb' A bs).map (·.key) := List.mem_map.2 ⟨x, hx, rfl⟩
    rw [hk A bs h.len] at h1
    obtain ⟨y, hy, he⟩ := List.mem_map.1 h1
    exact ⟨y.1, he.symm, hI y hy⟩
  have hkey : ∀ z : Int, I64 z → keyOf Tryd.prog 3 (ki z) = some (.int .i64 z) := fun z hz => Maps.keyOf_int_mk und_i (wfZ hz)
  have hrd2 : ∀ x ∈ ents ki kb' A bs, ∃ z : Int, x.key = ki z ∧ WideElems.rd (H := Unit) Tryd.prog 3 (fun _ => some (.nil, [])) x = some (.int .i64 z, .nil) := by
    intro x hx
    obtain ⟨z, hz, hI⟩ := hrd x hx
    refine ⟨z, hz, ?_⟩
    unfold WideElems.rd
    rw [hz, hkey z hI]
    rfl
  have hfit : WideElems.Fit (H := Unit) Tryd.prog 3 (fun _ => some (.nil, [])) (ents ki kb' A bs).toArray clk := by
    refine ⟨by simpa [hl] using hs, ⟨fun x hx => ?_, ?_, ?_⟩, fun x hx => ?_⟩
    · have h1 : x.born ∈ (ents ki kb' A bs).map (·.born) := List.mem_map.2 ⟨x, by simpa using hx, rfl⟩
      rw [hb A bs h.len] at h1
      exact h.lt _ h1
    · show ((ents ki kb' A bs).map (·.born)).Nodup
      rw [hb A bs h.len]
      exact h.nd
    · show ((ents ki kb' A bs).map (·.key)).Nodup
      rw [hk A bs h.len]
      have : A.map (fun x => ki x.1) = (A.map (·.1)).map ki := by simp [List.map_map]
      rw [this]
      refine List.Pairwise.map _ (fun a b hab e => hab ?_) hn
      simpa [ki] using e
    · obtain ⟨z, _, hz⟩ := hrd2 x (by simpa using hx)
      exact ⟨_, hz⟩
  refine ⟨_, ⟨_, _, h.blk, hfit, by simp [hl], rfl⟩, ?_, ?_⟩
  · have hp := WideShapes.sorted_perm ((ents ki kb' A bs).map (WideElems.rg (H := Unit) Tryd.prog 3 (fun _ => some (.nil, []))))
    have hp2 := hp.map (fun p => _root_.Go.intOf p.1)
    change (List.map (fun p : Lit × DataW Unit => _root_.Go.intOf p.1) _).Perm _
    refine hp2.trans ?_
    rw [List.map_map]
    have : (ents ki kb' A bs).map ((fun p => _root_.Go.intOf p.1) ∘ WideElems.rg (H := Unit) Tryd.prog 3 (fun _ => some (.nil, []))) = A.map (·.1) := by
      have h1 : (ents ki kb' A bs).map ((fun p => _root_.Go.intOf p.1) ∘ WideElems.rg (H := Unit) Tryd.prog 3 (fun _ => some (.nil, []))) = ((ents ki kb' A bs).map (·.key)).map (fun v => match v with | .int _ z => z | _ => 0) := by
        rw [List.map_map]
        refine List.map_congr_left fun x hx => ?_
        obtain ⟨z, hz, hr⟩ := hrd2 x hx
        simp only [Function.comp]
        rw [hz, WideElems.rg_of hr]
        rfl
      rw [h1, hk A bs h.len, List.map_map]
      rfl
    rw [this]
  · have hp := WideShapes.sorted_perm ((ents ki kb' A bs).map (WideElems.rg (H := Unit) Tryd.prog 3 (fun _ => some (.nil, []))))
    have := hp.length_eq
    rw [List.length_map, hl] at this
    exact this

theorem asN_i {v : Value} {k : Nat} {fs cs : Array Value} {K : Nat → Array Value → Array Value → Prop} (e : v = .func (.func k) fs cs) (h : K k fs cs) : asN v K := ⟨k, fs, cs, e, h⟩
theorem row_of {w : World} {base : Nat} {v : Value} {xs : List Value} (h : w.ownsRow base 3 1 v xs.length xs) : ∃ p c, v = .slice p xs.length c ∧ Row w base 3 p c xs := by
  rcases h.2 with ⟨rfl, hn⟩ | ⟨g, cap, cur, rfl, rest⟩
  · refine ⟨none, 0, by rw [hn], ⟨?_⟩⟩
    rw [hn] at h ⊢
    exact h
  · exact ⟨some ⟨g, 0, none⟩, cap, rfl, ⟨h⟩⟩

set_option maxHeartbeats 2000000 in
theorem gNear_k {w : World} {F : Nat → Prop} {g mb mc : Nat} {s : Int} {B : List (Int × Bx)} {C : List ((Int × Int) × CellV)} {bb : List Nat} {kb : Nat} {bc : List Nat} {kc : Nat}
    (h : Gr w F g mb mc s B C bb kb bc kc) {b : Bx} (hI : ∀ x ∈ metL B (pl C) b (cellsL' s b), I64 x.1) (hM : (metL B (pl C) b (cellsL' s b)).length ≤ 1099511627776) (hlen : ∀ x, ((aget (pl C) x).getD []).length ≤ 1099511627776) {K : Value → World → Prop}
    (hK : ∀ p c w', Ext no w w' → Row w' w.heap.size 3 p c (iv .i64 (gnearV s B (pl C) b)) → K (.tuple #[.slice p (gnearV s B (pl C) b).length c, .int .i64 (cellsE s b)]) w') :
    cl Tryd.prog 32 #[.pointer (some ⟨g, 0, none⟩), b.v] w K := by
  apply F32_calls
  unfold F32
  have hS := St.start w
  (refine St.nw hS ?_; clear hS; intro r1 _ hS)
  refine lv_i (St.dw hS ?_)
  clear hS
  intro w1 hS _
  have h1 := h.ext hS.ext fun _ _ hf => hf
  refine dr_i (ld_mk h1.ld0 (asI_i rfl ?_))
  refine hS.ld0 0 rfl rfl (asI_i rfl (hS.ld 0 rfl rfl (asI_i rfl (hS.ld 0 rfl rfl (asI_i rfl ?_)))))
  show cl Tryd.prog 46 #[.int .i64 s, b.v] w1 _
  refine cells_k ?_
  intro p c w2 hx2 hrow2
  have h2 := h1.ext hx2 fun _ _ hf => hf
  replace hS := hS.to hx2
  refine asT_i rfl rfl (asS_i rfl (asI_i rfl (lv_i (cond_split (fun he => lv_i ?_) (fun he => ?_)))))
  · have he' : cellsE s b ≠ 0 := by simpa using he
    have e0 : cellsL' s b = [] := by unfold cellsL'; rw [if_neg he']
    have e1 : gnearV s B (pl C) b = [] := by unfold gnearV; rw [e0]; simp [metL]
    have := hK none 0 w2 hS.ext (by rw [e1]; exact Row.nil _ _ _)
    rw [e1] at this
    exact this
  have he' : cellsE s b = 0 := by simpa using he
  rw [he'] at hK
  generalize hlst : cellsL' s b = lst at *
  have hok : ∀ x ∈ lst, okc x := by rw [← hlst]; exact cells_okc
  have hll : lst.length ≤ 1024 := by rw [← hlst]; exact cells_len
  refine make_map (enc := ki) (val := kb') und_mi ?_
  intro w3 hm3 hx3 hz3
  refine asM_i rfl ?_
  generalize hmm : w2.heap.size = mm at *
  have h3 := h2.ext hx3 fun _ _ hf => hf
  have hS3 := hS.to hx3
  have hFm : ∀ k, F k → k ≠ mm := fun k hk e => by
    have := h2.lt k hk
    omega
  have hr1 : r1 ≠ mm := by
    have := blk_lt (hS.kn _ List.mem_cons_self).1
    simp only at this
    omega
  have hwm : w.heap.size ≤ mm := by have := hS.ext.size; omega
  have gG : ∀ w', Ext (onl mm) w3 w' → Gr w' F g mb mc s B C bb kb bc kc := fun w' hx => h3.ext hx fun k hk e => hFm k hk e
  have gS : ∀ w', Ext (onl mm) w3 w' → St w w' [(r1, b.cells, 38)] := fun w' hx => hS3.toX hx (fun k hk => by have : k = mm := hk; omega) (fun x hx e => by
    have e' : x.1 = mm := e
    rw [List.mem_singleton.1 hx] at e'
    exact hr1 e')
  have hpm : ∀ a, p = some a → a.block ≠ mm := fun a ha e => by
    have := (hrow2.at ha).2
    omega
  refine lp_mk (fun i : Nat => [.int .i64 (i : Int)])
    (fun m i w' => m = lst.length - i ∧ i ≤ lst.length ∧ Ext (onl mm) w3 w' ∧ ∃ bs clk, Mp w' mm ki kb' (metL B (pl C) b (lst.take i)) bs clk) lst.length 0 rfl
    ⟨rfl, Nat.zero_le _, Ext.refl _ _, _, _, hm3⟩ ?_
  rintro _ i w4 ⟨rfl, hi, hx4, bs, clk, hm4⟩ J hJ
  refine asI_i rfl (cond_split (fun hc => ?_) (fun hc => ?_))
  · have hil : i < lst.length := by
      have := of_decide_eq_true hc
      omega
    have ei : IntKind.wrap .i64 ((i : Int) + 1) = ((i + 1 : Nat) : Int) := by rw [wr64 (by omega) (by omega)]; omega
    have hr4 : Reads w4 p (lst.map cv) := (hrow2.reads.ext hx3 fun _ _ h => h).ext hx4 fun a ha e => hpm a ha e
    refine hr4.at (i := (i : Int)) (by omega) (v := cv lst[i]) (by simp [hil]) ?_ (by simp)
    have h4 := gG w4 hx4
    refine asC_i rfl (dr_i (ld_mk h4.ld2 (asM_i rfl ?_)))
    have hcok := hok lst[i] (List.getElem_mem hil)
    have htk : lst.take (i + 1) = lst.take i ++ [lst[i]] := by rw [List.take_add_one, List.getElem?_eq_getElem hil]; rfl
    generalize lst[i] = c0 at *
    have hlk := h4.cm.lookup keyC und_mc zero_ints c0 ⟨hcok, h4.ok⟩
    have e1 : (Option.map cval (aget C c0)).getD (cval nilV) = cval ((aget C c0).getD nilV) := by cases aget C c0 <;> rfl
    rw [e1] at hlk
    have hgd : (aget (pl C) c0).getD [] = ((aget C c0).getD nilV).2.2 := pl_get C c0
    have hids := hlen c0
    rw [hgd] at hids
    have hmetS : metL B (pl C) b (lst.take (i + 1)) = metC B b ((aget C c0).getD nilV).2.2 (metL B (pl C) b (lst.take i)) := by
      rw [htk]
      unfold metL
      rw [List.foldl_append, List.foldl_cons, List.foldl_nil, hgd]
    have grow : ∀ w', Ext (onl mm) w3 w' → Reads w' ((aget C c0).getD nilV).1 (iv .i64 ((aget C c0).getD nilV).2.2) := fun w' hx => ((gG w' hx).getRow c0).1.reads
    generalize (aget C c0).getD nilV = v at *
    refine rq_mk hlk (asS_i rfl ?_)
    refine lp_mk (fun j : Nat => [.int .i64 (j : Int)])
      (fun m j w' => m = v.2.2.length - j ∧ j ≤ v.2.2.length ∧ Ext (onl mm) w3 w' ∧ ∃ bs clk, Mp w' mm ki kb' (metC B b (v.2.2.take j) (metL B (pl C) b (lst.take i))) bs clk) v.2.2.length 0 rfl
      ⟨rfl, Nat.zero_le _, hx4, bs, clk, hm4⟩ ?_
    rintro _ j w5 ⟨rfl, hj, hx5, bs5, clk5, hm5⟩ J2 hJ2
    refine asI_i rfl (cond_split (fun hc => ?_) (fun hc => ?_))
    · have hjl : j < v.2.2.length := by
        have := of_decide_eq_true hc
        omega
      have ej : IntKind.wrap .i64 ((j : Int) + 1) = ((j + 1 : Nat) : Int) := by rw [wr64 (by omega) (by omega)]; omega
      refine jn_of (fun t w' => Ext (onl mm) w3 w' ∧ ∃ bs clk, Mp w' mm ki kb' (metC B b (v.2.2.take (j + 1)) (metL B (pl C) b (lst.take i))) bs clk) ?_ ?_
      · rintro _ w6 ⟨hx6, bs6, clk6, hm6⟩
        rw [ej]
        exact hJ2 (v.2.2.length - (j + 1)) (j + 1) w6 (by omega) ⟨rfl, by omega, hx6, bs6, clk6, hm6⟩
      · intro J3 hJ3
        have htj : v.2.2.take (j + 1) = v.2.2.take j ++ [v.2.2[j]] := by rw [List.take_add_one, List.getElem?_eq_getElem hjl]; rfl
        refine (grow w5 hx5).at (i := (j : Int)) (by omega) (v := .int .i64 v.2.2[j]) (by simp [iv, hjl]) ?_ (by simp [iv])
        generalize v.2.2[j] = id at *
        have hmj : metC B b (v.2.2.take (j + 1)) (metL B (pl C) b (lst.take i)) = if (meetV (boxAt B id) b).1 = true then aset (metC B b (v.2.2.take j) (metL B (pl C) b (lst.take i))) id true else metC B b (v.2.2.take j) (metL B (pl C) b (lst.take i)) := by
          rw [htj]
          unfold metC
          rw [List.foldl_append, List.foldl_cons, List.foldl_nil]
        refine asI_i rfl (lv_i (dw_mk ?_))
        have hx6 : Ext (onl mm) w3 w5.drew := hx5.then (Ext.drew w5) fun k _ hk => hk.elim
        have h6 := gG _ hx6
        have hS6 := gS _ hx6
        have hm6 : Mp w5.drew mm ki kb' _ bs5 clk5 := hm5.ext (Ext.drew w5) fun h => h
        refine dr_i (ld_mk h6.ld1 (asM_i rfl ?_))
        have hlk2 := h6.bm.lookup keyI und_mb zero_box id ⟨trivial, fun _ _ => trivial⟩
        have e2 : (Option.map Bx.v (aget B id)).getD (Bx.v ⟨0, 0, 0⟩) = (boxAt B id).v := by unfold boxAt; cases aget B id <;> rfl
        rw [e2] at hlk2
        refine rq_mk hlk2 (asA_i (l := (boxAt B id).cells) rfl rfl (asI_i rfl (asI_i rfl (asI_i rfl ?_))))
        refine hS6.ld0 0 rfl rfl (asI_i rfl (hS6.ld 0 rfl rfl (asI_i rfl (hS6.ld 0 rfl rfl (asI_i rfl ?_)))))
        show cl Tryd.prog 12 #[(boxAt B id).v, b.v] w5.drew _
        refine meet_k fun w7 hx7 => asT_i rfl rfl (asB_i rfl (asI_i rfl ?_))
        have hx7' : Ext (onl mm) w3 w7 := hx6.then hx7 fun k _ hk => hk.elim
        have h7 := gG _ hx7'
        have hm7 := hm6.ext hx7 fun h => h
        refine hd_i h7.ld1 (lv_i (cond_split (fun hmt => ?_) (fun hmt => ?_)))
        · have hmt' : (meetV (boxAt B id) b).1 = true := hmt
          rw [if_pos hmt'] at hmj
          refine hm7.update keyI und_mi id ⟨trivial, fun _ _ => trivial⟩ true fun w8 bs8 clk8 hm8 hx8 _ => hJ3 _ _ ⟨hx7'.trans hx8, bs8, clk8, ?_⟩
          rw [hmj]
          exact hm8
        · have hmt' : ¬ (meetV (boxAt B id) b).1 = true := by rw [show (meetV (boxAt B id) b).1 = false from hmt]; decide
          rw [if_neg hmt'] at hmj
          exact hJ3 _ _ ⟨hx7', bs5, clk5, by rw [hmj]; exact hm7⟩
    · have hjl : j = v.2.2.length := by
        have := of_decide_eq_false hc
        omega
      rw [ei]
      refine hJ (lst.length - (i + 1)) (i + 1) w5 (by omega) ⟨rfl, by omega, hx5, bs5, clk5, ?_⟩
      rw [hmetS]
      rw [hjl, List.take_length] at hm5
      exact hm5
  · have hil : i = lst.length := by
      have := of_decide_eq_false hc
      omega
    rw [hil, List.take_length] at hm4
    clear hJ hc
    have eN : gnearV s B (pl C) b = ((metL B (pl C) b lst).map (·.1)).mergeSort leI := by unfold gnearV; rw [hlst]
    have hnd := nodup_metL (B := B) (D := pl C) (b := b) lst
    obtain ⟨D0, hown, hperm, hsize⟩ := hm4.own hnd hI (le_maxLen (by omega))
    refine keys_cl (asN_i rfl ?_)
    refine sorted_cl mm _ D0 _ w4 hown (by rw [hsize]; exact le_maxLen (by omega)) (by omega) ?_
    intro v ss w5 hp hrow hx5
    have hss : ss.mergeSort (fun x y => decide (x ≤ y)) = gnearV s B (pl C) b := by
      rw [eN]
      exact Go.mergeSort_of_perm_i (hp.trans hperm)
    have hl5 : ss.length = (iv .i64 (gnearV s B (pl C) b)).length := by rw [iv_length, ← hss, List.length_mergeSort]
    rw [hss, hl5] at hrow
    obtain ⟨p5, c5, rfl, hr5⟩ := row_of hrow
    have hx : Ext no w w5 := (gS w4 hx4).ext.trans hx5
    refine asS_i rfl (lv_i ?_)
    rw [iv_length]
    exact hK p5 c5 w5 hx (hr5.mono (gS w4 hx4).ext.size)
end Go.Proofs.YtamobmjfdiecbaaDoor

/- GrA: a grid beside blocks of one's own; cells of points; the document's examples of grids come out (awake). Conditions: those of each theorem, on its arguments. -/
namespace Go.Proofs.YtamobmjfdiecbaaDoor
open Go Go.Sx Go.Fp
attribute [local irreducible] jn lv ld st nw asI asB asP asS asY asM asF asA asT lp rn ru rq cl dw dr bnd bn2 nz nn hd hr so eqW
attribute [local irreducible] callOk

/-! ### cells of points -/
def gcellE (s x y : Int) : Int := if sideOk s = true then if isCell (x / s) (y / s) = true then 0 else 40 else 1
def gcellP (s x y : Int) : Int × Int := if gcellE s x y = 0 then (x / s, y / s) else (0, 0)
theorem nat_div {x s : Int} (hx : I64 x) (hs : 1 ≤ s) : (x / s).natAbs < 18446744073709551616 := by
  obtain ⟨h1, h2⟩ := hx
  have d := div_bound (n := x) hs
  rcases Int.lt_or_le x 0 with h | h
  · have := d.2 h; omega
  · have := d.1 h; omega
theorem cv0 : cv (0, 0) = .complex .f64 0 0 := by
  have : F 0 = 0 := by decide
  unfold cv
  simp only [this]

/-! ### a grid beside blocks of one's own -/
theorem putL_len' {l : List (Int × Int)} {id : Int} : ∀ {D : List ((Int × Int) × List Int)} (x : Int × Int), ((aget (putL D l id) x).getD []).length ≤ ((aget D x).getD []).length + l.length := by
  induction l with
  | nil => intro D x; exact Nat.le_refl _
  | cons c l ih =>
    intro D x
    have h1 := ih (D := addTo D c id) x
    have h2 := addTo_len (D := D) (c := c) (id := id) x
    have e : putL D (c :: l) id = putL (addTo D c id) l id := rfl
    rw [e, List.length_cons]
    omega
theorem gputD_len {s : Int} {B : List (Int × Bx)} {D : List ((Int × Int) × List Int)} {id : Int} {b : Bx} (x : Int × Int) : ((aget (gputD s B D id b) x).getD []).length ≤ ((aget D x).getD []).length + 1024 := by
  unfold gputD
  split
  · have := putL_len' (D := D) (l := cellsL' s b) (id := id) x
    have := cells_len (s := s) (b := b)
    omega
  · omega

structure Gw (W w : World) (L : List (Nat × List Value × TypeId)) (g : Nat) (s : Int) (B : List (Int × Bx)) (D : List ((Int × Int) × List Int)) (N : Nat) : Prop where
  st : St W w L
  gr : ∃ F mb mc C bb kb bc kc, Gr w F g mb mc s B C bb kb bc kc ∧ pl C = D ∧ (∀ x, ((aget D x).getD []).length ≤ N) ∧ ∀ k, F k → W.heap.size ≤ k ∧ ∀ b ∈ L, b.1 ≠ k

section
variable {W w : World} {L : List (Nat × List Value × TypeId)} {g : Nat} {s : Int} {B : List (Int × Bx)} {D : List ((Int × Int) × List Int)} {N : Nat}

theorem Gw.to (h : Gw W w L g s B D N) {w' : World} (hx : Ext no w w') : Gw W w' L g s B D N := by
  obtain ⟨F, mb, mc, C, bb, kb, bc, kc, h1, h2, h3, h4⟩ := h.gr
  exact ⟨h.st.to hx, F, mb, mc, C, bb, kb, bc, kc, h1.ext hx fun _ _ h => h, h2, h3, h4⟩

theorem Gw.start {w0 : World} (hs : St W w0 L) {F : Nat → Prop} {mb mc : Nat} (h : Gr w F g mb mc s [] [] [] 0 [] 0) (hx : Ext no w0 w) (hF : ∀ k, F k → w0.heap.size ≤ k) : Gw W w L g s [] [] 0 := by
  refine ⟨hs.to hx, F, mb, mc, [], [], 0, [], 0, h, rfl, fun x => Nat.zero_le _, fun k hk => ?_⟩
  have h1 := hF k hk
  have h2 := hs.ext.size
  refine ⟨by omega, fun b hb => ?_⟩
  have := blk_lt (hs.kn b hb).1
  omega

theorem Gw.put (h : Gw W w L g s B D N) (hN : N ≤ 549755813888) {id : Int} {b : Bx} {K : Value → World → Prop}
    (hK : ∀ w', Gw W w' L g s (gputB s B id b) (gputD s B D id b) (N + 1024) → K (.int .i64 (gputE s B id b)) w') :
    cl Tryd.prog 35 #[.pointer (some ⟨g, 0, none⟩), .int .i64 id, b.v] w K := by
  obtain ⟨F, mb, mc, C, bb, kb, bc, kc, h1, h2, h3, h4⟩ := h.gr
  refine gPut_k h1 (fun x => by rw [h2]; have := h3 x; omega) fun w' F' C' bb' kb' bc' kc' hg hp hx hF _ => hK w' ?_
  rw [h2] at hp
  refine ⟨h.st.toX hx (fun k hk => (h4 k hk).1) (fun b hb hk => (h4 _ hk).2 b hb rfl), F', mb, mc, C', bb', kb', bc', kc', hg, hp, fun x => ?_, fun k hk => ?_⟩
  · have := gputD_len (s := s) (B := B) (D := D) (id := id) (b := b) x
    have := h3 x
    omega
  · rcases hF k hk with hk | hk
    · exact h4 k hk
    · have := h.st.ext.size
      refine ⟨by omega, fun b hb => ?_⟩
      have := blk_lt (h.st.kn b hb).1
      omega

theorem Gw.move0 (h : Gw W w L g s B D N) (hN : N ≤ 549755813888) {id : Int} {b : Bx} (h0 : aget B id = none) {K : Value → World → Prop}
    (hK : ∀ w', Gw W w' L g s B D N → K (.int .i64 181) w') :
    cl Tryd.prog 41 #[.pointer (some ⟨g, 0, none⟩), .int .i64 id, b.v] w K := by
  obtain ⟨F, mb, mc, C, bb, kb, bc, kc, h1, h2, h3, h4⟩ := h.gr
  have hE : gmoveE s B id b = 181 := by unfold gmoveE; rw [h0]; rfl
  refine gMove_k h1 (fun x => by rw [h2]; have := h3 x; omega) fun w' F' C' bb' kb' bc' kc' hg hp hx hF _ => ?_
  rw [hE]
  rw [h2] at hp
  unfold gmoveB at hg
  unfold gmoveD at hp
  rw [hE, if_neg (by decide)] at hg hp
  refine hK w' ⟨h.st.toX hx (fun k hk => (h4 k hk).1) (fun b hb hk => (h4 _ hk).2 b hb rfl), F', mb, mc, C', bb', kb', bc', kc', hg, hp, h3, fun k hk => ?_⟩
  rcases hF k hk with hk | hk
  · exact h4 k hk
  · have := h.st.ext.size
    refine ⟨by omega, fun b hb => ?_⟩
    have := blk_lt (h.st.kn b hb).1
    omega

/-- a block laid since -/
theorem Gw.add (h : Gw W w L g s B D N) {w' : World} (hx : Ext no w w') {q : Nat} {cs : List Value} {t : TypeId} (hq : w.heap.size ≤ q) (hb : w'.heap[q]? = some (.cells cs.toArray t (0, 0))) : Gw W w' ((q, cs, t) :: L) g s B D N := by
  obtain ⟨F, mb, mc, C, bb, kb, bc, kc, h1, h2, h3, h4⟩ := h.gr
  have hs' := h.st.to hx
  have := h.st.ext.size
  refine ⟨⟨hs'.ext, fun b hb' => ?_, List.Pairwise.cons (fun b hb' => ?_) hs'.nd⟩, F, mb, mc, C, bb, kb, bc, kc, h1.ext hx fun _ _ h => h, h2, h3, fun k hk => ⟨(h4 k hk).1, fun b hb' => ?_⟩⟩
  · rcases List.mem_cons.1 hb' with rfl | hb'
    · exact ⟨hb, by simp only; omega⟩
    · exact hs'.kn b hb'
  · have := blk_lt (h.st.kn b hb').1
    simp only
    omega
  · rcases List.mem_cons.1 hb' with rfl | hb'
    · have := h1.lt k hk
      simp only
      omega
    · exact (h4 k hk).2 b hb'
theorem Gw.tail {x : Nat × List Value × TypeId} (h : Gw W w (x :: L) g s B D N) : Gw W w L g s B D N := by
  obtain ⟨F, mb, mc, C, bb, kb, bc, kc, h1, h2, h3, h4⟩ := h.gr
  exact ⟨h.st.tail, F, mb, mc, C, bb, kb, bc, kc, h1, h2, h3, fun k hk => ⟨(h4 k hk).1, fun b hb => (h4 k hk).2 b (List.mem_cons_of_mem _ hb)⟩⟩

def HoldsV (LL : List (Nat × List Value × TypeId)) (p : Option Addr) (vs : List Value) : Prop := ∀ w : World, (∀ b ∈ LL, w.heap[b.1]? = some (.cells b.2.1.toArray b.2.2 (0, 0))) → Reads w p vs
theorem Gw.reads {LL : List (Nat × List Value × TypeId)} {p : Option Addr} {vs : List Value} (h : Gw W w L g s B D N) (hH : HoldsV LL p vs) (hs : ∀ b ∈ LL, b ∈ L) : Reads w p vs := hH w fun b hb => (h.st.kn b (hs b hb)).1

theorem Gw.near (h : Gw W w L g s B D N) (hN : N ≤ 549755813888) {b : Bx} (hI : ∀ x ∈ metL B D b (cellsL' s b), I64 x.1) (hM : (metL B D b (cellsL' s b)).length ≤ 1099511627776) {K : Value → World → Prop}
    (hK : ∀ p c w' LL, Gw W w' (LL ++ L) g s B D N → HoldsV LL p (iv .i64 (gnearV s B D b)) → Row w' w.heap.size 3 p c (iv .i64 (gnearV s B D b)) → K (.tuple #[.slice p (gnearV s B D b).length c, .int .i64 (cellsE s b)]) w') :
    cl Tryd.prog 32 #[.pointer (some ⟨g, 0, none⟩), b.v] w K := by
  obtain ⟨F, mb, mc, C, bb, kb, bc, kc, h1, h2, h3, h4⟩ := h.gr
  rw [← h2] at hI hM hK
  refine gNear_k h1 hI hM (fun x => by rw [h2]; have := h3 x; omega) fun p c w' hx hr => ?_
  have hG : Gw W w L g s B (pl C) N := by rw [h2]; exact h
  rcases hr.cases with ⟨rfl, _, h0⟩ | ⟨q, cur, rfl, hq, hb, _, _, _, ht⟩
  · exact hK none c w' [] (hG.to hx) (fun _ _ => .inl h0) hr
  · refine hK _ c w' [(q, cur.toList, _)] (hG.add hx hq (by simpa using hb)) (fun w1 hw1 => .inr ⟨q, 0, rfl, fun i v hv => ?_⟩) hr
    have hb1 := hw1 _ List.mem_cons_self
    rw [blk_cell hb1, Nat.zero_add]
    rw [← ht, List.getElem?_take] at hv
    split at hv
    · simpa using hv
    · cases hv
end

/-! ### the document's examples -/
def aB1 : List (Int × Bx) := gputB 10 [] 7 ⟨0, 0, 2⟩
def aD1 : List ((Int × Int) × List Int) := gputD 10 [] [] 7 ⟨0, 0, 2⟩
def aB2 : List (Int × Bx) := gputB 10 aB1 3 ⟨3, 0, 2⟩
def aD2 : List ((Int × Int) × List Int) := gputD 10 aB1 aD1 3 ⟨3, 0, 2⟩
def aB3 : List (Int × Bx) := gputB 10 aB2 7 ⟨0, 0, 2⟩
theorem aMet : metL aB2 aD2 ⟨1, 0, 1⟩ (cellsL' 10 ⟨1, 0, 1⟩) = [(7, true), (3, true)] := by decide
theorem aNear : gnearV 10 aB2 aD2 ⟨1, 0, 1⟩ = [3, 7] := by
  unfold gnearV
  rw [aMet]
  have hp : ([7, 3] : List Int).Perm [3, 7] := List.Perm.swap _ _ _
  have h1 := Go.mergeSort_of_perm_i hp
  have h2 : ([3, 7] : List Int).mergeSort leI = [3, 7] := List.mergeSort_of_pairwise (by decide)
  rw [h2] at h1
  exact h1
theorem aCells : cellsL' 10 ⟨10, 0, 1⟩ = [(0, -1), (1, -1), (0, 0), (1, 0)] := by decide

end Go.Proofs.YtamobmjfdiecbaaDoor

/- GrM: the plain law of grids: what lies in the cells is what the boxes touch; who meets has a cell in common; Near finds just those that meet. Conditions: those of each theorem, on its arguments. -/
namespace Go.Proofs.YtamobmjfdiecbaaDoor
open Go Go.Sx Go.Fp

theorem meet_iff {a b : Bx} : (meetV a b).1 = true ↔ (a.right = true ∧ b.right = true) ∧ gap a b false < 0 ∧ gap a b true < 0 := by
  unfold meetV gapV
  split
  · rename_i h
    simp [h]
  · rename_i h
    simp [h]

theorem meet_common {s : Int} {a b : Bx} (ha : cellsE s a = 0) (hb : cellsE s b = 0) (h : (meetV a b).1 = true) : ∃ c, c ∈ cellsL' s a ∧ c ∈ cellsL' s b := by
  obtain ⟨⟨ra, rb⟩, hx, hy⟩ := meet_iff.1 h
  obtain ⟨hs, _⟩ := cellsE_zero ha
  have hs1 : 1 ≤ s ∧ s ≤ 1099511627776 := by simpa [sideOk] using hs
  have a1 := right_iff.1 ra
  have b1 := right_iff.1 rb
  simp only [gap, adiff, Bx.at] at hx hy
  have mono : ∀ {x y : Int}, x ≤ y → x / s ≤ y / s := fun h => Int.ediv_le_ediv (by omega) h
  have X1 : a.x - a.r ≤ b.x + b.r - 1 := by revert hx; simp; omega
  have X2 : b.x - b.r ≤ a.x + a.r - 1 := by revert hx; simp; omega
  have Y1 : a.y - a.r ≤ b.y + b.r - 1 := by revert hy; simp; omega
  have Y2 : b.y - b.r ≤ a.y + a.r - 1 := by revert hy; simp; omega
  have m1 := mono X1
  have m2 := mono X2
  have m3 := mono Y1
  have m4 := mono Y2
  have la := span_le hs1.1 ra
  have lb := span_le hs1.1 rb
  simp only [spanOf] at la lb
  refine ⟨(max ((a.x - a.r) / s) ((b.x - b.r) / s), max ((a.y - a.r) / s) ((b.y - b.r) / s)), mem_cells.2 ⟨ha, ?_, ?_⟩, mem_cells.2 ⟨hb, ?_, ?_⟩⟩ <;> simp only [spanOf] <;> omega

theorem key_aset {A : List (Int × Bool)} {a x : Int} : x ∈ (aset A a true).map (·.1) ↔ x = a ∨ x ∈ A.map (·.1) := by
  rw [aset_keys]
  split
  · rename_i h
    constructor
    · exact .inr
    · rintro (rfl | h')
      · exact h
      · exact h'
  · simp only [List.mem_append, List.mem_singleton]
    exact Or.comm

theorem mem_metC {B : List (Int × Bx)} {b : Bx} {x : Int} : ∀ {ids : List Int} {A : List (Int × Bool)}, x ∈ (metC B b ids A).map (·.1) ↔ x ∈ A.map (·.1) ∨ (x ∈ ids ∧ (meetV (boxAt B x) b).1 = true)
  | [], A => by simp [metC]
  | id :: ids, A => by
    have e : metC B b (id :: ids) A = metC B b ids (if (meetV (boxAt B id) b).1 = true then aset A id true else A) := rfl
    rw [e, mem_metC]
    split
    · rename_i h
      rw [key_aset]
      constructor
      · rintro ((rfl | h1) | ⟨h1, h2⟩)
        · exact .inr ⟨List.mem_cons_self, h⟩
        · exact .inl h1
        · exact .inr ⟨List.mem_cons_of_mem _ h1, h2⟩
      · rintro (h1 | ⟨h1, h2⟩)
        · exact .inl (.inr h1)
        · rcases List.mem_cons.1 h1 with rfl | h1
          · exact .inl (.inl rfl)
          · exact .inr ⟨h1, h2⟩
    · rename_i h
      constructor
      · rintro (h1 | ⟨h1, h2⟩)
        · exact .inl h1
        · exact .inr ⟨List.mem_cons_of_mem _ h1, h2⟩
      · rintro (h1 | ⟨h1, h2⟩)
        · exact .inl h1
        · rcases List.mem_cons.1 h1 with rfl | h1
          · exact absurd h2 h
          · exact .inr ⟨h1, h2⟩

theorem mem_metL {B : List (Int × Bx)} {D : List ((Int × Int) × List Int)} {b : Bx} {l : List (Int × Int)} {x : Int} : x ∈ (metL B D b l).map (·.1) ↔ (∃ c ∈ l, x ∈ (aget D c).getD []) ∧ (meetV (boxAt B x) b).1 = true := by
  have key : ∀ (l : List (Int × Int)) (A : List (Int × Bool)), x ∈ (l.foldl (fun A c => metC B b ((aget D c).getD []) A) A).map (·.1) ↔ x ∈ A.map (·.1) ∨ ((∃ c ∈ l, x ∈ (aget D c).getD []) ∧ (meetV (boxAt B x) b).1 = true) := by
    intro l
    induction l with
    | nil => intro A; simp
    | cons c l ih =>
      intro A
      rw [List.foldl_cons, ih, mem_metC]
      constructor
      · rintro ((h | ⟨h1, h2⟩) | ⟨⟨d, h1, h2⟩, h3⟩)
        · exact .inl h
        · exact .inr ⟨⟨c, List.mem_cons_self, h1⟩, h2⟩
        · exact .inr ⟨⟨d, List.mem_cons_of_mem _ h1, h2⟩, h3⟩
      · rintro (h | ⟨⟨d, h1, h2⟩, h3⟩)
        · exact .inl (.inl h)
        · rcases List.mem_cons.1 h1 with rfl | h1
          · exact .inl (.inr ⟨h2, h3⟩)
          · exact .inr ⟨⟨d, h1, h2⟩, h3⟩
  have := key l []
  simpa [metL] using this

theorem mem_putL {l : List (Int × Int)} {id x : Int} : ∀ {D : List ((Int × Int) × List Int)} (c : Int × Int), x ∈ (aget (putL D l id) c).getD [] ↔ x ∈ (aget D c).getD [] ∨ (x = id ∧ c ∈ l) := by
  induction l with
  | nil => intro D c; simp [putL]
  | cons d l ih =>
    intro D c
    have e : putL D (d :: l) id = putL (addTo D d id) l id := rfl
    rw [e, ih]
    unfold addTo
    rw [aget_aset]
    by_cases h : c = d
    · subst h
      rw [if_pos rfl]
      simp only [Option.getD_some, List.mem_append, List.mem_cons, List.not_mem_nil, or_false, true_or, and_true]
      constructor
      · rintro ((h | h) | ⟨h, _⟩)
        · exact .inl h
        · exact .inr h
        · exact .inr h
      · rintro (h | h)
        · exact .inl (.inl h)
        · exact .inl (.inr h)
    · rw [if_neg h]
      simp only [List.mem_cons, h, false_or]

/-- what lies in the cells is what the boxes touch -/
structure Cons (s : Int) (B : List (Int × Bx)) (D : List ((Int × Int) × List Int)) : Prop where
  cell : ∀ (c : Int × Int) (x : Int), x ∈ (aget D c).getD [] ↔ ∃ b, aget B x = some b ∧ c ∈ cellsL' s b
  ok : ∀ x b, aget B x = some b → cellsE s b = 0 ∧ 0 ≤ x

theorem Cons.nil (s : Int) : Cons s [] [] := ⟨fun c x => by simp [aget, afind], fun x b h => by simp [aget, afind] at h⟩

theorem Cons.put {s : Int} {B : List (Int × Bx)} {D : List ((Int × Int) × List Int)} (h : Cons s B D) (id : Int) (b : Bx) : Cons s (gputB s B id b) (gputD s B D id b) := by
  unfold gputB gputD
  by_cases h0 : gputE s B id b = 0
  · rw [if_pos h0, if_pos h0]
    unfold gputE at h0
    split at h0
    · cases h0
    · rename_i hid
      split at h0
      · cases h0
      · rename_i hn
        have hn' : aget B id = none := by simpa using hn
        refine ⟨fun c x => ?_, fun x b' hx => ?_⟩
        · rw [mem_putL, h.cell, aget_aset]
          by_cases hx : x = id
          · subst hx
            rw [if_pos rfl, hn']
            constructor
            · rintro (⟨b', h1, _⟩ | ⟨_, h1⟩)
              · cases h1
              · exact ⟨b, rfl, h1⟩
            · rintro ⟨b', h1, h2⟩
              cases h1
              exact .inr ⟨rfl, h2⟩
          · rw [if_neg hx]
            simp [hx]
        · rw [aget_aset] at hx
          split at hx
          · rename_i he
            cases hx
            exact ⟨h0, by omega⟩
          · exact h.ok x b' hx
  · rw [if_neg h0, if_neg h0]
    exact h

/-- Near finds just those that meet -/
theorem Cons.near {s : Int} {B : List (Int × Bx)} {D : List ((Int × Int) × List Int)} (h : Cons s B D) {b : Bx} (hb : cellsE s b = 0) (x : Int) : x ∈ (metL B D b (cellsL' s b)).map (·.1) ↔ ∃ a, aget B x = some a ∧ (meetV a b).1 = true := by
  rw [mem_metL]
  constructor
  · rintro ⟨⟨c, _, h2⟩, h3⟩
    obtain ⟨a, h4, _⟩ := (h.cell c x).1 h2
    refine ⟨a, h4, ?_⟩
    have : boxAt B x = a := by unfold boxAt; rw [h4]; rfl
    rwa [this] at h3
  · rintro ⟨a, h1, h2⟩
    obtain ⟨c, h3, h4⟩ := meet_common (h.ok x a h1).1 hb h2
    refine ⟨⟨c, h4, (h.cell c x).2 ⟨a, h1, h3⟩⟩, ?_⟩
    have : boxAt B x = a := by unfold boxAt; rw [h1]; rfl
    rw [this]
    exact h2
end Go.Proofs.YtamobmjfdiecbaaDoor

/- GrW: the world's call Near, as a contract over lists of places. Conditions: those of each theorem, on its arguments. -/
namespace Go.Proofs.YtamobmjfdiecbaaDoor
open Go Go.Sx Go.Fp
attribute [local irreducible] jn lv ld st nw asI asB asP asS asY asM asF asA asT lp rn ru rq cl dw dr bnd bn2 nz nn hd hr so eqW
attribute [local irreducible] callOk

/-- is somebody at a place who meets a box? -/
def pT (S : List Spot) (b : Bx) (i : Nat) : Bool := (meetV (S.getD i Spot.zero).e.box b).1 && (S.getD i Spot.zero).there
def hT (S : List Spot) (i : Nat) : Int := (S.getD i Spot.zero).e.h
def outW (S : List Spot) (b : Bx) : List Int := if b.right = true then ((List.range 64).filter (pT S b)).map (hT S) else []
def nz' (l : List Nat) : List Int := l.map fun (i : Nat) => (i : Int)

theorem range_sorted (p : Nat → Bool) (n : Nat) : (nz' ((List.range n).filter p)).mergeSort leI = nz' ((List.range n).filter p) := by
  refine List.mergeSort_of_pairwise ?_
  unfold nz'
  rw [List.pairwise_map]
  have h := (List.pairwise_lt_range (n := n)).filter p
  refine h.imp fun {a b} hab => ?_
  simp only [decide_eq_true_eq]
  omega

theorem near_places {B : List (Int × Bx)} {D : List ((Int × Int) × List Int)} {S : List Spot} {b : Bx} (h : ∀ x, x ∈ (metL B D b (cellsL' wside b)).map (·.1) ↔ ∃ i : Nat, x = (i : Int) ∧ i < 64 ∧ pT S b i = true) : gnearV wside B D b = nz' ((List.range 64).filter (pT S b)) := by
  rw [← range_sorted]
  unfold gnearV
  refine Go.mergeSort_of_perm_i ((List.perm_ext_iff_of_nodup (nodup_metL _) ?_).2 fun x => ?_)
  · unfold nz'
    refine List.Pairwise.map _ (fun a b hab e => hab ?_) ((List.nodup_range (n := 64)).filter (pT S b))
    have e' : (a : Int) = (b : Int) := e
    omega
  · rw [h]
    unfold nz'
    simp only [List.mem_map, List.mem_filter, List.mem_range]
    constructor
    · rintro ⟨i, rfl, h1, h2⟩
      exact ⟨i, ⟨h1, h2⟩, rfl⟩
    · rintro ⟨i, ⟨h1, h2⟩, rfl⟩
      exact ⟨i, rfl, h1, h2⟩

set_option maxHeartbeats 4000000 in
theorem wnear_k {w : World} {F : Nat → Prop} {r g : Nat} {S : List Spot} {B : List (Int × Bx)} {D : List ((Int × Int) × List Int)} {N : Nat} (h : Wd w F r g S B D N) (hN : N ≤ 1000000000) {b : Bx}
    (hI : ∀ x ∈ metL B D b (cellsL' wside b), I64 x.1) (hkeys : cellsE wside b = 0 → ∀ x, x ∈ (metL B D b (cellsL' wside b)).map (·.1) ↔ ∃ i : Nat, x = (i : Int) ∧ i < 64 ∧ pT S b i = true) (hml : (metL B D b (cellsL' wside b)).length ≤ 1099511627776) {K : Value → World → Prop}
    (hK : ∀ p c w', Ext no w w' → Row w' w.heap.size 3 p c (iv .i64 (outW S b)) → K (.tuple #[.slice p (outW S b).length c, .int .i64 b.rightE]) w') :
    cl Tryd.prog 16 #[.pointer (some ⟨r, 0, none⟩), b.v] w K := by
  apply F16_calls
  unfold F16
  have hS := St.start w
  (refine St.nw hS ?_; clear hS; intro r1 _ hS)
  refine lv_i (hS.ld0 0 rfl rfl (asI_i rfl (hS.ld 0 rfl rfl (asI_i rfl (hS.ld 0 rfl rfl (asI_i rfl ?_))))))
  refine right_k (b := b) fun w1 hx1 => asI_i rfl (lv_i ?_)
  replace hS := hS.to hx1
  refine cond_split (fun he => lv_i ?_) (fun he => ?_)
  · have hr : ¬ b.right = true := by
      intro hr
      unfold Bx.rightE at he
      rw [if_pos hr] at he
      cases he
    have e1 : outW S b = [] := by unfold outW; rw [if_neg hr]
    have := hK none 0 w1 hS.ext (by rw [e1]; exact Row.nil _ _ _)
    rw [e1] at this
    exact this
  have hr : b.right = true := by
    unfold Bx.rightE at he
    by_cases hr : b.right = true
    · exact hr
    · rw [if_neg hr] at he; cases he
  have hrE : b.rightE = 0 := by unfold Bx.rightE; rw [if_pos hr]
  rw [hrE] at hK
  have eO : outW S b = ((List.range 64).filter (pT S b)).map (hT S) := by unfold outW; rw [if_pos hr]
  refine hS.dw fun w2 hS _ => ?_
  have h2 := h.ext hS.ext fun _ _ h => h
  have h64 := h2.ws.len
  refine dr_i (ld_mk h2.ws.cell0 (asP_i rfl (hS.ld0 0 rfl rfl (asI_i rfl (hS.ld 0 rfl rfl (asI_i rfl (hS.ld 0 rfl rfl (asI_i rfl ?_))))))))
  obtain ⟨mb, mc, C, bb, kb, bc, kc, hg, rfl⟩ := h2.gr
  have hbd := h2.bd
  refine gNear_k hg hI hml (fun x => by have := hbd x; omega) fun p c w3 hx3 hr3 => ?_
  refine asT_i rfl rfl (asS_i rfl (asI_i rfl (lv_i ?_)))
  refine jn_of (fun t w' => ∃ p c pl, t = [.slice p pl.length c] ∧ Ext no w2 w' ∧ Row w' w2.heap.size 3 p c (iv .i64 (nz' pl)) ∧ (∀ i ∈ pl, i < 64) ∧ pl.length ≤ 64 ∧ pl.filter (pT S b) = (List.range 64).filter (pT S b)) ?_ ?_
  rotate_left
  · intro J hJ
    refine cond_split (fun he => ?_) (fun he => ?_)
    · have he' : cellsE wside b ≠ 0 := by simpa using he
      have e0 : gnearV wside B (pl C) b = [] := by
        have : cellsL' wside b = [] := by unfold cellsL'; rw [if_neg he']
        unfold gnearV
        rw [this]
        simp [metL]
      rw [e0] at hr3 ⊢
      refine lp_mk (fun t : (Option Addr × Nat) × Nat => [.slice t.1.1 t.2 t.1.2, .int .i64 (t.2 : Int)]) (fun m t w' => m = 64 - t.2 ∧ t.2 ≤ 64 ∧ Ext no w2 w' ∧ Row w' w2.heap.size 3 t.1.1 t.1.2 (iv .i64 (nz' (List.range t.2)))) 64 ((p, c), 0) rfl
        ⟨rfl, Nat.zero_le _, hx3, hr3⟩ ?_
      rintro _ ⟨⟨p, c⟩, i⟩ w4 ⟨rfl, hi, hx4, hr4⟩ J2 hJ2
      simp only at hi hr4 hJ2 ⊢
      refine asS_i rfl (asI_i rfl (cond_split (fun hc => ?_) (fun hc => ?_)))
      · have hil : i < 64 := by
          have := of_decide_eq_true hc
          omega
        have ei : IntKind.wrap .i64 ((i : Int) + 1) = ((i + 1 : Nat) : Int) := by rw [wr64 (by omega) (by omega)]; omega
        have hlr : (nz' (List.range i)).length = i := by simp [nz']
        refine lv_i (sI.app1 hr4 (by rw [iv_length, hlr]) hx4.size rfl (le_maxLen (by omega)) (by omega) fun p' c' w5 hr5 hx5 hM => asS_i rfl ?_)
        rw [ei]
        refine hJ2 (64 - (i + 1)) ((p', c'), i + 1) w5 (by omega) ⟨rfl, by simp only; omega, hx4.then hx5 fun k hk ⟨a, ha, hab⟩ => by
          have := (hr4.at ha).1
          omega, ?_⟩
        have e5 : iv .i64 (nz' (List.range (i + 1))) = iv .i64 (nz' (List.range i)) ++ [.int .i64 (i : Int)] := by simp [nz', iv, List.range_succ]
        simp only [e5]
        exact hr5
      · have hil : i = 64 := by
          have := of_decide_eq_false hc
          omega
        subst hil
        exact hJ _ _ ⟨p, c, List.range 64, by simp, hx4, hr4, by simp, by simp, rfl⟩
    · have he' : cellsE wside b = 0 := by simpa using he
      have e0 := near_places (hkeys he')
      rw [e0] at hr3 ⊢
      refine hJ _ _ ⟨p, c, (List.range 64).filter (pT S b), by simp [nz'], hx3, hr3, fun i hi => by simpa using (List.mem_filter.1 hi).1, ?_, ?_⟩
      · have := List.length_filter_le (pT S b) (List.range 64)
        simpa using this
      · rw [List.filter_filter]
        simp
  clear hr3 hx3 p c w3
  rintro _ w3 ⟨p, c, pl', rfl, hx3, hr3, hp64, hpl, hfil⟩
  have h3 := h2.ext hx3 fun _ _ h => h
  have hS3 := hS.to hx3
  refine asS_i rfl ?_
  refine lp_mk (fun t : (Option Addr × Nat × Nat) × Nat => [.slice t.1.1 t.1.2.1 t.1.2.2, .int .i64 (t.2 : Int)])
    (fun m t w' => m = pl'.length - t.2 ∧ t.2 ≤ pl'.length ∧ Ext no w3 w' ∧ t.1.2.1 = (((pl'.take t.2).filter (pT S b)).map (hT S)).length ∧ Row w' w3.heap.size 3 t.1.1 t.1.2.2 (iv .i64 (((pl'.take t.2).filter (pT S b)).map (hT S)))) pl'.length ((none, 0, 0), 0) rfl
    ⟨rfl, Nat.zero_le _, Ext.refl _ _, rfl, Row.nil _ _ _⟩ ?_
  rintro _ ⟨⟨p5, n5, c5⟩, i⟩ w5 ⟨rfl, hi, hx5, hn5, hr5⟩ J hJ
  simp only at hi hn5 hr5 hJ ⊢
  refine asS_i rfl (asI_i rfl (cond_split (fun hc => ?_) (fun hc => ?_)))
  · have hil : i < pl'.length := by
      have := of_decide_eq_true hc
      omega
    have ei : IntKind.wrap .i64 ((i : Int) + 1) = ((i + 1 : Nat) : Int) := by rw [wr64 (by omega) (by omega)]; omega
    have htk : pl'.take (i + 1) = pl'.take i ++ [pl'[i]] := by rw [List.take_add_one, List.getElem?_eq_getElem hil]; rfl
    have hj64 := hp64 _ (List.getElem_mem hil)
    have hRp := hr3.reads.ext hx5 fun _ _ h => h
    refine jn_of (fun t w' => ∃ p' n' c', t = [.slice p' n' c'] ∧ Ext no w3 w' ∧ n' = (((pl'.take (i + 1)).filter (pT S b)).map (hT S)).length ∧ Row w' w3.heap.size 3 p' c' (iv .i64 (((pl'.take (i + 1)).filter (pT S b)).map (hT S)))) ?_ ?_
    · rintro _ w6 ⟨p', n', c', rfl, hx6, hn6, hr6⟩
      refine asS_i rfl ?_
      rw [ei]
      exact hJ (pl'.length - (i + 1)) ((p', n', c'), i + 1) w6 (by omega) ⟨rfl, by simp only; omega, hx6, hn6, hr6⟩
    · intro J2 hJ2
      refine hRp.at (i := (i : Int)) (v := .int .i64 (pl'[i] : Int)) (by omega) (by simp [iv, nz', hil]) (asI_i rfl (lv_i ?_)) (by simp [iv, nz'])
      generalize pl'[i] = j at *
      have hs : S[j]? = some (S.getD j Spot.zero) := by
        rw [List.getD_eq_getElem?_getD, List.getElem?_eq_getElem (by omega)]
        rfl
      have hpT : pT S b j = ((meetV (S.getD j Spot.zero).e.box b).1 && (S.getD j Spot.zero).there) := rfl
      have hhT : hT S j = (S.getD j Spot.zero).e.h := rfl
      generalize S.getD j Spot.zero = s at *
      have hws5 := (h3.ext hx5 fun _ _ h => h).ws
      have hcell : ∀ k v, s.cells[k]? = some v → w5.cell? (Addr.add (Addr.add (Addr.add ⟨r, 0, none⟩ 1) (j * 10)) k) = some v := fun k v hv => by
        rw [add_mk, add_mk, add_mk, ← hws5.cell hs hv]
        congr 2
        omega
      have hcell0 : w5.cell? (Addr.add (Addr.add ⟨r, 0, none⟩ 1) (j * 10)) = some (.int .i64 s.gen) := by
        have := hcell 0 _ rfl
        rwa [Sx.add_zero'] at this
      refine dr_i (bnd_mk (by omega) (by omega) ?_)
      rw [Int.toNat_natCast]
      refine ld_mk hcell0 (asI_i rfl (ld_mk (hcell 1 _ rfl) (asB_i rfl (ld_mk (hcell 2 _ rfl) (asI_i rfl (ld_mk (hcell 3 _ rfl) (asI_i rfl (ld_mk (hcell 4 _ rfl) (asI_i rfl (ld_mk (hcell 5 _ rfl) (asI_i rfl (ld_mk (hcell 6 _ rfl) (asI_i rfl (ld_mk (hcell 7 _ rfl) (asI_i rfl (ld_mk (hcell 8 _ rfl) (asI_i rfl (ld_mk (hcell 9 _ rfl) (asI_i rfl ?_)))))))))))))))))))
      have hS5 := hS3.to hx5
      refine (St.start w5).nw (cs := [.int .i64 0, .bool false, .int .i64 0, .int .i64 0, .int .i64 0, .int .i64 0, .int .i64 0, .int .i64 0, .int .i64 0, .int .i64 0]) fun r89 w6 hZ => ?_
      refine hZ.st0 0 rfl rfl rfl fun w7 hZ => hZ.st 0 rfl rfl rfl fun w8 hZ => hZ.st 0 rfl rfl rfl fun w9 hZ => hZ.st 0 rfl rfl rfl fun w10 hZ => hZ.st 0 rfl rfl rfl fun w11 hZ => ?_
      refine hZ.st 0 rfl rfl rfl fun w12 hZ => hZ.st 0 rfl rfl rfl fun w13 hZ => hZ.st 0 rfl rfl rfl fun w14 hZ => hZ.st 0 rfl rfl rfl fun w15 hZ => hZ.st 0 rfl rfl rfl fun w16 hZ => ?_
      replace hZ : St w5 w16 [(r89, s.cells, 67)] := hZ
      have hb89 : ∀ {w' : World}, Ext no w16 w' → ∀ k v, s.cells[k]? = some v → w'.cell? ⟨r89, k, none⟩ = some v := fun hx k v hv => by
        rw [blk_cell ((hZ.to hx).kn _ List.mem_cons_self).1]
        simpa using hv
      have hS16 := hS5.to hZ.ext
      refine ld_mk (by rw [add_mk, add_mk]; exact hb89 (Ext.refl _ _) 3 _ rfl) (asI_i rfl (ld_mk (by rw [add_mk, add_mk, add_mk]; exact hb89 (Ext.refl _ _) 4 _ rfl) (asI_i rfl (ld_mk (by rw [add_mk, add_mk, add_mk]; exact hb89 (Ext.refl _ _) 5 _ rfl) (asI_i rfl ?_)))))
      refine hS16.ld0 0 rfl rfl (asI_i rfl (hS16.ld 0 rfl rfl (asI_i rfl (hS16.ld 0 rfl rfl (asI_i rfl ?_)))))
      refine meet_k (a := s.e.box) (b := b) fun w17 hx17 => asT_i rfl rfl (asB_i rfl (asI_i rfl (lv_i ?_)))
      have hX17 : Ext no w3 w17 := (hx5.trans hZ.ext).trans hx17
      have hr17 := (hr5.ext hZ.ext fun _ _ h => h).ext hx17 fun _ _ h => h
      refine jn_of (fun t w' => t = [.bool (pT S b j)] ∧ w' = w17) ?_ ?_
      · rintro _ w17 ⟨rfl, rfl⟩
        refine asB_i rfl (cond_split (fun h => ?_) (fun h => ?_))
        · refine ld_mk (by rw [add_mk]; exact hb89 hx17 2 _ rfl) (asI_i rfl ?_)
          have hlen : (((pl'.take i).filter (pT S b)).map (hT S)).length ≤ 64 := by
            rw [List.length_map]
            have h1 := List.length_filter_le (pT S b) (pl'.take i)
            rw [List.length_take] at h1
            omega
          refine sI.app1 hr17 (by rw [iv_length, hn5]) hX17.size rfl (le_maxLen (by omega)) (by omega) fun p' c' w18 hr18 hx18 hM => asS_i rfl (hJ2 _ _ ⟨p', n5 + 1, c', rfl, ?_, ?_, ?_⟩)
          · exact hX17.then hx18 fun k hk ⟨a, ha, hab⟩ => by
              have := (hr17.at ha).1
              omega
          · rw [htk, List.filter_append, List.map_append, List.length_append, ← hn5, List.filter_cons, if_pos h]
            rfl
          · rw [htk, List.filter_append, List.map_append, List.filter_cons, if_pos h]
            have e : iv .i64 (List.map (hT S) (List.filter (pT S b) (pl'.take i)) ++ List.map (hT S) (j :: List.filter (pT S b) [])) = iv .i64 (List.map (hT S) (List.filter (pT S b) (pl'.take i))) ++ [.int .i64 s.e.h] := by
              simp [iv, hhT]
            rw [e]
            exact hr18
        · refine hJ2 _ _ ⟨p5, n5, c5, rfl, hX17, ?_, ?_⟩
          · rw [htk, List.filter_append, List.filter_cons, if_neg (by rw [h]; decide)]
            simpa using hn5
          · rw [htk, List.filter_append, List.filter_cons, if_neg (by rw [h]; decide)]
            simpa using hr17
      · intro J3 hJ3
        refine cond_split (fun h => ld_mk (by rw [add_mk]; exact hb89 hx17 1 _ rfl) (asB_i rfl (hJ3 _ _ ⟨?_, rfl⟩))) (fun h => hJ3 _ _ ⟨?_, rfl⟩)
        · have h' : (meetV s.e.box b).1 = true := h
          rw [hpT, h']; rfl
        · have h' : (meetV s.e.box b).1 = false := h
          rw [hpT, h']; rfl
  · have hil : i = pl'.length := by
      have := of_decide_eq_false hc
      omega
    subst hil
    rw [List.take_length, hfil, ← eO] at hr5 hn5
    subst hn5
    refine lv_i (hK p5 c5 w5 ((hS3.ext).trans hx5) (hr5.mono hS3.ext.size))
end Go.Proofs.YtamobmjfdiecbaaDoor

/- GrO: the plain law of grids, on: boxes that are moved and dropped. Conditions: those of each theorem, on its arguments. -/
namespace Go.Proofs.YtamobmjfdiecbaaDoor
open Go Go.Sx Go.Fp

theorem mem_less {ids : List Int} {id x : Int} : x ∈ less ids id ↔ x ∈ ids ∧ x ≠ id := by
  unfold less
  rw [List.mem_filter]
  simp

theorem mem_dropC {D : List ((Int × Int) × List Int)} (hn : (D.map (·.1)).Nodup) {c d : Int × Int} {id x : Int} : x ∈ (aget (dropC D c id) d).getD [] ↔ x ∈ (aget D d).getD [] ∧ ¬ (x = id ∧ d = c) := by
  unfold dropC
  split
  · rename_i h0
    rw [aget_adel (nodup_aset hn), aget_aset]
    by_cases hd : d = c
    · subst hd
      simp only [if_true, Option.getD_none, List.not_mem_nil, false_iff, not_and, and_true]
      intro h1 h2
      have : x ∈ less ((aget D d).getD []) id := mem_less.2 ⟨h1, h2⟩
      rw [h0] at this
      cases this
    · rw [if_neg hd, if_neg hd]
      simp [hd]
  · rw [aget_aset]
    by_cases hd : d = c
    · subst hd
      rw [if_pos rfl, Option.getD_some, mem_less]
      simp
    · rw [if_neg hd]
      simp [hd]

theorem mem_dropL {l : List (Int × Int)} {id x : Int} : ∀ {D : List ((Int × Int) × List Int)} (_ : (D.map (·.1)).Nodup) (d : Int × Int), x ∈ (aget (dropL D l id) d).getD [] ↔ x ∈ (aget D d).getD [] ∧ ¬ (x = id ∧ d ∈ l) := by
  induction l with
  | nil => intro D _ d; simp [dropL]
  | cons c l ih =>
    intro D hn d
    have e : dropL D (c :: l) id = dropL (dropC D c id) l id := rfl
    rw [e, ih (dropC_nd hn), mem_dropC hn]
    simp only [List.mem_cons]
    constructor
    · rintro ⟨⟨h1, h2⟩, h3⟩
      refine ⟨h1, ?_⟩
      rintro ⟨h4, h5 | h5⟩
      · exact h2 ⟨h4, h5⟩
      · exact h3 ⟨h4, h5⟩
    · rintro ⟨h1, h2⟩
      exact ⟨⟨h1, fun ⟨h4, h5⟩ => h2 ⟨h4, .inl h5⟩⟩, fun ⟨h4, h5⟩ => h2 ⟨h4, .inr h5⟩⟩

theorem dropL_nd {l : List (Int × Int)} {id : Int} : ∀ {D : List ((Int × Int) × List Int)} (_ : (D.map (·.1)).Nodup), ((dropL D l id).map (·.1)).Nodup := by
  induction l with
  | nil => exact fun h => h
  | cons c l ih => exact fun h => ih (dropC_nd h)

/-- the box is out, in the cells as well -/
theorem Cons.out {s : Int} {B : List (Int × Bx)} {D : List ((Int × Int) × List Int)} (h : Cons s B D) (hB : (B.map (·.1)).Nodup) (hD : (D.map (·.1)).Nodup) {id : Int} (his : (aget B id).isSome = true) :
    Cons s (adel B id) (dropL D (cellsL' s (boxAt B id)) id) := by
  obtain ⟨a, ha⟩ := Option.isSome_iff_exists.1 his
  have hb : boxAt B id = a := by unfold boxAt; rw [ha]; rfl
  refine ⟨fun c x => ?_, fun x b' hx => ?_⟩
  · rw [mem_dropL hD, h.cell, aget_adel hB, hb]
    by_cases hx : x = id
    · subst hx
      rw [if_pos rfl]
      constructor
      · rintro ⟨⟨b', h1, h2⟩, h3⟩
        rw [ha] at h1
        cases h1
        exact absurd ⟨rfl, h2⟩ h3
      · rintro ⟨_, h1, _⟩
        cases h1
    · rw [if_neg hx]
      simp [hx]
  · rw [aget_adel hB] at hx
    split at hx
    · cases hx
    · exact h.ok x b' hx

theorem Cons.inn {s : Int} {B : List (Int × Bx)} {D : List ((Int × Int) × List Int)} (h : Cons s B D) {id : Int} (hid : 0 ≤ id) (hn : aget B id = none) {b : Bx} (hb : cellsE s b = 0) : Cons s (aset B id b) (putL D (cellsL' s b) id) := by
  have hE : gputE s B id b = 0 := by unfold gputE; rw [if_neg (by omega), hn]; exact hb
  have := h.put id b
  unfold gputB gputD at this
  rwa [if_pos hE, if_pos hE] at this

theorem Cons.drop {s : Int} {B : List (Int × Bx)} {D : List ((Int × Int) × List Int)} (h : Cons s B D) (hB : (B.map (·.1)).Nodup) (hD : (D.map (·.1)).Nodup) (id : Int) : Cons s (gdropB B id) (gdropD s B D id) := by
  unfold gdropB gdropD gdropE
  by_cases hi : (aget B id).isSome = true
  · rw [if_pos hi, if_pos rfl, if_pos rfl]
    exact h.out hB hD hi
  · rw [if_neg hi, if_neg (by decide), if_neg (by decide)]
    exact h

theorem Cons.move {s : Int} {B : List (Int × Bx)} {D : List ((Int × Int) × List Int)} (h : Cons s B D) (hB : (B.map (·.1)).Nodup) (hD : (D.map (·.1)).Nodup) (id : Int) (b : Bx) : Cons s (gmoveB s B id b) (gmoveD s B D id b) := by
  unfold gmoveB gmoveD
  by_cases h0 : gmoveE s B id b = 0
  · rw [if_pos h0, if_pos h0]
    unfold gmoveE at h0
    split at h0
    · rename_i hi
      obtain ⟨a, ha⟩ := Option.isSome_iff_exists.1 hi
      exact (h.out hB hD hi).inn (h.ok id a ha).2 (by rw [aget_adel hB, if_pos rfl]) h0
    · cases h0
  · rw [if_neg h0, if_neg h0]
    exact h

/-! ### the numbers that are there -/
theorem nd_put {s : Int} {B : List (Int × Bx)} (h : (B.map (·.1)).Nodup) {id : Int} {b : Bx} : ((gputB s B id b).map (·.1)).Nodup := by
  unfold gputB
  split
  · exact nodup_aset h
  · exact h
theorem nd_move {s : Int} {B : List (Int × Bx)} (h : (B.map (·.1)).Nodup) {id : Int} {b : Bx} : ((gmoveB s B id b).map (·.1)).Nodup := by
  unfold gmoveB
  split
  · exact nodup_aset (nodup_adel h)
  · exact h
theorem nd_drop {B : List (Int × Bx)} (h : (B.map (·.1)).Nodup) {id : Int} : ((gdropB B id).map (·.1)).Nodup := by
  unfold gdropB
  split
  · exact nodup_adel h
  · exact h
theorem nd_putL {l : List (Int × Int)} {id : Int} : ∀ {D : List ((Int × Int) × List Int)} (_ : (D.map (·.1)).Nodup), ((putL D l id).map (·.1)).Nodup := by
  induction l with
  | nil => exact fun h => h
  | cons c l ih => exact fun h => ih (nodup_aset h)
theorem get_put {s : Int} {B : List (Int × Bx)} {id x : Int} {b : Bx} : aget (gputB s B id b) x = if gputE s B id b = 0 ∧ x = id then some b else aget B x := by
  unfold gputB
  by_cases h : gputE s B id b = 0
  · rw [if_pos h, aget_aset]
    simp [h]
  · rw [if_neg h, if_neg (fun hh => h hh.1)]
theorem get_move {s : Int} {B : List (Int × Bx)} (hB : (B.map (·.1)).Nodup) {id x : Int} {b : Bx} : aget (gmoveB s B id b) x = if gmoveE s B id b = 0 ∧ x = id then some b else aget B x := by
  unfold gmoveB
  by_cases h : gmoveE s B id b = 0
  · rw [if_pos h, aget_aset, aget_adel hB]
    by_cases hx : x = id <;> simp [h, hx]
  · rw [if_neg h, if_neg (fun hh => h hh.1)]
theorem get_drop {B : List (Int × Bx)} (hB : (B.map (·.1)).Nodup) {id x : Int} : aget (gdropB B id) x = if x = id then none else aget B x := by
  unfold gdropB gdropE
  by_cases hi : (aget B id).isSome = true
  · rw [if_pos hi, if_pos rfl, aget_adel hB]
  · rw [if_neg hi, if_neg (by decide)]
    by_cases hx : x = id
    · subst hx
      rw [if_pos rfl]
      simpa using hi
    · rw [if_neg hx]
theorem mem_keys {B : List (Int × Bx)} {x : Int} : x ∈ B.map (·.1) ↔ (aget B x).isSome = true := by
  constructor
  · intro h
    cases hg : aget B x with
    | some b => rfl
    | none =>
      obtain ⟨y, hy, e⟩ := List.mem_map.1 h
      exact absurd e (aget_none.1 hg y hy)
  · intro h
    obtain ⟨b, hb⟩ := Option.isSome_iff_exists.1 h
    exact List.mem_map.2 ⟨(x, b), aget_mem hb, rfl⟩

theorem aset_len {A : List (Int × Bool)} {a : Int} {b : Bool} : (aset A a b).length ≤ A.length + 1 := by
  have h := congrArg List.length (aset_keys (A := A) (a := a) (b := b))
  rw [List.length_map] at h
  rw [h]
  split
  · rw [List.length_map]; omega
  · rw [List.length_append, List.length_map]; simp
theorem metC_len {B : List (Int × Bx)} {b : Bx} : ∀ {ids : List Int} {A : List (Int × Bool)}, (metC B b ids A).length ≤ A.length + ids.length
  | [], A => by simp [metC]
  | id :: ids, A => by
    have e : metC B b (id :: ids) A = metC B b ids (if (meetV (boxAt B id) b).1 = true then aset A id true else A) := rfl
    rw [e]
    refine Nat.le_trans metC_len ?_
    rw [List.length_cons]
    split
    · have := aset_len (A := A) (a := id) (b := true)
      omega
    · omega
theorem metL_len {B : List (Int × Bx)} {D : List ((Int × Int) × List Int)} {b : Bx} {N : Nat} (hN : ∀ x, ((aget D x).getD []).length ≤ N) (l : List (Int × Int)) : (metL B D b l).length ≤ l.length * N := by
  have key : ∀ (l : List (Int × Int)) (A : List (Int × Bool)), (l.foldl (fun A c => metC B b ((aget D c).getD []) A) A).length ≤ A.length + l.length * N := by
    intro l
    induction l with
    | nil => intro A; simp
    | cons c l ih =>
      intro A
      rw [List.foldl_cons, List.length_cons, Nat.add_mul]
      have h1 := ih (metC B b ((aget D c).getD []) A)
      have h2 := metC_len (B := B) (b := b) (ids := (aget D c).getD []) (A := A)
      have h3 := hN c
      omega
  have := key l []
  simpa [metL] using this

/-- two grids that hold the same -/
theorem same_perm {α : Type} {A A' : List (Int × α)} (hn : (A.map (·.1)).Nodup) (hn' : (A'.map (·.1)).Nodup) (h : ∀ x, x ∈ A.map (·.1) ↔ x ∈ A'.map (·.1)) : (A.map (·.1)).Perm (A'.map (·.1)) :=
  (List.perm_ext_iff_of_nodup hn hn').2 h

theorem same_near {s : Int} {B B' : List (Int × Bx)} {D D' : List ((Int × Int) × List Int)} (h : Cons s B D) (h' : Cons s B' D') (hS : ∀ x, aget B x = aget B' x) (b : Bx) : gnearV s B D b = gnearV s B' D' b := by
  unfold gnearV
  by_cases hb : cellsE s b = 0
  · refine Go.mergeSort_of_perm_i (same_perm (nodup_metL _) (nodup_metL _) fun x => ?_)
    rw [h.near hb, h'.near hb, hS]
  · have : cellsL' s b = [] := by unfold cellsL'; rw [if_neg hb]
    rw [this]
    rfl
end Go.Proofs.YtamobmjfdiecbaaDoor

/- WoL2: the law WorldSame comes out true for every input. Conditions: those of the law's arguments as they are read. -/
namespace Go.Proofs.YtamobmjfdiecbaaDoor
open Go Go.Sx Go.Fp
attribute [local irreducible] jn lv ld st nw asI asB asP asS asY asM asF asA asT lp rn ru rq cl dw dr bnd bn2 nz nn hd hr so eqW
attribute [local irreducible] callOk

/-- every place's handle is its generation and its number, and what is there is right -/
def Good (n : Nat) (S : List Spot) : Prop := ∀ (i : Nat) s, S[i]? = some s → i < 64 ∧ 0 ≤ s.gen ∧ s.gen ≤ (n : Int) ∧ (s.there = true → s.e.rightE = 0 ∧ s.e.h = s.gen * 64 + (i : Int) ∧ 1 ≤ s.gen ∧ s.e.I)

theorem Good.zero : Good 0 (List.replicate 64 Spot.zero) := fun i s h => by
  rw [List.getElem?_replicate] at h
  split at h
  · rename_i hi
    cases h
    exact ⟨hi, by decide, by decide, fun h => by cases h⟩
  · cases h
theorem Good.mono {n m : Nat} {S : List Spot} (h : Good n S) (hm : n ≤ m) : Good m S := fun i s hs => by
  obtain ⟨h0, h1, h2, h3⟩ := h i s hs
  exact ⟨h0, h1, by omega, h3⟩
theorem rightE_h (e : Ent) (h : Int) : Ent.rightE { e with h := h } = e.rightE := rfl
theorem Good.spawn {n : Nat} (hn : n ≤ 1000000) {S : List Spot} (h : Good n S) {i : Nat} {s : Spot} (hs : S[i]? = some s) {e : Ent} (he : e.rightE = 0) (hI : e.I) : Good (n + 1) (S.set i (spn s i e)) := fun j t ht => by
  have hi := (List.getElem?_eq_some_iff.1 hs).1
  by_cases hj : i = j
  · subst hj
    rw [List.getElem?_set_self hi] at ht
    cases ht
    obtain ⟨h0, h1, h2, _⟩ := h i s hs
    refine ⟨h0, ?_, ?_, fun _ => ⟨?_, ?_, ?_, ?_⟩⟩
    · show 0 ≤ s.gen + 1
      omega
    · show s.gen + 1 ≤ ((n + 1 : Nat) : Int)
      omega
    · exact he
    · rfl
    · show 1 ≤ s.gen + 1
      omega
    · refine ⟨⟨?_, ?_⟩, hI.2⟩
      · show -9223372036854775808 ≤ (s.gen + 1) * 64 + (i : Int)
        omega
      · show (s.gen + 1) * 64 + (i : Int) ≤ 9223372036854775807
        omega
  · rw [List.getElem?_set_ne hj] at ht
    exact h.mono (Nat.le_succ n) j t ht

theorem Good.at {n : Nat} {S : List Spot} (h : Good n S) {i : Nat} {s : Spot} (hs : S[i]? = some s) (ht : s.there = true) : atI S s.e.h = some i := by
  obtain ⟨h0, h1, h2, h3⟩ := h i s hs
  obtain ⟨_, h5, h6, _⟩ := h3 ht
  have e1 : s.e.h.toNat % 64 = i := by rw [h5]; omega
  unfold atI
  rw [if_neg (by rw [h5]; omega), e1, hs]
  simp only
  rw [if_pos ⟨ht, trivial⟩]

theorem listS_mem {S : List Spot} {e : Ent} (h : e ∈ listS S) : ∃ (i : Nat) (s : Spot), S[i]? = some s ∧ s.there = true ∧ s.e = e := by
  obtain ⟨s, hs, rfl⟩ := List.mem_map.1 h
  obtain ⟨hs1, hs2⟩ := List.mem_filter.1 hs
  obtain ⟨i, hi⟩ := List.getElem?_of_mem hs1
  exact ⟨i, s, hi, by simpa using hs2, rfl⟩

end Go.Proofs.YtamobmjfdiecbaaDoor

/- The formulas that the evaluator Sx.ev comes to for functions of this seat, each with its linking theorem (by the kernel). Printed by this session's own program (wip/tool/sxgen.py). -/
namespace Go.Proofs.YtamobmjfdiecbaaDoor
open Go Go.Sx
set_option maxRecDepth 100000

/-! tiltyard/tiltyardlaw20.PhysicsApart -/
def h3 : Hint := (.s .d (.s .d (.s .d (.s (.j [(31, 4)] .d .d) (.s (.s .d (.l [(10, 3)] (.s .d (.s (.s .d (.s .d (.s .d (.s .d (.s .d (.l [(13, 3)] (.s .d (.s (.s .d (.l [(14, 3)] (.s .d (.s (.s (.o (ofL [0, 1, 2, 3, 4, 5, 6, 7, 8, 9, 10, 11, 12, 13, 14, 15] .nil)) (.s (.o (ofL [0, 1, 2, 3, 4, 5, 6, 7, 8, 9, 10, 11, 12, 13, 14, 15] .nil)) (.j [(92, 4)] .d .d))) .d)))) .d)))))))) .d)))) .d)))))
set_option linter.unusedVariables false in
def F3 (l : Option Addr) (l_n l_c : Nat) (killed : Option Addr) (killed_n killed_c : Nat) (steps : Int) (w : World) (Q : Value → World → Prop) : Prop :=
 
(cl Tryd.prog 8 #[] w fun v1 w2 => asB v1 fun b3 => 
(cl Tryd.prog 9 #[(.slice l l_n l_c), (.slice killed killed_n killed_c)] w2 fun v4 w5 => asT 2 v4 fun t6 => asP (t6 0) fun p7 => asP (t6 1) fun p8 => 
(jn (fun s9 w10 => asB (s9.getD 0 undef) fun b12 => (cond b12 
(Q (.bool false) w10) 
(lv (0 : Int) fun n_13 => 
(lp [(.int .i64 n_13)] w10 fun J16 s14 w15 => asI .i64 (s14.getD 0 undef) fun x17 => 
(cond (decide (x17 ≤ (Go.bits .and .i64 steps (7 : Int)))) 
(cl Tryd.prog 10 #[(.pointer p7)] w15 fun v18 w19 => asS v18 fun p20 n21 c22 => 
(cl Tryd.prog 11 #[(.pointer p7)] w19 fun v23 w24 => asS v23 fun p25 n26 c27 => 
(cl Tryd.prog 10 #[(.pointer p7)] w24 fun v28 w29 => asS v28 fun p30 n31 c32 => 

(cond ((n31 : Int) != (n21 : Int)) 
(Q (.bool false) w29) 
(lv (0 : Int) fun i_33 => 
(lp [(.int .i64 i_33)] w29 fun J36 s34 w35 => asI .i64 (s34.getD 0 undef) fun x37 => 
(cond (decide (x37 < (n21 : Int))) 
(lv (0 : Int) fun k_38 => 
(lp [(.int .i64 k_38)] w35 fun J41 s39 w40 => asI .i64 (s39.getD 0 undef) fun x42 => 
(cond (decide (x42 < x37)) 
(dw w40 fun w43 => (dr p20 fun a44 => (bnd x37 n21 (ld w43 (Addr.add (Addr.add a44 (Int.toNat x37 * 8)) 1) fun v45 => asI .i64 v45 fun x46 => (ld w43 (Addr.add (Addr.add (Addr.add a44 (Int.toNat x37 * 8)) 1) 1) fun v47 => asI .i64 v47 fun x48 => (ld w43 (Addr.add (Addr.add (Addr.add a44 (Int.toNat x37 * 8)) 1) 2) fun v49 => asI .i64 v49 fun x50 => (dr p20 fun a51 => (bnd x42 n21 (ld w43 (Addr.add (Addr.add a51 (Int.toNat x42 * 8)) 1) fun v52 => asI .i64 v52 fun x53 => (ld w43 (Addr.add (Addr.add (Addr.add a51 (Int.toNat x42 * 8)) 1) 1) fun v54 => asI .i64 v54 fun x55 => (ld w43 (Addr.add (Addr.add (Addr.add a51 (Int.toNat x42 * 8)) 1) 2) fun v56 => asI .i64 v56 fun x57 => (cl Tryd.prog 12 #[(.agg #[(.int .i64 x46), (.int .i64 x48), (.int .i64 x50)]), (.agg #[(.int .i64 x53), (.int .i64 x55), (.int .i64 x57)])] w43 fun v58 w59 => asT 2 v58 fun t60 => asB (t60 0) fun b61 => asI .i64 (t60 1) fun x62 => (lv x62 fun __63 => 
(dw w59 fun w64 => (dr p30 fun a65 => (bnd x37 n31 (ld w64 (Addr.add (Addr.add a65 (Int.toNat x37 * 8)) 1) fun v66 => asI .i64 v66 fun x67 => (ld w64 (Addr.add (Addr.add (Addr.add a65 (Int.toNat x37 * 8)) 1) 1) fun v68 => asI .i64 v68 fun x69 => (ld w64 (Addr.add (Addr.add (Addr.add a65 (Int.toNat x37 * 8)) 1) 2) fun v70 => asI .i64 v70 fun x71 => (dr p30 fun a72 => (bnd x42 n31 (ld w64 (Addr.add (Addr.add a72 (Int.toNat x42 * 8)) 1) fun v73 => asI .i64 v73 fun x74 => (ld w64 (Addr.add (Addr.add (Addr.add a72 (Int.toNat x42 * 8)) 1) 1) fun v75 => asI .i64 v75 fun x76 => (ld w64 (Addr.add (Addr.add (Addr.add a72 (Int.toNat x42 * 8)) 1) 2) fun v77 => asI .i64 v77 fun x78 => (cl Tryd.prog 12 #[(.agg #[(.int .i64 x67), (.int .i64 x69), (.int .i64 x71)]), (.agg #[(.int .i64 x74), (.int .i64 x76), (.int .i64 x78)])] w64 fun v79 w80 => asT 2 v79 fun t81 => asB (t81 0) fun b82 => asI .i64 (t81 1) fun x83 => (lv x83 fun __84 => 
(jn (fun s85 w86 => asB (s85.getD 0 undef) fun b88 => (cond b88 
(Q (.bool false) w86) 
(lv (IntKind.wrap .i64 (x42 + (1 : Int))) fun k_89 => (J41 [(.int .i64 k_89)] w86))))
 (fun J87 => (cond b82 (J87 [(.bool (!b61))] w80) (J87 [(.bool false)] w80)))))))))))))))))))))))))))))) 
(lv (IntKind.wrap .i64 (x37 + (1 : Int))) fun i_90 => (J36 [(.int .i64 i_90)] w40))))) 
(lv (IntKind.wrap .i64 (x17 + (1 : Int))) fun n_91 => (J16 [(.int .i64 n_91)] w35))))))))) 

(Q (.bool true) w15))))))
 (fun J11 => (cond (!b3) (J11 [(.bool true)] w5) (J11 [(.bool (Option.isNone p7))] w5))))))
theorem F3_link (l : Option Addr) (l_n l_c : Nat) (killed : Option Addr) (killed_n killed_c : Nat) (steps : Int) (w : World) (Q : Value → World → Prop) : fnEv Tryd.prog Tryd.f3 h3 [(.slice l l_n l_c), (.slice killed killed_n killed_c), (.int .i64 steps)] w Q = F3 l l_n l_c killed killed_n killed_c steps w Q := by kernel_rfl
theorem F3_calls {l : Option Addr} {l_n l_c : Nat} {killed : Option Addr} {killed_n killed_c : Nat} {steps : Int} {w : World} {Q : Value → World → Prop} (hF_ : F3 l l_n l_c killed killed_n killed_c steps w Q) : cl Tryd.prog 3 #[(.slice l l_n l_c), (.slice killed killed_n killed_c), (.int .i64 steps)] w Q :=
  calls_of_ev (fn := Tryd.f3) Tryd.func3 h3 (args := [(.slice l l_n l_c), (.slice killed killed_n killed_c), (.int .i64 steps)]) (by rw [F3_link]; exact hF_)

/-! tiltyard/tiltyardlaw20.PhysicsWays -/
def h4 : Hint := (.s .d (.s .d (.s .d (.s (.j [(34, 4)] .d .d) (.s .d (.s .d (.s .d (.s .d (.s (.s .d (.l [(11, 3)] (.s .d (.s (.s .d (.s .d (.s .d (.s .d (.j [(16, 4)] .d (.j [(139, 4)] .d .d)))))) .d)))) (.s (.s .d (.l [(17, 3)] (.s .d (.s (.s .d (.s .d (.j [(184, 4)] (.o (ofL [0, 1, 2, 3, 4, 5, 6, 7, 8, 9, 10, 11, 12, 13, 14, 15, 16, 17, 18] .nil)) .d))) .d)))) .d))))))))))
set_option linter.unusedVariables false in
def F4 (l : Option Addr) (l_n l_c : Nat) (killed : Option Addr) (killed_n killed_c : Nat) (w : World) (Q : Value → World → Prop) : Prop :=
 
(cl Tryd.prog 8 #[] w fun v1 w2 => asB v1 fun b3 => 
(cl Tryd.prog 9 #[(.slice l l_n l_c), (.slice killed killed_n killed_c)] w2 fun v4 w5 => asT 2 v4 fun t6 => asP (t6 0) fun p7 => asP (t6 1) fun p8 => 
(jn (fun s9 w10 => asB (s9.getD 0 undef) fun b12 => (cond b12 
(Q (.bool false) w10) 
(cl Tryd.prog 10 #[(.pointer p7)] w10 fun v13 w14 => asS v13 fun p15 n16 c17 => 
(cl Tryd.prog 11 #[(.pointer p7)] w14 fun v18 w19 => asS v18 fun p20 n21 c22 => 
(cl Tryd.prog 10 #[(.pointer p7)] w19 fun v23 w24 => asS v23 fun p25 n26 c27 => 

(cond ((n26 : Int) != (n16 : Int)) 
(Q (.bool false) w24) 
(lv (0 : Int) fun i_28 => 
(lp [(.int .i64 i_28)] w24 fun J31 s29 w30 => asI .i64 (s29.getD 0 undef) fun x32 => 
(cond (decide (x32 < (n16 : Int))) 
(dr p15 fun a33 => (bnd x32 n16 (ld w30 (Addr.add a33 (Int.toNat x32 * 8)) fun v34 => asI .i64 v34 fun x35 => (ld w30 (Addr.add (Addr.add a33 (Int.toNat x32 * 8)) 1) fun v36 => asI .i64 v36 fun x37 => (ld w30 (Addr.add (Addr.add a33 (Int.toNat x32 * 8)) 2) fun v38 => asI .i64 v38 fun x39 => (ld w30 (Addr.add (Addr.add a33 (Int.toNat x32 * 8)) 3) fun v40 => asI .i64 v40 fun x41 => (ld w30 (Addr.add (Addr.add a33 (Int.toNat x32 * 8)) 4) fun v42 => asI .i64 v42 fun x43 => (ld w30 (Addr.add (Addr.add a33 (Int.toNat x32 * 8)) 5) fun v44 => asI .i64 v44 fun x45 => (ld w30 (Addr.add (Addr.add a33 (Int.toNat x32 * 8)) 6) fun v46 => asI .i64 v46 fun x47 => (ld w30 (Addr.add (Addr.add a33 (Int.toNat x32 * 8)) 7) fun v48 => asI .i64 v48 fun x49 => (nw w30 (.cells #[(.int .i64 (0 : Int)), (.int .i64 (0 : Int)), (.int .i64 (0 : Int)), (.int .i64 (0 : Int)), (.int .i64 (0 : Int)), (.int .i64 (0 : Int)), (.int .i64 (0 : Int)), (.int .i64 (0 : Int))] 40) fun r50 w51 => (st w51 (⟨r50, 0, none⟩ : Addr) (.int .i64 x35) fun w52 => (st w52 (Addr.add (⟨r50, 0, none⟩ : Addr) 1) (.int .i64 x37) fun w53 => (st w53 (Addr.add (⟨r50, 0, none⟩ : Addr) 2) (.int .i64 x39) fun w54 => (st w54 (Addr.add (⟨r50, 0, none⟩ : Addr) 3) (.int .i64 x41) fun w55 => (st w55 (Addr.add (⟨r50, 0, none⟩ : Addr) 4) (.int .i64 x43) fun w56 => (st w56 (Addr.add (⟨r50, 0, none⟩ : Addr) 5) (.int .i64 x45) fun w57 => (st w57 (Addr.add (⟨r50, 0, none⟩ : Addr) 6) (.int .i64 x47) fun w58 => (st w58 (Addr.add (⟨r50, 0, none⟩ : Addr) 7) (.int .i64 x49) fun w59 => 
(dr p25 fun a60 => (bnd x32 n26 (ld w59 (Addr.add a60 (Int.toNat x32 * 8)) fun v61 => asI .i64 v61 fun x62 => (ld w59 (Addr.add (Addr.add a60 (Int.toNat x32 * 8)) 1) fun v63 => asI .i64 v63 fun x64 => (ld w59 (Addr.add (Addr.add a60 (Int.toNat x32 * 8)) 2) fun v65 => asI .i64 v65 fun x66 => (ld w59 (Addr.add (Addr.add a60 (Int.toNat x32 * 8)) 3) fun v67 => asI .i64 v67 fun x68 => (ld w59 (Addr.add (Addr.add a60 (Int.toNat x32 * 8)) 4) fun v69 => asI .i64 v69 fun x70 => (ld w59 (Addr.add (Addr.add a60 (Int.toNat x32 * 8)) 5) fun v71 => asI .i64 v71 fun x72 => (ld w59 (Addr.add (Addr.add a60 (Int.toNat x32 * 8)) 6) fun v73 => asI .i64 v73 fun x74 => (ld w59 (Addr.add (Addr.add a60 (Int.toNat x32 * 8)) 7) fun v75 => asI .i64 v75 fun x76 => (nw w59 (.cells #[(.int .i64 (0 : Int)), (.int .i64 (0 : Int)), (.int .i64 (0 : Int)), (.int .i64 (0 : Int)), (.int .i64 (0 : Int)), (.int .i64 (0 : Int)), (.int .i64 (0 : Int)), (.int .i64 (0 : Int))] 40) fun r77 w78 => (st w78 (⟨r77, 0, none⟩ : Addr) (.int .i64 x62) fun w79 => (st w79 (Addr.add (⟨r77, 0, none⟩ : Addr) 1) (.int .i64 x64) fun w80 => (st w80 (Addr.add (⟨r77, 0, none⟩ : Addr) 2) (.int .i64 x66) fun w81 => (st w81 (Addr.add (⟨r77, 0, none⟩ : Addr) 3) (.int .i64 x68) fun w82 => (st w82 (Addr.add (⟨r77, 0, none⟩ : Addr) 4) (.int .i64 x70) fun w83 => (st w83 (Addr.add (⟨r77, 0, none⟩ : Addr) 5) (.int .i64 x72) fun w84 => (st w84 (Addr.add (⟨r77, 0, none⟩ : Addr) 6) (.int .i64 x74) fun w85 => (st w85 (Addr.add (⟨r77, 0, none⟩ : Addr) 7) (.int .i64 x76) fun w86 => 
(ld w86 (Addr.add (⟨r50, 0, none⟩ : Addr) 1) fun v87 => asI .i64 v87 fun x88 => (ld w86 (Addr.add (⟨r77, 0, none⟩ : Addr) 1) fun v89 => asI .i64 v89 fun x90 => (ld w86 (Addr.add (⟨r50, 0, none⟩ : Addr) 4) fun v91 => asI .i64 v91 fun x92 => (cl Tryd.prog 13 #[(.int .i64 x88), (.int .i64 x90), (.int .i64 x92)] w86 fun v93 w94 => asB v93 fun b95 => 
(ld w94 (Addr.add (Addr.add (⟨r50, 0, none⟩ : Addr) 1) 1) fun v96 => asI .i64 v96 fun x97 => (ld w94 (Addr.add (Addr.add (⟨r77, 0, none⟩ : Addr) 1) 1) fun v98 => asI .i64 v98 fun x99 => (ld w94 (Addr.add (Addr.add (⟨r50, 0, none⟩ : Addr) 4) 1) fun v100 => asI .i64 v100 fun x101 => (cl Tryd.prog 13 #[(.int .i64 x97), (.int .i64 x99), (.int .i64 x101)] w94 fun v102 w103 => asB v102 fun b104 => 
(jn (fun s105 w106 => asB (s105.getD 0 undef) fun b122 => (jn (fun s123 w124 => asB (s123.getD 0 undef) fun b142 => (cond b142 
(Q (.bool false) w124) 
(lv (IntKind.wrap .i64 (x32 + (1 : Int))) fun i_143 => (J31 [(.int .i64 i_143)] w124))))
 (fun J125 => (cond (!b95) (J125 [(.bool true)] w106) (cond (!b104) (J125 [(.bool true)] w106) (cond (!b122) (J125 [(.bool true)] w106) (ld w106 (⟨r50, 0, none⟩ : Addr) fun v126 => asI .i64 v126 fun x127 => (ld w106 (⟨r77, 0, none⟩ : Addr) fun v128 => asI .i64 v128 fun x129 => (cond (x127 != x129) (J125 [(.bool true)] w106) (ld w106 (Addr.add (Addr.add (⟨r50, 0, none⟩ : Addr) 1) 2) fun v130 => asI .i64 v130 fun x131 => (ld w106 (Addr.add (Addr.add (⟨r77, 0, none⟩ : Addr) 1) 2) fun v132 => asI .i64 v132 fun x133 => (cond (x131 != x133) (J125 [(.bool true)] w106) (ld w106 (Addr.add (⟨r50, 0, none⟩ : Addr) 6) fun v134 => asI .i64 v134 fun x135 => (ld w106 (Addr.add (⟨r77, 0, none⟩ : Addr) 6) fun v136 => asI .i64 v136 fun x137 => (cond (x135 != x137) (J125 [(.bool true)] w106) (ld w106 (Addr.add (⟨r50, 0, none⟩ : Addr) 7) fun v138 => asI .i64 v138 fun x139 => (ld w106 (Addr.add (⟨r77, 0, none⟩ : Addr) 7) fun v140 => asI .i64 v140 fun x141 => (J125 [(.bool (x139 != x141))] w106))))))))))))))))))
 (fun J107 => (ld w103 (Addr.add (⟨r50, 0, none⟩ : Addr) 4) fun v108 => asI .i64 v108 fun x109 => (ld w103 (Addr.add (⟨r77, 0, none⟩ : Addr) 4) fun v110 => asI .i64 v110 fun x111 => (cl Tryd.prog 14 #[(.int .i64 x109), (.int .i64 x111)] w103 fun v112 w113 => asB v112 fun b114 => (cond b114 (ld w113 (Addr.add (Addr.add (⟨r50, 0, none⟩ : Addr) 4) 1) fun v115 => asI .i64 v115 fun x116 => (ld w113 (Addr.add (Addr.add (⟨r77, 0, none⟩ : Addr) 4) 1) fun v117 => asI .i64 v117 fun x118 => (cl Tryd.prog 14 #[(.int .i64 x116), (.int .i64 x118)] w113 fun v119 w120 => asB v119 fun b121 => (J107 [(.bool b121)] w120)))) (J107 [(.bool false)] w113))))))))))))))))))))))))))))))))))))))))))))))))))))) 
(lv (0 : Int) fun i_144 => 
(lp [(.int .i64 i_144)] w30 fun J147 s145 w146 => asI .i64 (s145.getD 0 undef) fun x148 => 
(cond (decide (x148 < (n21 : Int))) 
(dr p20 fun a149 => (bnd x148 n21 (ld w146 (Addr.add a149 (Int.toNat x148 * 2)) fun v150 => asI .i64 v150 fun x151 => (cl Tryd.prog 15 #[(.pointer p7), (.int .i64 x151)] w146 fun v152 w153 => asT 2 v152 fun t154 => asA 8 (t154 0) fun a155 => asI .i64 (a155 0) fun x156 => asI .i64 (a155 1) fun x157 => asI .i64 (a155 2) fun x158 => asI .i64 (a155 3) fun x159 => asI .i64 (a155 4) fun x160 => asI .i64 (a155 5) fun x161 => asI .i64 (a155 6) fun x162 => asI .i64 (a155 7) fun x163 => asI .i64 (t154 1) fun x164 => (nw w153 (.cells #[(.int .i64 (0 : Int)), (.int .i64 (0 : Int)), (.int .i64 (0 : Int)), (.int .i64 (0 : Int)), (.int .i64 (0 : Int)), (.int .i64 (0 : Int)), (.int .i64 (0 : Int)), (.int .i64 (0 : Int))] 40) fun r165 w166 => (st w166 (⟨r165, 0, none⟩ : Addr) (.int .i64 x156) fun w167 => (st w167 (Addr.add (⟨r165, 0, none⟩ : Addr) 1) (.int .i64 x157) fun w168 => (st w168 (Addr.add (⟨r165, 0, none⟩ : Addr) 2) (.int .i64 x158) fun w169 => (st w169 (Addr.add (⟨r165, 0, none⟩ : Addr) 3) (.int .i64 x159) fun w170 => (st w170 (Addr.add (⟨r165, 0, none⟩ : Addr) 4) (.int .i64 x160) fun w171 => (st w171 (Addr.add (⟨r165, 0, none⟩ : Addr) 5) (.int .i64 x161) fun w172 => (st w172 (Addr.add (⟨r165, 0, none⟩ : Addr) 6) (.int .i64 x162) fun w173 => (st w173 (Addr.add (⟨r165, 0, none⟩ : Addr) 7) (.int .i64 x163) fun w174 => (lv x164 fun e_175 => 
(dr p20 fun a176 => (bnd x148 n21 (ld w174 (Addr.add (Addr.add a176 (Int.toNat x148 * 2)) 1) fun v177 => asI .i64 v177 fun x178 => (cl Tryd.prog 15 #[(.pointer p7), (.int .i64 x178)] w174 fun v179 w180 => asT 2 v179 fun t181 => asA 8 (t181 0) fun a182 => asI .i64 (a182 0) fun x183 => asI .i64 (a182 1) fun x184 => asI .i64 (a182 2) fun x185 => asI .i64 (a182 3) fun x186 => asI .i64 (a182 4) fun x187 => asI .i64 (a182 5) fun x188 => asI .i64 (a182 6) fun x189 => asI .i64 (a182 7) fun x190 => asI .i64 (t181 1) fun x191 => (nw w180 (.cells #[(.int .i64 (0 : Int)), (.int .i64 (0 : Int)), (.int .i64 (0 : Int)), (.int .i64 (0 : Int)), (.int .i64 (0 : Int)), (.int .i64 (0 : Int)), (.int .i64 (0 : Int)), (.int .i64 (0 : Int))] 40) fun r192 w193 => (st w193 (⟨r192, 0, none⟩ : Addr) (.int .i64 x183) fun w194 => (st w194 (Addr.add (⟨r192, 0, none⟩ : Addr) 1) (.int .i64 x184) fun w195 => (st w195 (Addr.add (⟨r192, 0, none⟩ : Addr) 2) (.int .i64 x185) fun w196 => (st w196 (Addr.add (⟨r192, 0, none⟩ : Addr) 3) (.int .i64 x186) fun w197 => (st w197 (Addr.add (⟨r192, 0, none⟩ : Addr) 4) (.int .i64 x187) fun w198 => (st w198 (Addr.add (⟨r192, 0, none⟩ : Addr) 5) (.int .i64 x188) fun w199 => (st w199 (Addr.add (⟨r192, 0, none⟩ : Addr) 6) (.int .i64 x189) fun w200 => (st w200 (Addr.add (⟨r192, 0, none⟩ : Addr) 7) (.int .i64 x190) fun w201 => (lv x191 fun f_202 => 
(jn (fun s203 w204 => asB (s203.getD 0 undef) fun b213 => (cond b213 
(Q (.bool false) w204) 
(lv (IntKind.wrap .i64 (x148 + (1 : Int))) fun i_214 => (J147 [(.int .i64 i_214)] w204))))
 (fun J205 => (dw w201 fun w206 => (cond (e_175 != (0 : Int)) (J205 [(.bool true)] w206) (cond (f_202 != (0 : Int)) (J205 [(.bool true)] w206) (dr p20 fun a207 => (bnd x148 n21 (ld w206 (Addr.add a207 (Int.toNat x148 * 2)) fun v208 => asI .i64 v208 fun x209 => (dr p20 fun a210 => (bnd x148 n21 (ld w206 (Addr.add (Addr.add a210 (Int.toNat x148 * 2)) 1) fun v211 => asI .i64 v211 fun x212 => (J205 [(.bool (x209 == x212))] w206)))))))))))))))))))))))))))))))))))))))) 

(Q (.bool true) w146)))))))))))))
 (fun J11 => (cond (!b3) (J11 [(.bool true)] w5) (J11 [(.bool (Option.isNone p7))] w5))))))
theorem F4_link (l : Option Addr) (l_n l_c : Nat) (killed : Option Addr) (killed_n killed_c : Nat) (w : World) (Q : Value → World → Prop) : fnEv Tryd.prog Tryd.f4 h4 [(.slice l l_n l_c), (.slice killed killed_n killed_c)] w Q = F4 l l_n l_c killed killed_n killed_c w Q := by kernel_rfl
theorem F4_calls {l : Option Addr} {l_n l_c : Nat} {killed : Option Addr} {killed_n killed_c : Nat} {w : World} {Q : Value → World → Prop} (hF_ : F4 l l_n l_c killed killed_n killed_c w Q) : cl Tryd.prog 4 #[(.slice l l_n l_c), (.slice killed killed_n killed_c)] w Q :=
  calls_of_ev (fn := Tryd.f4) Tryd.func4 h4 (args := [(.slice l l_n l_c), (.slice killed killed_n killed_c)]) (by rw [F4_link]; exact hF_)

/-! tiltyard/tiltyardlaw20.PhysicsStill -/
def h5 : Hint := (.s .d (.s .d (.s .d (.s (.s .d (.l [(6, 22), (7, 3)] (.s (.j [(26, 4)] .d .d) .d))) (.s .d (.s (.j [(49, 4)] .d .d) (.s .d (.s .d (.s .d (.s .d (.s .d (.j [(4, 4)] .d .d))))))))))))
set_option linter.unusedVariables false in
def F5 (l : Option Addr) (l_n l_c : Nat) (b_0 : Int) (b_1 : Int) (b_2 : Int) (w : World) (Q : Value → World → Prop) : Prop :=
 (nw w (.cells #[(.int .i64 b_0), (.int .i64 b_1), (.int .i64 b_2)] 38) fun r1 w2 => 
(cl Tryd.prog 8 #[] w2 fun v3 w4 => asB v3 fun b5 => 

(lv (0 : Int) fun i_6 => 
(lp [(.slice none 0 0), (.int .i64 i_6)] w4 fun J9 s7 w8 => asS (s7.getD 0 undef) fun p10 n11 c12 => asI .i64 (s7.getD 1 undef) fun x13 => (jn (fun s14 w15 => asB (s14.getD 0 undef) fun b17 => (cond b17 
(dr l fun a18 => (bnd x13 l_n (ld w15 (Addr.add a18 (Int.toNat x13 * 8)) fun v19 => asI .i64 v19 fun x20 => (ld w15 (Addr.add (Addr.add a18 (Int.toNat x13 * 8)) 1) fun v21 => asI .i64 v21 fun x22 => (ld w15 (Addr.add (Addr.add a18 (Int.toNat x13 * 8)) 2) fun v23 => asI .i64 v23 fun x24 => (ld w15 (Addr.add (Addr.add a18 (Int.toNat x13 * 8)) 3) fun v25 => asI .i64 v25 fun x26 => (ld w15 (Addr.add (Addr.add a18 (Int.toNat x13 * 8)) 4) fun v27 => asI .i64 v27 fun x28 => (ld w15 (Addr.add (Addr.add a18 (Int.toNat x13 * 8)) 5) fun v29 => asI .i64 v29 fun x30 => (ld w15 (Addr.add (Addr.add a18 (Int.toNat x13 * 8)) 6) fun v31 => asI .i64 v31 fun x32 => (ld w15 (Addr.add (Addr.add a18 (Int.toNat x13 * 8)) 7) fun v33 => asI .i64 v33 fun x34 => (nw w15 (.cells #[(.int .i64 (0 : Int)), (.int .i64 (0 : Int)), (.int .i64 (0 : Int)), (.int .i64 (0 : Int)), (.int .i64 (0 : Int)), (.int .i64 (0 : Int)), (.int .i64 (0 : Int)), (.int .i64 (0 : Int))] 40) fun r35 w36 => (st w36 (⟨r35, 0, none⟩ : Addr) (.int .i64 x20) fun w37 => (st w37 (Addr.add (⟨r35, 0, none⟩ : Addr) 1) (.int .i64 x22) fun w38 => (st w38 (Addr.add (⟨r35, 0, none⟩ : Addr) 2) (.int .i64 x24) fun w39 => (st w39 (Addr.add (⟨r35, 0, none⟩ : Addr) 3) (.int .i64 x26) fun w40 => (st w40 (Addr.add (⟨r35, 0, none⟩ : Addr) 4) (.int .i64 x28) fun w41 => (st w41 (Addr.add (⟨r35, 0, none⟩ : Addr) 5) (.int .i64 x30) fun w42 => (st w42 (Addr.add (⟨r35, 0, none⟩ : Addr) 6) (.int .i64 x32) fun w43 => (st w43 (Addr.add (⟨r35, 0, none⟩ : Addr) 7) (.int .i64 x34) fun w44 => 
(st w44 (Addr.add (⟨r35, 0, none⟩ : Addr) 4) (.int .i64 (0 : Int)) fun w45 => (st w45 (Addr.add (Addr.add (⟨r35, 0, none⟩ : Addr) 4) 1) (.int .i64 (0 : Int)) fun w46 => 
(ld w46 (⟨r35, 0, none⟩ : Addr) fun v47 => asI .i64 v47 fun x48 => (ld w46 (Addr.add (⟨r35, 0, none⟩ : Addr) 1) fun v49 => asI .i64 v49 fun x50 => (ld w46 (Addr.add (⟨r35, 0, none⟩ : Addr) 2) fun v51 => asI .i64 v51 fun x52 => (ld w46 (Addr.add (⟨r35, 0, none⟩ : Addr) 3) fun v53 => asI .i64 v53 fun x54 => (ld w46 (Addr.add (⟨r35, 0, none⟩ : Addr) 4) fun v55 => asI .i64 v55 fun x56 => (ld w46 (Addr.add (⟨r35, 0, none⟩ : Addr) 5) fun v57 => asI .i64 v57 fun x58 => (ld w46 (Addr.add (⟨r35, 0, none⟩ : Addr) 6) fun v59 => asI .i64 v59 fun x60 => (ld w46 (Addr.add (⟨r35, 0, none⟩ : Addr) 7) fun v61 => asI .i64 v61 fun x62 => (nw w46 (.cells #[(.int .i64 x48), (.int .i64 x50), (.int .i64 x52), (.int .i64 x54), (.int .i64 x56), (.int .i64 x58), (.int .i64 x60), (.int .i64 x62)] 40) fun r63 w64 => (rn Tryd.prog (Builtin.append_ #[22, 22] 22 #[(.slice p10 n11 c12), (.slice (some (⟨r63, 0, none⟩ : Addr)) 1 1)]) w64 fun v65 w66 => asS v65 fun p67 n68 c69 => 
(lv (IntKind.wrap .i64 (x13 + (1 : Int))) fun i_70 => (J9 [(.slice p67 n68 c69), (.int .i64 i_70)] w66))))))))))))))))))))))))))))))))) 
(cl Tryd.prog 9 #[(.slice p10 n11 c12), (.slice none 0 0)] w15 fun v71 w72 => asT 2 v71 fun t73 => asP (t73 0) fun p74 => asP (t73 1) fun p75 => 
(jn (fun s76 w77 => asB (s76.getD 0 undef) fun b79 => (cond b79 
(Q (.bool false) w77) 
(cl Tryd.prog 10 #[(.pointer p74)] w77 fun v80 w81 => asS v80 fun p82 n83 c84 => 
(cl Tryd.prog 11 #[(.pointer p74)] w81 fun v85 w86 => asS v85 fun p87 n88 c89 => 
(ld w86 (⟨r1, 0, none⟩ : Addr) fun v90 => asI .i64 v90 fun x91 => (ld w86 (Addr.add (⟨r1, 0, none⟩ : Addr) 1) fun v92 => asI .i64 v92 fun x93 => (ld w86 (Addr.add (⟨r1, 0, none⟩ : Addr) 2) fun v94 => asI .i64 v94 fun x95 => (cl Tryd.prog 16 #[(.pointer p74), (.agg #[(.int .i64 x91), (.int .i64 x93), (.int .i64 x95)])] w86 fun v96 w97 => asT 2 v96 fun t98 => asS (t98 0) fun p99 n100 c101 => asI .i64 (t98 1) fun x102 => (lv x102 fun e_103 => 
(ld w97 (⟨r1, 0, none⟩ : Addr) fun v104 => asI .i64 v104 fun x105 => (ld w97 (Addr.add (⟨r1, 0, none⟩ : Addr) 1) fun v106 => asI .i64 v106 fun x107 => (ld w97 (Addr.add (⟨r1, 0, none⟩ : Addr) 2) fun v108 => asI .i64 v108 fun x109 => (cl Tryd.prog 17 #[(.pointer p74), (.agg #[(.int .i64 x105), (.int .i64 x107), (.int .i64 x109)]), (.int .i64 (0 : Int))] w97 fun v110 w111 => asT 2 v110 fun t112 => asB (t112 0) fun b113 => asI .i64 (t112 1) fun x114 => (lv x114 fun f_115 => 
(cl Tryd.prog 10 #[(.pointer p74)] w111 fun v116 w117 => asS v116 fun p118 n119 c120 => (cl Tryd.prog 18 #[(.slice p82 n83 c84), (.slice p118 n119 c120)] w117 fun v121 w122 => asB v121 fun b123 => 
(jn (fun s124 w125 => asB (s124.getD 0 undef) fun b127 => (Q (.bool b127) w125))
 (fun J126 => (cond b123 (cond ((n88 : Int) == (0 : Int)) (cond (e_103 == f_115) (cond (e_103 == (0 : Int)) (J126 [(.bool (b113 == ((n100 : Int) == (0 : Int))))] w122) (J126 [(.bool (b113 == false))] w122)) (J126 [(.bool false)] w122)) (J126 [(.bool false)] w122)) (J126 [(.bool false)] w122))))))))))))))))))))
 (fun J78 => (cond (!b5) (J78 [(.bool true)] w72) (J78 [(.bool (Option.isNone p74))] w72)))))))
 (fun J16 => (cond (decide (x13 < (l_n : Int))) (J16 [(.bool (decide (x13 < (60 : Int))))] w8) (J16 [(.bool false)] w8))))))))
theorem F5_link (l : Option Addr) (l_n l_c : Nat) (b_0 : Int) (b_1 : Int) (b_2 : Int) (w : World) (Q : Value → World → Prop) : fnEv Tryd.prog Tryd.f5 h5 [(.slice l l_n l_c), (.agg #[(.int .i64 b_0), (.int .i64 b_1), (.int .i64 b_2)])] w Q = F5 l l_n l_c b_0 b_1 b_2 w Q := by kernel_rfl
theorem F5_calls {l : Option Addr} {l_n l_c : Nat} {b_0 : Int} {b_1 : Int} {b_2 : Int} {w : World} {Q : Value → World → Prop} (hF_ : F5 l l_n l_c b_0 b_1 b_2 w Q) : cl Tryd.prog 5 #[(.slice l l_n l_c), (.agg #[(.int .i64 b_0), (.int .i64 b_1), (.int .i64 b_2)])] w Q :=
  calls_of_ev (fn := Tryd.f5) Tryd.func5 h5 (args := [(.slice l l_n l_c), (.agg #[(.int .i64 b_0), (.int .i64 b_1), (.int .i64 b_2)])]) (by rw [F5_link]; exact hF_)

/-! tiltyard/tiltyardlaw20.PhysicsLocal -/
def h6 : Hint := (.s .d (.s .d (.s .d (.s (.s .d (.l [(6, 22), (7, 3)] (.s (.j [(27, 4)] .d .d) .d))) (.s .d (.s (.s .d (.l [(9, 22), (10, 3)] (.s (.j [(61, 4)] .d .d) .d))) (.s .d (.s .d (.s (.j [(105, 4)] .d .d) (.s .d (.s .d (.s .d (.s .d (.s .d (.j [(4, 4)] .d .d)))))))))))))))
set_option linter.unusedVariables false in
def F6 (l : Option Addr) (l_n l_c : Nat) (far : Option Addr) (far_n far_c : Nat) (w : World) (Q : Value → World → Prop) : Prop :=
 
(cl Tryd.prog 8 #[] w fun v1 w2 => asB v1 fun b3 => 

(lv (0 : Int) fun i_4 => 
(lp [(.slice none 0 0), (.int .i64 i_4)] w2 fun J7 s5 w6 => asS (s5.getD 0 undef) fun p8 n9 c10 => asI .i64 (s5.getD 1 undef) fun x11 => (jn (fun s12 w13 => asB (s12.getD 0 undef) fun b15 => (cond b15 
(dr l fun a16 => (bnd x11 l_n (ld w13 (Addr.add a16 (Int.toNat x11 * 8)) fun v17 => asI .i64 v17 fun x18 => (ld w13 (Addr.add (Addr.add a16 (Int.toNat x11 * 8)) 1) fun v19 => asI .i64 v19 fun x20 => (ld w13 (Addr.add (Addr.add a16 (Int.toNat x11 * 8)) 2) fun v21 => asI .i64 v21 fun x22 => (ld w13 (Addr.add (Addr.add a16 (Int.toNat x11 * 8)) 3) fun v23 => asI .i64 v23 fun x24 => (ld w13 (Addr.add (Addr.add a16 (Int.toNat x11 * 8)) 4) fun v25 => asI .i64 v25 fun x26 => (ld w13 (Addr.add (Addr.add a16 (Int.toNat x11 * 8)) 5) fun v27 => asI .i64 v27 fun x28 => (ld w13 (Addr.add (Addr.add a16 (Int.toNat x11 * 8)) 6) fun v29 => asI .i64 v29 fun x30 => (ld w13 (Addr.add (Addr.add a16 (Int.toNat x11 * 8)) 7) fun v31 => asI .i64 v31 fun x32 => (nw w13 (.cells #[(.int .i64 (0 : Int)), (.int .i64 (0 : Int)), (.int .i64 (0 : Int)), (.int .i64 (0 : Int)), (.int .i64 (0 : Int)), (.int .i64 (0 : Int)), (.int .i64 (0 : Int)), (.int .i64 (0 : Int))] 40) fun r33 w34 => (st w34 (⟨r33, 0, none⟩ : Addr) (.int .i64 x18) fun w35 => (st w35 (Addr.add (⟨r33, 0, none⟩ : Addr) 1) (.int .i64 x20) fun w36 => (st w36 (Addr.add (⟨r33, 0, none⟩ : Addr) 2) (.int .i64 x22) fun w37 => (st w37 (Addr.add (⟨r33, 0, none⟩ : Addr) 3) (.int .i64 x24) fun w38 => (st w38 (Addr.add (⟨r33, 0, none⟩ : Addr) 4) (.int .i64 x26) fun w39 => (st w39 (Addr.add (⟨r33, 0, none⟩ : Addr) 5) (.int .i64 x28) fun w40 => (st w40 (Addr.add (⟨r33, 0, none⟩ : Addr) 6) (.int .i64 x30) fun w41 => (st w41 (Addr.add (⟨r33, 0, none⟩ : Addr) 7) (.int .i64 x32) fun w42 => 
(ld w42 (Addr.add (⟨r33, 0, none⟩ : Addr) 1) fun v43 => asI .i64 v43 fun x44 => (ld w42 (Addr.add (Addr.add (⟨r33, 0, none⟩ : Addr) 1) 1) fun v45 => asI .i64 v45 fun x46 => (st w42 (Addr.add (⟨r33, 0, none⟩ : Addr) 1) (.int .i64 (Go.bits .and .i64 x44 (68719476735 : Int))) fun w47 => (st w47 (Addr.add (Addr.add (⟨r33, 0, none⟩ : Addr) 1) 1) (.int .i64 (Go.bits .and .i64 x46 (68719476735 : Int))) fun w48 => 
(ld w48 (⟨r33, 0, none⟩ : Addr) fun v49 => asI .i64 v49 fun x50 => (ld w48 (Addr.add (⟨r33, 0, none⟩ : Addr) 1) fun v51 => asI .i64 v51 fun x52 => (ld w48 (Addr.add (⟨r33, 0, none⟩ : Addr) 2) fun v53 => asI .i64 v53 fun x54 => (ld w48 (Addr.add (⟨r33, 0, none⟩ : Addr) 3) fun v55 => asI .i64 v55 fun x56 => (ld w48 (Addr.add (⟨r33, 0, none⟩ : Addr) 4) fun v57 => asI .i64 v57 fun x58 => (ld w48 (Addr.add (⟨r33, 0, none⟩ : Addr) 5) fun v59 => asI .i64 v59 fun x60 => (ld w48 (Addr.add (⟨r33, 0, none⟩ : Addr) 6) fun v61 => asI .i64 v61 fun x62 => (ld w48 (Addr.add (⟨r33, 0, none⟩ : Addr) 7) fun v63 => asI .i64 v63 fun x64 => (nw w48 (.cells #[(.int .i64 x50), (.int .i64 x52), (.int .i64 x54), (.int .i64 x56), (.int .i64 x58), (.int .i64 x60), (.int .i64 x62), (.int .i64 x64)] 40) fun r65 w66 => (rn Tryd.prog (Builtin.append_ #[22, 22] 22 #[(.slice p8 n9 c10), (.slice (some (⟨r65, 0, none⟩ : Addr)) 1 1)]) w66 fun v67 w68 => asS v67 fun p69 n70 c71 => 
(lv (IntKind.wrap .i64 (x11 + (1 : Int))) fun i_72 => (J7 [(.slice p69 n70 c71), (.int .i64 i_72)] w68))))))))))))))))))))))))))))))))))) 
(nw w13 (.cells #[] 40) fun r73 w74 => (rn Tryd.prog (Builtin.append_ #[22, 22] 22 #[(.slice (some (⟨r73, 0, none⟩ : Addr)) 0 0), (.slice p8 n9 c10)]) w74 fun v75 w76 => asS v75 fun p77 n78 c79 => 
(lv (0 : Int) fun i_80 => 
(lp [(.slice p77 n78 c79), (.int .i64 i_80)] w76 fun J83 s81 w82 => asS (s81.getD 0 undef) fun p84 n85 c86 => asI .i64 (s81.getD 1 undef) fun x87 => (jn (fun s88 w89 => asB (s88.getD 0 undef) fun b91 => (cond b91 
(dr far fun a92 => (bnd x87 far_n (ld w89 (Addr.add a92 (Int.toNat x87 * 8)) fun v93 => asI .i64 v93 fun x94 => (ld w89 (Addr.add (Addr.add a92 (Int.toNat x87 * 8)) 1) fun v95 => asI .i64 v95 fun x96 => (ld w89 (Addr.add (Addr.add a92 (Int.toNat x87 * 8)) 2) fun v97 => asI .i64 v97 fun x98 => (ld w89 (Addr.add (Addr.add a92 (Int.toNat x87 * 8)) 3) fun v99 => asI .i64 v99 fun x100 => (ld w89 (Addr.add (Addr.add a92 (Int.toNat x87 * 8)) 4) fun v101 => asI .i64 v101 fun x102 => (ld w89 (Addr.add (Addr.add a92 (Int.toNat x87 * 8)) 5) fun v103 => asI .i64 v103 fun x104 => (ld w89 (Addr.add (Addr.add a92 (Int.toNat x87 * 8)) 6) fun v105 => asI .i64 v105 fun x106 => (ld w89 (Addr.add (Addr.add a92 (Int.toNat x87 * 8)) 7) fun v107 => asI .i64 v107 fun x108 => (nw w89 (.cells #[(.int .i64 (0 : Int)), (.int .i64 (0 : Int)), (.int .i64 (0 : Int)), (.int .i64 (0 : Int)), (.int .i64 (0 : Int)), (.int .i64 (0 : Int)), (.int .i64 (0 : Int)), (.int .i64 (0 : Int))] 40) fun r109 w110 => (st w110 (⟨r109, 0, none⟩ : Addr) (.int .i64 x94) fun w111 => (st w111 (Addr.add (⟨r109, 0, none⟩ : Addr) 1) (.int .i64 x96) fun w112 => (st w112 (Addr.add (⟨r109, 0, none⟩ : Addr) 2) (.int .i64 x98) fun w113 => (st w113 (Addr.add (⟨r109, 0, none⟩ : Addr) 3) (.int .i64 x100) fun w114 => (st w114 (Addr.add (⟨r109, 0, none⟩ : Addr) 4) (.int .i64 x102) fun w115 => (st w115 (Addr.add (⟨r109, 0, none⟩ : Addr) 5) (.int .i64 x104) fun w116 => (st w116 (Addr.add (⟨r109, 0, none⟩ : Addr) 6) (.int .i64 x106) fun w117 => (st w117 (Addr.add (⟨r109, 0, none⟩ : Addr) 7) (.int .i64 x108) fun w118 => 
(ld w118 (Addr.add (⟨r109, 0, none⟩ : Addr) 1) fun v119 => asI .i64 v119 fun x120 => (ld w118 (Addr.add (Addr.add (⟨r109, 0, none⟩ : Addr) 1) 1) fun v121 => asI .i64 v121 fun x122 => (st w118 (Addr.add (⟨r109, 0, none⟩ : Addr) 1) (.int .i64 (IntKind.wrap .i64 ((2199023255552 : Int) + (Go.bits .and .i64 x120 (68719476735 : Int))))) fun w123 => (st w123 (Addr.add (Addr.add (⟨r109, 0, none⟩ : Addr) 1) 1) (.int .i64 (Go.bits .and .i64 x122 (68719476735 : Int))) fun w124 => 
(ld w124 (⟨r109, 0, none⟩ : Addr) fun v125 => asI .i64 v125 fun x126 => (ld w124 (Addr.add (⟨r109, 0, none⟩ : Addr) 1) fun v127 => asI .i64 v127 fun x128 => (ld w124 (Addr.add (⟨r109, 0, none⟩ : Addr) 2) fun v129 => asI .i64 v129 fun x130 => (ld w124 (Addr.add (⟨r109, 0, none⟩ : Addr) 3) fun v131 => asI .i64 v131 fun x132 => (ld w124 (Addr.add (⟨r109, 0, none⟩ : Addr) 4) fun v133 => asI .i64 v133 fun x134 => (ld w124 (Addr.add (⟨r109, 0, none⟩ : Addr) 5) fun v135 => asI .i64 v135 fun x136 => (ld w124 (Addr.add (⟨r109, 0, none⟩ : Addr) 6) fun v137 => asI .i64 v137 fun x138 => (ld w124 (Addr.add (⟨r109, 0, none⟩ : Addr) 7) fun v139 => asI .i64 v139 fun x140 => (nw w124 (.cells #[(.int .i64 x126), (.int .i64 x128), (.int .i64 x130), (.int .i64 x132), (.int .i64 x134), (.int .i64 x136), (.int .i64 x138), (.int .i64 x140)] 40) fun r141 w142 => (rn Tryd.prog (Builtin.append_ #[22, 22] 22 #[(.slice p84 n85 c86), (.slice (some (⟨r141, 0, none⟩ : Addr)) 1 1)]) w142 fun v143 w144 => asS v143 fun p145 n146 c147 => 
(lv (IntKind.wrap .i64 (x87 + (1 : Int))) fun i_148 => (J83 [(.slice p145 n146 c147), (.int .i64 i_148)] w144))))))))))))))))))))))))))))))))))) 
(cl Tryd.prog 9 #[(.slice p8 n9 c10), (.slice none 0 0)] w89 fun v149 w150 => asT 2 v149 fun t151 => asP (t151 0) fun p152 => asP (t151 1) fun p153 => 
(cl Tryd.prog 9 #[(.slice p84 n85 c86), (.slice none 0 0)] w150 fun v154 w155 => asT 2 v154 fun t156 => asP (t156 0) fun p157 => asP (t156 1) fun p158 => 
(jn (fun s159 w160 => asB (s159.getD 0 undef) fun b162 => (cond b162 
(Q (.bool false) w160) 
(cl Tryd.prog 10 #[(.pointer p152)] w160 fun v163 w164 => asS v163 fun p165 n166 c167 => (lv (n166 : Int) fun n_168 => 
(cl Tryd.prog 11 #[(.pointer p152)] w164 fun v169 w170 => asS v169 fun p171 n172 c173 => 
(cl Tryd.prog 11 #[(.pointer p157)] w170 fun v174 w175 => asS v174 fun p176 n177 c178 => 
(cl Tryd.prog 10 #[(.pointer p152)] w175 fun v179 w180 => asS v179 fun p181 n182 c183 => 
(cl Tryd.prog 10 #[(.pointer p157)] w180 fun v184 w185 => asS v184 fun p186 n187 c188 => 
(jn (fun s189 w190 => asB (s189.getD 0 undef) fun b195 => (Q (.bool b195) w190))
 (fun J191 => (cond ((n182 : Int) == n_168) (cond (decide ((n187 : Int) ≥ n_168)) (bn2 n_168 c188 (cl Tryd.prog 18 #[(.slice p181 n182 c183), (.slice p186 (Int.toNat n_168) c188)] w185 fun v192 w193 => asB v192 fun b194 => (J191 [(.bool b194)] w193))) (J191 [(.bool false)] w185)) (J191 [(.bool false)] w185))))))))))))
 (fun J161 => (cond (!b3) (J161 [(.bool true)] w155) (cond (Option.isNone p152) (J161 [(.bool true)] w155) (J161 [(.bool (Option.isNone p157))] w155)))))))))
 (fun J90 => (cond (decide (x87 < (far_n : Int))) (J90 [(.bool (decide (x87 < (20 : Int))))] w82) (J90 [(.bool false)] w82))))))))))
 (fun J14 => (cond (decide (x11 < (l_n : Int))) (J14 [(.bool (decide (x11 < (20 : Int))))] w6) (J14 [(.bool false)] w6)))))))
theorem F6_link (l : Option Addr) (l_n l_c : Nat) (far : Option Addr) (far_n far_c : Nat) (w : World) (Q : Value → World → Prop) : fnEv Tryd.prog Tryd.f6 h6 [(.slice l l_n l_c), (.slice far far_n far_c)] w Q = F6 l l_n l_c far far_n far_c w Q := by kernel_rfl
theorem F6_calls {l : Option Addr} {l_n l_c : Nat} {far : Option Addr} {far_n far_c : Nat} {w : World} {Q : Value → World → Prop} (hF_ : F6 l l_n l_c far far_n far_c w Q) : cl Tryd.prog 6 #[(.slice l l_n l_c), (.slice far far_n far_c)] w Q :=
  calls_of_ev (fn := Tryd.f6) Tryd.func6 h6 (args := [(.slice l l_n l_c), (.slice far far_n far_c)]) (by rw [F6_link]; exact hF_)

/-! tiltyard/tiltyardlaw20.PhysicsSame -/
def h7 : Hint := (.s .d (.s .d (.s .d (.s (.j [(28, 4)] .d .d) (.s .d (.s .d (.s (.s .d (.l [(11, 3)] (.s .d (.s (.s .d (.s .d (.s .d (.s .d (.j [(56, 4)] .d .d))))) .d)))) .d)))))))
set_option linter.unusedVariables false in
def F7 (l : Option Addr) (l_n l_c : Nat) (killed : Option Addr) (killed_n killed_c : Nat) (steps : Int) (w : World) (Q : Value → World → Prop) : Prop :=
 
(cl Tryd.prog 8 #[] w fun v1 w2 => asB v1 fun b3 => 
(cl Tryd.prog 9 #[(.slice l l_n l_c), (.slice killed killed_n killed_c)] w2 fun v4 w5 => asT 2 v4 fun t6 => asP (t6 0) fun p7 => asP (t6 1) fun p8 => 
(jn (fun s9 w10 => asB (s9.getD 0 undef) fun b12 => (cond b12 
(Q (.bool false) w10) 
(cl Tryd.prog 19 #[(.pointer p7)] w10 fun v13 w14 => asP v13 fun p15 => 

(cond (Option.isNone p15) 
(Q (.bool false) w14) 
(lv (0 : Int) fun n_16 => 
(lp [(.int .i64 n_16)] w14 fun J19 s17 w18 => asI .i64 (s17.getD 0 undef) fun x20 => 
(cond (decide (x20 ≤ (Go.bits .and .i64 steps (3 : Int)))) 
(cl Tryd.prog 11 #[(.pointer p7)] w18 fun v21 w22 => asS v21 fun p23 n24 c25 => 
(cl Tryd.prog 11 #[(.pointer p15)] w22 fun v26 w27 => asS v26 fun p28 n29 c30 => 
(cl Tryd.prog 20 #[(.slice p23 n24 c25), (.slice p28 n29 c30)] w27 fun v31 w32 => asB v31 fun b33 => 
(cl Tryd.prog 10 #[(.pointer p7)] w32 fun v34 w35 => asS v34 fun p36 n37 c38 => (cl Tryd.prog 10 #[(.pointer p15)] w35 fun v39 w40 => asS v39 fun p41 n42 c43 => (cl Tryd.prog 18 #[(.slice p36 n37 c38), (.slice p41 n42 c43)] w40 fun v44 w45 => asB v44 fun b46 => 
(jn (fun s47 w48 => asB (s47.getD 0 undef) fun b50 => (cond b50 
(Q (.bool false) w48) 
(lv (IntKind.wrap .i64 (x20 + (1 : Int))) fun n_51 => (J19 [(.int .i64 n_51)] w48))))
 (fun J49 => (cond (!b33) (J49 [(.bool true)] w45) (J49 [(.bool (!b46))] w45)))))))))) 

(Q (.bool true) w18))))))))
 (fun J11 => (cond (!b3) (J11 [(.bool true)] w5) (J11 [(.bool (Option.isNone p7))] w5))))))
theorem F7_link (l : Option Addr) (l_n l_c : Nat) (killed : Option Addr) (killed_n killed_c : Nat) (steps : Int) (w : World) (Q : Value → World → Prop) : fnEv Tryd.prog Tryd.f7 h7 [(.slice l l_n l_c), (.slice killed killed_n killed_c), (.int .i64 steps)] w Q = F7 l l_n l_c killed killed_n killed_c steps w Q := by kernel_rfl
theorem F7_calls {l : Option Addr} {l_n l_c : Nat} {killed : Option Addr} {killed_n killed_c : Nat} {steps : Int} {w : World} {Q : Value → World → Prop} (hF_ : F7 l l_n l_c killed killed_n killed_c steps w Q) : cl Tryd.prog 7 #[(.slice l l_n l_c), (.slice killed killed_n killed_c), (.int .i64 steps)] w Q :=
  calls_of_ev (fn := Tryd.f7) Tryd.func7 h7 (args := [(.slice l l_n l_c), (.slice killed killed_n killed_c), (.int .i64 steps)]) (by rw [F7_link]; exact hF_)

end Go.Proofs.YtamobmjfdiecbaaDoor

/- GrL1: the law GridShifts comes out true for every input. Conditions: those of the law's arguments as they are read. -/
namespace Go.Proofs.YtamobmjfdiecbaaDoor
open Go Go.Sx Go.Fp
attribute [local irreducible] jn lv ld st nw asI asB asP asS asY asM asF asA asT lp rn ru rq cl dw dr bnd bn2 nz nn hd hr so eqW
attribute [local irreducible] callOk

theorem vec_of {z : List Value} (h : FitsAll [.int .i64, .int .i64] z) : ∃ x y : Int, z = [.int .i64 x, .int .i64 y] ∧ I64 x ∧ I64 y := by
  obtain ⟨_, _, rfl, ⟨x0, rfl, h0⟩, _, _, rfl, ⟨x1, rfl, h1⟩, rfl⟩ := h
  exact ⟨x0, x1, rfl, i64_of h0, i64_of h1⟩
theorem bx_of' {z : List Value} (h : FitsAll [.int .i64, .int .i64, .int .i64] z) : ∃ b : Bx, z = b.cells ∧ I64 b.x ∧ I64 b.y ∧ I64 b.r := by
  obtain ⟨_, _, rfl, ⟨x0, rfl, h0⟩, _, _, rfl, ⟨x1, rfl, h1⟩, _, _, rfl, ⟨x2, rfl, h2⟩, rfl⟩ := h
  exact ⟨⟨x0, x1, x2⟩, rfl, i64_of h0, i64_of h1, i64_of h2⟩

theorem and63' (x : Int) : 0 ≤ Go.bits .and .i64 x 63 ∧ Go.bits .and .i64 x 63 ≤ 63 := by
  have h : ∀ a : Nat, a ≤ 63 → 0 ≤ IntKind.wrap .i64 (a : Int) ∧ IntKind.wrap .i64 (a : Int) ≤ 63 := fun a ha => by
    rw [wr64 (by omega) (by omega)]; omega
  simp only [Go.bits]
  refine h _ ?_
  rw [BitVec.toNat_and]
  refine Nat.le_trans Nat.and_le_right ?_
  decide

theorem order_self {a : Int} (h : a.natAbs < 2 ^ 53) : ((FloatKind.format .f64).order (F a) (F a) == some .eq) = true := by
  have : (FloatKind.format .f64).order (F a) (F a) = some (compare a a) := order_F h h
  rw [this, compare_self]
  rfl
where compare_self {a : Int} : compare a a = .eq := by simp

theorem gcellE_zero {s x y : Int} (h : gcellE s x y = 0) : (1 ≤ s ∧ s ≤ 1099511627776) ∧ (-1048576 ≤ x / s ∧ x / s ≤ 1048576) ∧ (-1048576 ≤ y / s ∧ y / s ≤ 1048576) := by
  unfold gcellE at h
  split at h
  · rename_i hs
    split at h
    · rename_i hc
      exact ⟨by simpa [sideOk] using hs, isCell_iff.1 hc⟩
    · cases h
  · cases h

end Go.Proofs.YtamobmjfdiecbaaDoor

/- GrL5: the law WorldNear comes out true for every input. Conditions: those of the law's arguments as they are read. -/
namespace Go.Proofs.YtamobmjfdiecbaaDoor
open Go Go.Sx Go.Fp
attribute [local irreducible] jn lv ld st nw asI asB asP asS asY asM asF asA asT lp rn ru rq cl dw dr bnd bn2 nz nn hd hr so eqW
attribute [local irreducible] callOk

theorem right_of {e : Ent} (h : e.rightE = 0) : (-4398046511104 ≤ e.x ∧ e.x ≤ 4398046511104) ∧ (-4398046511104 ≤ e.y ∧ e.y ≤ 4398046511104) ∧ 1 ≤ e.r ∧ e.r ≤ 17179869184 := by
  unfold Ent.rightE at h
  split at h
  · rename_i hb
    simp only [Ent.boxOk, inn, Bool.and_eq_true, decide_eq_true_eq] at hb
    exact ⟨hb.1.1.1, hb.1.1.2, hb.1.2, hb.2⟩
  · cases h
theorem box_right {e : Ent} (h : e.rightE = 0) : e.box.right = true := by
  obtain ⟨h1, h2, h3, h4⟩ := right_of h
  refine right_iff.2 ⟨?_, ?_, ?_⟩ <;> simp only [Ent.box] <;> omega
theorem box_cells {e : Ent} (h : e.rightE = 0) : cellsE wside e.box = 0 := by
  obtain ⟨h1, h2, h3, h4⟩ := right_of h
  have hw : wside = 34359738368 := rfl
  unfold cellsE
  rw [if_pos (by decide), if_pos (box_right h)]
  have hlx : -1048576 ≤ (e.x - e.r) / 34359738368 ∧ (e.x + e.r - 1) / 34359738368 ≤ 1048576 ∧ (e.x - e.r) / 34359738368 ≤ (e.x + e.r - 1) / 34359738368 ∧ (e.x + e.r - 1) / 34359738368 ≤ (e.x - e.r) / 34359738368 + 1 := by omega
  have hly : -1048576 ≤ (e.y - e.r) / 34359738368 ∧ (e.y + e.r - 1) / 34359738368 ≤ 1048576 ∧ (e.y - e.r) / 34359738368 ≤ (e.y + e.r - 1) / 34359738368 ∧ (e.y + e.r - 1) / 34359738368 ≤ (e.y - e.r) / 34359738368 + 1 := by omega
  have hok : (spanOf wside e.box).ok = true := by
    simp only [Span.ok, spanOf, Ent.box, hw, Bool.and_eq_true, isCell_iff]
    omega
  have hwt : ¬ (spanOf wside e.box).wide * (spanOf wside e.box).tall > 1024 := by
    have a1 : 1 ≤ (spanOf wside e.box).wide ∧ (spanOf wside e.box).wide ≤ 2 := by
      simp only [Span.wide, spanOf, Ent.box, hw]
      omega
    have a2 : 1 ≤ (spanOf wside e.box).tall ∧ (spanOf wside e.box).tall ≤ 2 := by
      simp only [Span.tall, spanOf, Ent.box, hw]
      omega
    have : (spanOf wside e.box).wide * (spanOf wside e.box).tall ≤ 2 * 2 := Int.mul_le_mul a1.2 a2.2 (by omega) (by decide)
    omega
  rw [if_pos hok, if_neg hwt]

/-- the grid has just the boxes of those who are there -/
structure Lies (S : List Spot) (B : List (Int × Bx)) (D : List ((Int × Int) × List Int)) : Prop where
  cons : Cons wside B D
  to : ∀ (j : Nat) s, S[j]? = some s → s.there = true → aget B (j : Int) = some s.e.box
  of : ∀ x b, aget B x = some b → ∃ (j : Nat) (s : Spot), x = (j : Int) ∧ S[j]? = some s ∧ s.there = true ∧ s.e.box = b

theorem Lies.zero : Lies (List.replicate 64 Spot.zero) [] [] := by
  refine ⟨Cons.nil _, fun j s h ht => ?_, fun x b h => by simp [aget, afind] at h⟩
  rw [List.getElem?_replicate] at h
  split at h
  · cases h
    cases ht
  · cases h

theorem Lies.spawn {S : List Spot} {B : List (Int × Bx)} {D : List ((Int × Int) × List Int)} (h : Lies S B D) {i : Nat} {s : Spot} (hf : IsFree S i s) {e : Ent} (he : e.rightE = 0) : Lies (S.set i (spn s i e)) (gputB wside B (i : Int) e.box) (gputD wside B D (i : Int) e.box) := by
  have hil := (List.getElem?_eq_some_iff.1 hf.1).1
  have hth : s.there = false := by
    have := hf.2.1
    unfold free at this
    revert this
    cases s.there <;> simp
  have hE : gputE wside B (i : Int) e.box = 0 := by
    unfold gputE
    rw [if_neg (by omega), if_neg, box_cells he]
    intro hsome
    obtain ⟨b, hb⟩ := Option.isSome_iff_exists.1 hsome
    obtain ⟨j, t, h1, h2, h3, _⟩ := h.of _ b hb
    have : j = i := by omega
    subst this
    rw [hf.1] at h2
    cases h2
    rw [hth] at h3
    cases h3
  refine ⟨h.cons.put _ _, fun j t ht hthere => ?_, fun x b hx => ?_⟩
  · rw [get_put]
    by_cases hj : j = i
    · subst hj
      rw [List.getElem?_set_self hil] at ht
      cases ht
      rw [if_pos ⟨hE, rfl⟩]
      rfl
    · rw [List.getElem?_set_ne (fun e => hj e.symm)] at ht
      rw [if_neg (fun hh => hj (by have := hh.2; omega))]
      exact h.to j t ht hthere
  · rw [get_put] at hx
    split at hx
    · rename_i hh
      cases hx
      exact ⟨i, spn s i e, hh.2, List.getElem?_set_self hil, rfl, rfl⟩
    · rename_i hh
      obtain ⟨j, t, h1, h2, h3, h4⟩ := h.of x b hx
      have hj : ¬ i = j := fun e => hh ⟨hE, by omega⟩
      exact ⟨j, t, h1, by rw [List.getElem?_set_ne hj]; exact h2, h3, h4⟩

theorem Lies.keys {S : List Spot} {B : List (Int × Bx)} {D : List ((Int × Int) × List Int)} (h : Lies S B D) (hl : S.length = 64) {b : Bx} (hb : cellsE wside b = 0) (x : Int) : x ∈ (metL B D b (cellsL' wside b)).map (·.1) ↔ ∃ i : Nat, x = (i : Int) ∧ i < 64 ∧ pT S b i = true := by
  rw [h.cons.near hb]
  constructor
  · rintro ⟨a, h1, h2⟩
    obtain ⟨j, s, h3, h4, h5, h6⟩ := h.of x a h1
    have hj := (List.getElem?_eq_some_iff.1 h4).1
    refine ⟨j, h3, by omega, ?_⟩
    have : S.getD j Spot.zero = s := by rw [List.getD_eq_getElem?_getD, h4]; rfl
    unfold pT
    rw [this, h5, h6, h2]
    rfl
  · rintro ⟨j, rfl, hj, hp⟩
    have hs : S[j]? = some (S.getD j Spot.zero) := by
      rw [List.getD_eq_getElem?_getD, List.getElem?_eq_getElem (by omega)]
      rfl
    unfold pT at hp
    simp only [Bool.and_eq_true] at hp
    exact ⟨_, h.to j _ hs hp.2, hp.1⟩

theorem Lies.key_lt {S : List Spot} {B : List (Int × Bx)} {D : List ((Int × Int) × List Int)} (h : Lies S B D) (hl : S.length = 64) {b : Bx} : ∀ x ∈ metL B D b (cellsL' wside b), I64 x.1 := by
  intro x hx
  obtain ⟨⟨c, _, h2⟩, _⟩ := mem_metL.1 (List.mem_map.2 ⟨x, hx, rfl⟩)
  obtain ⟨a, h3, _⟩ := (h.cons.cell c x.1).1 h2
  obtain ⟨j, s, h4, h5, _⟩ := h.of _ a h3
  have hj := (List.getElem?_eq_some_iff.1 h5).1
  unfold I64
  omega

def qM (b : Bx) (e : Ent) : Bool := (meetV e.box b).1
theorem outW_eq {S : List Spot} (hl : S.length = 64) {b : Bx} (hr : b.right = true) : outW S b = ((listS S).filter (qM b)).map (·.h) := by
  have hS : S = (List.range 64).map fun i => S.getD i Spot.zero := by
    apply List.ext_getElem?
    intro j
    rw [List.getElem?_map]
    by_cases hj : j < 64
    · rw [List.getElem?_range hj, Option.map_some, List.getD_eq_getElem?_getD, List.getElem?_eq_getElem (by omega)]
      rfl
    · rw [List.getElem?_eq_none (by omega), List.getElem?_eq_none (by simp; omega)]
      rfl
  unfold outW listS
  rw [if_pos hr, List.filter_map, List.filter_filter, List.map_map]
  generalize hp : (fun s : Spot => (qM b ∘ fun s => s.e) s && s.there) = p
  have e1 : (S.filter p).map ((fun x => x.h) ∘ fun s => s.e) = (((List.range 64).map fun i => S.getD i Spot.zero).filter p).map ((fun x => x.h) ∘ fun s => s.e) := by rw [← hS]
  rw [e1, List.filter_map, List.map_map]
  subst hp
  rfl

theorem filter_at {α : Type} {q : α → Bool} : ∀ {L : List α} {i : Nat} {e : α}, L[i]? = some e → q e = true → (L.filter q)[((L.take i).filter q).length]? = some e
  | [], i, e, h, _ => by simp at h
  | x :: L, 0, e, h, hq => by
    have : x = e := by simpa using h
    subst this
    simp [List.filter_cons, hq]
  | x :: L, i + 1, e, h, hq => by
    have ih := filter_at (L := L) (i := i) (by simpa using h) hq
    rw [List.take_succ_cons, List.filter_cons, List.filter_cons]
    split
    · simpa using ih
    · exact ih

end Go.Proofs.YtamobmjfdiecbaaDoor

/- WoR: the document's own world: what is right, where a handle is. Conditions: those of each theorem, on its arguments. -/
namespace Go.Proofs.YtamobmjfdiecbaaDoor
open Go Go.Sx Go.Fp
attribute [local irreducible] jn lv ld st nw asI asB asP asS asY asM asF asA asT lp rn ru rq cl dw dr bnd bn2 nz nn hd hr so eqW
attribute [local irreducible] callOk

theorem rwithin19_k {n m : Int} (hm : 0 ≤ m ∧ m ≤ 9223372036854775807) {w : World} {K : Value → World → Prop} (hK : K (.bool (inn n m)) w) : cl Tryd.prog 53 #[.int .i64 n, .int .i64 m] w K := by
  apply F53_calls
  unfold F53
  have e : IntKind.wrap .i64 (0 - m) = -m := by rw [wr64 (by omega) (by omega)]; omega
  rw [e]
  refine jn_mk (cond_split (fun h => asB_i rfl ?_) (fun h => asB_i rfl ?_))
  · have : inn n m = decide (n ≤ m) := by
      have h' : -m ≤ n := of_decide_eq_true h
      unfold inn; rw [decide_eq_true h']; rfl
    rw [← this]; exact hK
  · have : inn n m = false := by
      have h' : ¬ -m ≤ n := of_decide_eq_false h
      unfold inn; rw [decide_eq_false h']; rfl
    rw [← this]; exact hK

theorem rright19_k {e : Ent} {w : World} {K : Value → World → Prop} (hK : ∀ w', Ext no w w' → K (.int .i64 e.rightE) w') : cl Tryd.prog 38 #[e.v] w K := by
  apply F38_calls
  unfold F38
  have hS := St.start w
  (refine St.nw hS ?_; clear hS; intro r1 _ hS)
  refine lv_i ?_
  repeat (first | (refine dr_i ?_) | (refine asI_i rfl ?_) | (refine asB_i rfl ?_) | (refine asP_i rfl ?_) | (refine asS_i rfl ?_) | (refine asY_i rfl ?_) | (refine asM_i rfl ?_) | (refine asA_i rfl rfl ?_) | (refine asT_i rfl rfl ?_) | (refine lv_i ?_) | (refine St.nw hS ?_; clear hS; intro _ _ hS) | (refine St.dw hS ?_; clear hS; intro _ hS _) | (refine hS.ld0 0 rfl rfl ?_) | (refine hS.ld 0 rfl rfl ?_) | (refine hS.ld0 1 rfl rfl ?_) | (refine hS.ld 1 rfl rfl ?_) | (refine hS.ld0 2 rfl rfl ?_) | (refine hS.ld 2 rfl rfl ?_) | (refine hS.ld0 3 rfl rfl ?_) | (refine hS.ld 3 rfl rfl ?_) | (refine hS.ld0 4 rfl rfl ?_) | (refine hS.ld 4 rfl rfl ?_) | (refine hS.ld0 5 rfl rfl ?_) | (refine hS.ld 5 rfl rfl ?_) | (refine hS.ldd 0 rfl rfl ?_) | (refine hS.ldd 1 rfl rfl ?_) | (refine hS.ldd 2 rfl rfl ?_) | (refine hS.ldd 3 rfl rfl ?_) | (refine hS.ldd 4 rfl rfl ?_) | (refine hS.ldd 5 rfl rfl ?_) | (refine hS.hd0 0 rfl rfl ?_) | (refine hS.hd 0 rfl rfl ?_) | (refine hS.hd0 1 rfl rfl ?_) | (refine hS.hd 1 rfl rfl ?_) | (refine hS.hd0 2 rfl rfl ?_) | (refine hS.hd 2 rfl rfl ?_) | (refine hS.hd0 3 rfl rfl ?_) | (refine hS.hd 3 rfl rfl ?_) | (refine hS.hd0 4 rfl rfl ?_) | (refine hS.hd 4 rfl rfl ?_) | (refine hS.hd0 5 rfl rfl ?_) | (refine hS.hd 5 rfl rfl ?_) | (refine hS.hdd 0 rfl rfl ?_) | (refine hS.hdd 1 rfl rfl ?_) | (refine hS.hdd 2 rfl rfl ?_) | (refine hS.hdd 3 rfl rfl ?_) | (refine hS.hdd 4 rfl rfl ?_) | (refine hS.hdd 5 rfl rfl ?_) | (refine hS.st0 0 rfl rfl rfl ?_; clear hS; intro _ hS) | (refine hS.st 0 rfl rfl rfl ?_; clear hS; intro _ hS) | (refine hS.st0 1 rfl rfl rfl ?_; clear hS; intro _ hS) | (refine hS.st 1 rfl rfl rfl ?_; clear hS; intro _ hS) | (refine hS.st0 2 rfl rfl rfl ?_; clear hS; intro _ hS) | (refine hS.st 2 rfl rfl rfl ?_; clear hS; intro _ hS) | (refine hS.st0 3 rfl rfl rfl ?_; clear hS; intro _ hS) | (refine hS.st 3 rfl rfl rfl ?_; clear hS; intro _ hS) | (refine hS.st0 4 rfl rfl rfl ?_; clear hS; intro _ hS) | (refine hS.st 4 rfl rfl rfl ?_; clear hS; intro _ hS) | (refine hS.st0 5 rfl rfl rfl ?_; clear hS; intro _ hS) | (refine hS.st 5 rfl rfl rfl ?_; clear hS; intro _ hS) | (refine hS.std 0 rfl rfl rfl ?_; clear hS; intro _ hS) | (refine hS.std 1 rfl rfl rfl ?_; clear hS; intro _ hS) | (refine hS.std 2 rfl rfl rfl ?_; clear hS; intro _ hS) | (refine hS.std 3 rfl rfl rfl ?_; clear hS; intro _ hS) | (refine hS.std 4 rfl rfl rfl ?_; clear hS; intro _ hS) | (refine hS.std 5 rfl rfl rfl ?_; clear hS; intro _ hS) | (refine bnd_mk (by decide) (by decide) ?_) | (refine so_i rfl ?_))
  refine rwithin19_k (by decide) ?_
  repeat (first | (refine dr_i ?_) | (refine asI_i rfl ?_) | (refine asB_i rfl ?_) | (refine asP_i rfl ?_) | (refine asS_i rfl ?_) | (refine asY_i rfl ?_) | (refine asM_i rfl ?_) | (refine asA_i rfl rfl ?_) | (refine asT_i rfl rfl ?_) | (refine lv_i ?_) | (refine St.nw hS ?_; clear hS; intro _ _ hS) | (refine St.dw hS ?_; clear hS; intro _ hS _) | (refine hS.ld0 0 rfl rfl ?_) | (refine hS.ld 0 rfl rfl ?_) | (refine hS.ld0 1 rfl rfl ?_) | (refine hS.ld 1 rfl rfl ?_) | (refine hS.ld0 2 rfl rfl ?_) | (refine hS.ld 2 rfl rfl ?_) | (refine hS.ld0 3 rfl rfl ?_) | (refine hS.ld 3 rfl rfl ?_) | (refine hS.ld0 4 rfl rfl ?_) | (refine hS.ld 4 rfl rfl ?_) | (refine hS.ld0 5 rfl rfl ?_) | (refine hS.ld 5 rfl rfl ?_) | (refine hS.ldd 0 rfl rfl ?_) | (refine hS.ldd 1 rfl rfl ?_) | (refine hS.ldd 2 rfl rfl ?_) | (refine hS.ldd 3 rfl rfl ?_) | (refine hS.ldd 4 rfl rfl ?_) | (refine hS.ldd 5 rfl rfl ?_) | (refine hS.hd0 0 rfl rfl ?_) | (refine hS.hd 0 rfl rfl ?_) | (refine hS.hd0 1 rfl rfl ?_) | (refine hS.hd 1 rfl rfl ?_) | (refine hS.hd0 2 rfl rfl ?_) | (refine hS.hd 2 rfl rfl ?_) | (refine hS.hd0 3 rfl rfl ?_) | (refine hS.hd 3 rfl rfl ?_) | (refine hS.hd0 4 rfl rfl ?_) | (refine hS.hd 4 rfl rfl ?_) | (refine hS.hd0 5 rfl rfl ?_) | (refine hS.hd 5 rfl rfl ?_) | (refine hS.hdd 0 rfl rfl ?_) | (refine hS.hdd 1 rfl rfl ?_) | (refine hS.hdd 2 rfl rfl ?_) | (refine hS.hdd 3 rfl rfl ?_) | (refine hS.hdd 4 rfl rfl ?_) | (refine hS.hdd 5 rfl rfl ?_) | (refine hS.st0 0 rfl rfl rfl ?_; clear hS; intro _ hS) | (refine hS.st 0 rfl rfl rfl ?_; clear hS; intro _ hS) | (refine hS.st0 1 rfl rfl rfl ?_; clear hS; intro _ hS) | (refine hS.st 1 rfl rfl rfl ?_; clear hS; intro _ hS) | (refine hS.st0 2 rfl rfl rfl ?_; clear hS; intro _ hS) | (refine hS.st 2 rfl rfl rfl ?_; clear hS; intro _ hS) | (refine hS.st0 3 rfl rfl rfl ?_; clear hS; intro _ hS) | (refine hS.st 3 rfl rfl rfl ?_; clear hS; intro _ hS) | (refine hS.st0 4 rfl rfl rfl ?_; clear hS; intro _ hS) | (refine hS.st 4 rfl rfl rfl ?_; clear hS; intro _ hS) | (refine hS.st0 5 rfl rfl rfl ?_; clear hS; intro _ hS) | (refine hS.st 5 rfl rfl rfl ?_; clear hS; intro _ hS) | (refine hS.std 0 rfl rfl rfl ?_; clear hS; intro _ hS) | (refine hS.std 1 rfl rfl rfl ?_; clear hS; intro _ hS) | (refine hS.std 2 rfl rfl rfl ?_; clear hS; intro _ hS) | (refine hS.std 3 rfl rfl rfl ?_; clear hS; intro _ hS) | (refine hS.std 4 rfl rfl rfl ?_; clear hS; intro _ hS) | (refine hS.std 5 rfl rfl rfl ?_; clear hS; intro _ hS) | (refine bnd_mk (by decide) (by decide) ?_) | (refine so_i rfl ?_))
  refine rwithin19_k (by decide) ?_
  repeat (first | (refine dr_i ?_) | (refine asI_i rfl ?_) | (refine asB_i rfl ?_) | (refine asP_i rfl ?_) | (refine asS_i rfl ?_) | (refine asY_i rfl ?_) | (refine asM_i rfl ?_) | (refine asA_i rfl rfl ?_) | (refine asT_i rfl rfl ?_) | (refine lv_i ?_) | (refine St.nw hS ?_; clear hS; intro _ _ hS) | (refine St.dw hS ?_; clear hS; intro _ hS _) | (refine hS.ld0 0 rfl rfl ?_) | (refine hS.ld 0 rfl rfl ?_) | (refine hS.ld0 1 rfl rfl ?_) | (refine hS.ld 1 rfl rfl ?_) | (refine hS.ld0 2 rfl rfl ?_) | (refine hS.ld 2 rfl rfl ?_) | (refine hS.ld0 3 rfl rfl ?_) | (refine hS.ld 3 rfl rfl ?_) | (refine hS.ld0 4 rfl rfl ?_) | (refine hS.ld 4 rfl rfl ?_) | (refine hS.ld0 5 rfl rfl ?_) | (refine hS.ld 5 rfl rfl ?_) | (refine hS.ldd 0 rfl rfl ?_) | (refine hS.ldd 1 rfl rfl ?_) | (refine hS.ldd 2 rfl rfl ?_) | (refine hS.ldd 3 rfl rfl ?_) | (refine hS.ldd 4 rfl rfl ?_) | (refine hS.ldd 5 rfl rfl ?_) | (refine hS.hd0 0 rfl rfl ?_) | (refine hS.hd 0 rfl rfl ?_) | (refine hS.hd0 1 rfl rfl ?_) | (refine hS.hd 1 rfl rfl ?_) | (refine hS.hd0 2 rfl rfl ?_) | (refine hS.hd 2 rfl rfl ?_) | (refine hS.hd0 3 rfl rfl ?_) | (refine hS.hd 3 rfl rfl ?_) | (refine hS.hd0 4 rfl rfl ?_) | (refine hS.hd 4 rfl rfl ?_) | (refine hS.hd0 5 rfl rfl ?_) | (refine hS.hd 5 rfl rfl ?_) | (refine hS.hdd 0 rfl rfl ?_) | (refine hS.hdd 1 rfl rfl ?_) | (refine hS.hdd 2 rfl rfl ?_) | (refine hS.hdd 3 rfl rfl ?_) | (refine hS.hdd 4 rfl rfl ?_) | (refine hS.hdd 5 rfl rfl ?_) | (refine hS.st0 0 rfl rfl rfl ?_; clear hS; intro _ hS) | (refine hS.st 0 rfl rfl rfl ?_; clear hS; intro _ hS) | (refine hS.st0 1 rfl rfl rfl ?_; clear hS; intro _ hS) | (refine hS.st 1 rfl rfl rfl ?_; clear hS; intro _ hS) | (refine hS.st0 2 rfl rfl rfl ?_; clear hS; intro _ hS) | (refine hS.st 2 rfl rfl rfl ?_; clear hS; intro _ hS) | (refine hS.st0 3 rfl rfl rfl ?_; clear hS; intro _ hS) | (refine hS.st 3 rfl rfl rfl ?_; clear hS; intro _ hS) | (refine hS.st0 4 rfl rfl rfl ?_; clear hS; intro _ hS) | (refine hS.st 4 rfl rfl rfl ?_; clear hS; intro _ hS) | (refine hS.st0 5 rfl rfl rfl ?_; clear hS; intro _ hS) | (refine hS.st 5 rfl rfl rfl ?_; clear hS; intro _ hS) | (refine hS.std 0 rfl rfl rfl ?_; clear hS; intro _ hS) | (refine hS.std 1 rfl rfl rfl ?_; clear hS; intro _ hS) | (refine hS.std 2 rfl rfl rfl ?_; clear hS; intro _ hS) | (refine hS.std 3 rfl rfl rfl ?_; clear hS; intro _ hS) | (refine hS.std 4 rfl rfl rfl ?_; clear hS; intro _ hS) | (refine hS.std 5 rfl rfl rfl ?_; clear hS; intro _ hS) | (refine bnd_mk (by decide) (by decide) ?_) | (refine so_i rfl ?_))
  refine jn_of (fun t w' => t = [.bool (!e.boxOk)] ∧ St w w' [(r1, e.cells, 40)]) ?_ ?_
  · clear hS
    rintro _ w2 ⟨rfl, hS⟩
    refine asB_i rfl (cond_split (fun h => lv_i ?_) (fun h => ?_))
    · have hb : ¬ e.boxOk = true := by simpa using h
      have := hK w2 hS.ext
      unfold Ent.rightE at this
      rw [if_neg hb] at this
      exact this
    have hb : e.boxOk = true := by simpa using h
    repeat (first | (refine dr_i ?_) | (refine asI_i rfl ?_) | (refine asB_i rfl ?_) | (refine asP_i rfl ?_) | (refine asS_i rfl ?_) | (refine asY_i rfl ?_) | (refine asM_i rfl ?_) | (refine asA_i rfl rfl ?_) | (refine asT_i rfl rfl ?_) | (refine lv_i ?_) | (refine St.nw hS ?_; clear hS; intro _ _ hS) | (refine St.dw hS ?_; clear hS; intro _ hS _) | (refine hS.ld0 0 rfl rfl ?_) | (refine hS.ld 0 rfl rfl ?_) | (refine hS.ld0 1 rfl rfl ?_) | (refine hS.ld 1 rfl rfl ?_) | (refine hS.ld0 2 rfl rfl ?_) | (refine hS.ld 2 rfl rfl ?_) | (refine hS.ld0 3 rfl rfl ?_) | (refine hS.ld 3 rfl rfl ?_) | (refine hS.ld0 4 rfl rfl ?_) | (refine hS.ld 4 rfl rfl ?_) | (refine hS.ld0 5 rfl rfl ?_) | (refine hS.ld 5 rfl rfl ?_) | (refine hS.ldd 0 rfl rfl ?_) | (refine hS.ldd 1 rfl rfl ?_) | (refine hS.ldd 2 rfl rfl ?_) | (refine hS.ldd 3 rfl rfl ?_) | (refine hS.ldd 4 rfl rfl ?_) | (refine hS.ldd 5 rfl rfl ?_) | (refine hS.hd0 0 rfl rfl ?_) | (refine hS.hd 0 rfl rfl ?_) | (refine hS.hd0 1 rfl rfl ?_) | (refine hS.hd 1 rfl rfl ?_) | (refine hS.hd0 2 rfl rfl ?_) | (refine hS.hd 2 rfl rfl ?_) | (refine hS.hd0 3 rfl rfl ?_) | (refine hS.hd 3 rfl rfl ?_) | (refine hS.hd0 4 rfl rfl ?_) | (refine hS.hd 4 rfl rfl ?_) | (refine hS.hd0 5 rfl rfl ?_) | (refine hS.hd 5 rfl rfl ?_) | (refine hS.hdd 0 rfl rfl ?_) | (refine hS.hdd 1 rfl rfl ?_) | (refine hS.hdd 2 rfl rfl ?_) | (refine hS.hdd 3 rfl rfl ?_) | (refine hS.hdd 4 rfl rfl ?_) | (refine hS.hdd 5 rfl rfl ?_) | (refine hS.st0 0 rfl rfl rfl ?_; clear hS; intro _ hS) | (refine hS.st 0 rfl rfl rfl ?_; clear hS; intro _ hS) | (refine hS.st0 1 rfl rfl rfl ?_; clear hS; intro _ hS) | (refine hS.st 1 rfl rfl rfl ?_; clear hS; intro _ hS) | (refine hS.st0 2 rfl rfl rfl ?_; clear hS; intro _ hS) | (refine hS.st 2 rfl rfl rfl ?_; clear hS; intro _ hS) | (refine hS.st0 3 rfl rfl rfl ?_; clear hS; intro _ hS) | (refine hS.st 3 rfl rfl rfl ?_; clear hS; intro _ hS) | (refine hS.st0 4 rfl rfl rfl ?_; clear hS; intro _ hS) | (refine hS.st 4 rfl rfl rfl ?_; clear hS; intro _ hS) | (refine hS.st0 5 rfl rfl rfl ?_; clear hS; intro _ hS) | (refine hS.st 5 rfl rfl rfl ?_; clear hS; intro _ hS) | (refine hS.std 0 rfl rfl rfl ?_; clear hS; intro _ hS) | (refine hS.std 1 rfl rfl rfl ?_; clear hS; intro _ hS) | (refine hS.std 2 rfl rfl rfl ?_; clear hS; intro _ hS) | (refine hS.std 3 rfl rfl rfl ?_; clear hS; intro _ hS) | (refine hS.std 4 rfl rfl rfl ?_; clear hS; intro _ hS) | (refine hS.std 5 rfl rfl rfl ?_; clear hS; intro _ hS) | (refine bnd_mk (by decide) (by decide) ?_) | (refine so_i rfl ?_))
    refine rwithin19_k (by decide) ?_
    repeat (first | (refine dr_i ?_) | (refine asI_i rfl ?_) | (refine asB_i rfl ?_) | (refine asP_i rfl ?_) | (refine asS_i rfl ?_) | (refine asY_i rfl ?_) | (refine asM_i rfl ?_) | (refine asA_i rfl rfl ?_) | (refine asT_i rfl rfl ?_) | (refine lv_i ?_) | (refine St.nw hS ?_; clear hS; intro _ _ hS) | (refine St.dw hS ?_; clear hS; intro _ hS _) | (refine hS.ld0 0 rfl rfl ?_) | (refine hS.ld 0 rfl rfl ?_) | (refine hS.ld0 1 rfl rfl ?_) | (refine hS.ld 1 rfl rfl ?_) | (refine hS.ld0 2 rfl rfl ?_) | (refine hS.ld 2 rfl rfl ?_) | (refine hS.ld0 3 rfl rfl ?_) | (refine hS.ld 3 rfl rfl ?_) | (refine hS.ld0 4 rfl rfl ?_) | (refine hS.ld 4 rfl rfl ?_) | (refine hS.ld0 5 rfl rfl ?_) | (refine hS.ld 5 rfl rfl ?_) | (refine hS.ldd 0 rfl rfl ?_) | (refine hS.ldd 1 rfl rfl ?_) | (refine hS.ldd 2 rfl rfl ?_) | (refine hS.ldd 3 rfl rfl ?_) | (refine hS.ldd 4 rfl rfl ?_) | (refine hS.ldd 5 rfl rfl ?_) | (refine hS.hd0 0 rfl rfl ?_) | (refine hS.hd 0 rfl rfl ?_) | (refine hS.hd0 1 rfl rfl ?_) | (refine hS.hd 1 rfl rfl ?_) | (refine hS.hd0 2 rfl rfl ?_) | (refine hS.hd 2 rfl rfl ?_) | (refine hS.hd0 3 rfl rfl ?_) | (refine hS.hd 3 rfl rfl ?_) | (refine hS.hd0 4 rfl rfl ?_) | (refine hS.hd 4 rfl rfl ?_) | (refine hS.hd0 5 rfl rfl ?_) | (refine hS.hd 5 rfl rfl ?_) | (refine hS.hdd 0 rfl rfl ?_) | (refine hS.hdd 1 rfl rfl ?_) | (refine hS.hdd 2 rfl rfl ?_) | (refine hS.hdd 3 rfl rfl ?_) | (refine hS.hdd 4 rfl rfl ?_) | (refine hS.hdd 5 rfl rfl ?_) | (refine hS.st0 0 rfl rfl rfl ?_; clear hS; intro _ hS) | (refine hS.st 0 rfl rfl rfl ?_; clear hS; intro _ hS) | (refine hS.st0 1 rfl rfl rfl ?_; clear hS; intro _ hS) | (refine hS.st 1 rfl rfl rfl ?_; clear hS; intro _ hS) | (refine hS.st0 2 rfl rfl rfl ?_; clear hS; intro _ hS) | (refine hS.st 2 rfl rfl rfl ?_; clear hS; intro _ hS) | (refine hS.st0 3 rfl rfl rfl ?_; clear hS; intro _ hS) | (refine hS.st 3 rfl rfl rfl ?_; clear hS; intro _ hS) | (refine hS.st0 4 rfl rfl rfl ?_; clear hS; intro _ hS) | (refine hS.st 4 rfl rfl rfl ?_; clear hS; intro _ hS) | (refine hS.st0 5 rfl rfl rfl ?_; clear hS; intro _ hS) | (refine hS.st 5 rfl rfl rfl ?_; clear hS; intro _ hS) | (refine hS.std 0 rfl rfl rfl ?_; clear hS; intro _ hS) | (refine hS.std 1 rfl rfl rfl ?_; clear hS; intro _ hS) | (refine hS.std 2 rfl rfl rfl ?_; clear hS; intro _ hS) | (refine hS.std 3 rfl rfl rfl ?_; clear hS; intro _ hS) | (refine hS.std 4 rfl rfl rfl ?_; clear hS; intro _ hS) | (refine hS.std 5 rfl rfl rfl ?_; clear hS; intro _ hS) | (refine bnd_mk (by decide) (by decide) ?_) | (refine so_i rfl ?_))
    refine rwithin19_k (by decide) ?_
    repeat (first | (refine dr_i ?_) | (refine asI_i rfl ?_) | (refine asB_i rfl ?_) | (refine asP_i rfl ?_) | (refine asS_i rfl ?_) | (refine asY_i rfl ?_) | (refine asM_i rfl ?_) | (refine asA_i rfl rfl ?_) | (refine asT_i rfl rfl ?_) | (refine lv_i ?_) | (refine St.nw hS ?_; clear hS; intro _ _ hS) | (refine St.dw hS ?_; clear hS; intro _ hS _) | (refine hS.ld0 0 rfl rfl ?_) | (refine hS.ld 0 rfl rfl ?_) | (refine hS.ld0 1 rfl rfl ?_) | (refine hS.ld 1 rfl rfl ?_) | (refine hS.ld0 2 rfl rfl ?_) | (refine hS.ld 2 rfl rfl ?_) | (refine hS.ld0 3 rfl rfl ?_) | (refine hS.ld 3 rfl rfl ?_) | (refine hS.ld0 4 rfl rfl ?_) | (refine hS.ld 4 rfl rfl ?_) | (refine hS.ld0 5 rfl rfl ?_) | (refine hS.ld 5 rfl rfl ?_) | (refine hS.ldd 0 rfl rfl ?_) | (refine hS.ldd 1 rfl rfl ?_) | (refine hS.ldd 2 rfl rfl ?_) | (refine hS.ldd 3 rfl rfl ?_) | (refine hS.ldd 4 rfl rfl ?_) | (refine hS.ldd 5 rfl rfl ?_) | (refine hS.hd0 0 rfl rfl ?_) | (refine hS.hd 0 rfl rfl ?_) | (refine hS.hd0 1 rfl rfl ?_) | (refine hS.hd 1 rfl rfl ?_) | (refine hS.hd0 2 rfl rfl ?_) | (refine hS.hd 2 rfl rfl ?_) | (refine hS.hd0 3 rfl rfl ?_) | (refine hS.hd 3 rfl rfl ?_) | (refine hS.hd0 4 rfl rfl ?_) | (refine hS.hd 4 rfl rfl ?_) | (refine hS.hd0 5 rfl rfl ?_) | (refine hS.hd 5 rfl rfl ?_) | (refine hS.hdd 0 rfl rfl ?_) | (refine hS.hdd 1 rfl rfl ?_) | (refine hS.hdd 2 rfl rfl ?_) | (refine hS.hdd 3 rfl rfl ?_) | (refine hS.hdd 4 rfl rfl ?_) | (refine hS.hdd 5 rfl rfl ?_) | (refine hS.st0 0 rfl rfl rfl ?_; clear hS; intro _ hS) | (refine hS.st 0 rfl rfl rfl ?_; clear hS; intro _ hS) | (refine hS.st0 1 rfl rfl rfl ?_; clear hS; intro _ hS) | (refine hS.st 1 rfl rfl rfl ?_; clear hS; intro _ hS) | (refine hS.st0 2 rfl rfl rfl ?_; clear hS; intro _ hS) | (refine hS.st 2 rfl rfl rfl ?_; clear hS; intro _ hS) | (refine hS.st0 3 rfl rfl rfl ?_; clear hS; intro _ hS) | (refine hS.st 3 rfl rfl rfl ?_; clear hS; intro _ hS) | (refine hS.st0 4 rfl rfl rfl ?_; clear hS; intro _ hS) | (refine hS.st 4 rfl rfl rfl ?_; clear hS; intro _ hS) | (refine hS.st0 5 rfl rfl rfl ?_; clear hS; intro _ hS) | (refine hS.st 5 rfl rfl rfl ?_; clear hS; intro _ hS) | (refine hS.std 0 rfl rfl rfl ?_; clear hS; intro _ hS) | (refine hS.std 1 rfl rfl rfl ?_; clear hS; intro _ hS) | (refine hS.std 2 rfl rfl rfl ?_; clear hS; intro _ hS) | (refine hS.std 3 rfl rfl rfl ?_; clear hS; intro _ hS) | (refine hS.std 4 rfl rfl rfl ?_; clear hS; intro _ hS) | (refine hS.std 5 rfl rfl rfl ?_; clear hS; intro _ hS) | (refine bnd_mk (by decide) (by decide) ?_) | (refine so_i rfl ?_))
    refine jn_of (fun t w' => t = [.bool (!e.argOk)] ∧ St w w' [(r1, e.cells, 40)]) ?_ ?_
    · clear hS
      rintro _ w3 ⟨rfl, hS⟩
      have := hK w3 hS.ext
      unfold Ent.rightE at this
      rw [if_pos hb] at this
      refine asB_i rfl (cond_split (fun h => lv_i ?_) (fun h => lv_i ?_))
      · rw [if_neg (by simpa using h)] at this
        exact this
      · rw [if_pos (by simpa using h)] at this
        exact this
    · intro J hJ
      refine cond_split (fun h => hJ _ _ ⟨?_, hS⟩) (fun h1 => cond_split (fun h => hJ _ _ ⟨?_, hS⟩) (fun h2 => ?_))
      · have : inn e.vx 17179869184 = false := by simpa using h
        unfold Ent.argOk; rw [this]; rfl
      · have : inn e.vy 17179869184 = false := by simpa using h
        have h1' : inn e.vx 17179869184 = true := by simpa using h1
        unfold Ent.argOk; rw [this, h1']; rfl
      have h1' : inn e.vx 17179869184 = true := by simpa using h1
      have h2' : inn e.vy 17179869184 = true := by simpa using h2
      repeat (first | (refine dr_i ?_) | (refine asI_i rfl ?_) | (refine asB_i rfl ?_) | (refine asP_i rfl ?_) | (refine asS_i rfl ?_) | (refine asY_i rfl ?_) | (refine asM_i rfl ?_) | (refine asA_i rfl rfl ?_) | (refine asT_i rfl rfl ?_) | (refine lv_i ?_) | (refine St.nw hS ?_; clear hS; intro _ _ hS) | (refine St.dw hS ?_; clear hS; intro _ hS _) | (refine hS.ld0 0 rfl rfl ?_) | (refine hS.ld 0 rfl rfl ?_) | (refine hS.ld0 1 rfl rfl ?_) | (refine hS.ld 1 rfl rfl ?_) | (refine hS.ld0 2 rfl rfl ?_) | (refine hS.ld 2 rfl rfl ?_) | (refine hS.ld0 3 rfl rfl ?_) | (refine hS.ld 3 rfl rfl ?_) | (refine hS.ld0 4 rfl rfl ?_) | (refine hS.ld 4 rfl rfl ?_) | (refine hS.ld0 5 rfl rfl ?_) | (refine hS.ld 5 rfl rfl ?_) | (refine hS.ldd 0 rfl rfl ?_) | (refine hS.ldd 1 rfl rfl ?_) | (refine hS.ldd 2 rfl rfl ?_) | (refine hS.ldd 3 rfl rfl ?_) | (refine hS.ldd 4 rfl rfl ?_) | (refine hS.ldd 5 rfl rfl ?_) | (refine hS.hd0 0 rfl rfl ?_) | (refine hS.hd 0 rfl rfl ?_) | (refine hS.hd0 1 rfl rfl ?_) | (refine hS.hd 1 rfl rfl ?_) | (refine hS.hd0 2 rfl rfl ?_) | (refine hS.hd 2 rfl rfl ?_) | (refine hS.hd0 3 rfl rfl ?_) | (refine hS.hd 3 rfl rfl ?_) | (refine hS.hd0 4 rfl rfl ?_) | (refine hS.hd 4 rfl rfl ?_) | (refine hS.hd0 5 rfl rfl ?_) | (refine hS.hd 5 rfl rfl ?_) | (refine hS.hdd 0 rfl rfl ?_) | (refine hS.hdd 1 rfl rfl ?_) | (refine hS.hdd 2 rfl rfl ?_) | (refine hS.hdd 3 rfl rfl ?_) | (refine hS.hdd 4 rfl rfl ?_) | (refine hS.hdd 5 rfl rfl ?_) | (refine hS.st0 0 rfl rfl rfl ?_; clear hS; intro _ hS) | (refine hS.st 0 rfl rfl rfl ?_; clear hS; intro _ hS) | (refine hS.st0 1 rfl rfl rfl ?_; clear hS; intro _ hS) | (refine hS.st 1 rfl rfl rfl ?_; clear hS; intro _ hS) | (refine hS.st0 2 rfl rfl rfl ?_; clear hS; intro _ hS) | (refine hS.st 2 rfl rfl rfl ?_; clear hS; intro _ hS) | (refine hS.st0 3 rfl rfl rfl ?_; clear hS; intro _ hS) | (refine hS.st 3 rfl rfl rfl ?_; clear hS; intro _ hS) | (refine hS.st0 4 rfl rfl rfl ?_; clear hS; intro _ hS) | (refine hS.st 4 rfl rfl rfl ?_; clear hS; intro _ hS) | (refine hS.st0 5 rfl rfl rfl ?_; clear hS; intro _ hS) | (refine hS.st 5 rfl rfl rfl ?_; clear hS; intro _ hS) | (refine hS.std 0 rfl rfl rfl ?_; clear hS; intro _ hS) | (refine hS.std 1 rfl rfl rfl ?_; clear hS; intro _ hS) | (refine hS.std 2 rfl rfl rfl ?_; clear hS; intro _ hS) | (refine hS.std 3 rfl rfl rfl ?_; clear hS; intro _ hS) | (refine hS.std 4 rfl rfl rfl ?_; clear hS; intro _ hS) | (refine hS.std 5 rfl rfl rfl ?_; clear hS; intro _ hS) | (refine bnd_mk (by decide) (by decide) ?_) | (refine so_i rfl ?_))
      refine cond_split (fun h => hJ _ _ ⟨?_, hS⟩) (fun h => ?_)
      · have h' : ¬ 0 ≤ e.o := by have := of_decide_eq_true h; omega
        unfold Ent.argOk; rw [h1', h2', decide_eq_false h']; rfl
      repeat (first | (refine dr_i ?_) | (refine asI_i rfl ?_) | (refine asB_i rfl ?_) | (refine asP_i rfl ?_) | (refine asS_i rfl ?_) | (refine asY_i rfl ?_) | (refine asM_i rfl ?_) | (refine asA_i rfl rfl ?_) | (refine asT_i rfl rfl ?_) | (refine lv_i ?_) | (refine St.nw hS ?_; clear hS; intro _ _ hS) | (refine St.dw hS ?_; clear hS; intro _ hS _) | (refine hS.ld0 0 rfl rfl ?_) | (refine hS.ld 0 rfl rfl ?_) | (refine hS.ld0 1 rfl rfl ?_) | (refine hS.ld 1 rfl rfl ?_) | (refine hS.ld0 2 rfl rfl ?_) | (refine hS.ld 2 rfl rfl ?_) | (refine hS.ld0 3 rfl rfl ?_) | (refine hS.ld 3 rfl rfl ?_) | (refine hS.ld0 4 rfl rfl ?_) | (refine hS.ld 4 rfl rfl ?_) | (refine hS.ld0 5 rfl rfl ?_) | (refine hS.ld 5 rfl rfl ?_) | (refine hS.ldd 0 rfl rfl ?_) | (refine hS.ldd 1 rfl rfl ?_) | (refine hS.ldd 2 rfl rfl ?_) | (refine hS.ldd 3 rfl rfl ?_) | (refine hS.ldd 4 rfl rfl ?_) | (refine hS.ldd 5 rfl rfl ?_) | (refine hS.hd0 0 rfl rfl ?_) | (refine hS.hd 0 rfl rfl ?_) | (refine hS.hd0 1 rfl rfl ?_) | (refine hS.hd 1 rfl rfl ?_) | (refine hS.hd0 2 rfl rfl ?_) | (refine hS.hd 2 rfl rfl ?_) | (refine hS.hd0 3 rfl rfl ?_) | (refine hS.hd 3 rfl rfl ?_) | (refine hS.hd0 4 rfl rfl ?_) | (refine hS.hd 4 rfl rfl ?_) | (refine hS.hd0 5 rfl rfl ?_) | (refine hS.hd 5 rfl rfl ?_) | (refine hS.hdd 0 rfl rfl ?_) | (refine hS.hdd 1 rfl rfl ?_) | (refine hS.hdd 2 rfl rfl ?_) | (refine hS.hdd 3 rfl rfl ?_) | (refine hS.hdd 4 rfl rfl ?_) | (refine hS.hdd 5 rfl rfl ?_) | (refine hS.st0 0 rfl rfl rfl ?_; clear hS; intro _ hS) | (refine hS.st 0 rfl rfl rfl ?_; clear hS; intro _ hS) | (refine hS.st0 1 rfl rfl rfl ?_; clear hS; intro _ hS) | (refine hS.st 1 rfl rfl rfl ?_; clear hS; intro _ hS) | (refine hS.st0 2 rfl rfl rfl ?_; clear hS; intro _ hS) | (refine hS.st 2 rfl rfl rfl ?_; clear hS; intro _ hS) | (refine hS.st0 3 rfl rfl rfl ?_; clear hS; intro _ hS) | (refine hS.st 3 rfl rfl rfl ?_; clear hS; intro _ hS) | (refine hS.st0 4 rfl rfl rfl ?_; clear hS; intro _ hS) | (refine hS.st 4 rfl rfl rfl ?_; clear hS; intro _ hS) | (refine hS.st0 5 rfl rfl rfl ?_; clear hS; intro _ hS) | (refine hS.st 5 rfl rfl rfl ?_; clear hS; intro _ hS) | (refine hS.std 0 rfl rfl rfl ?_; clear hS; intro _ hS) | (refine hS.std 1 rfl rfl rfl ?_; clear hS; intro _ hS) | (refine hS.std 2 rfl rfl rfl ?_; clear hS; intro _ hS) | (refine hS.std 3 rfl rfl rfl ?_; clear hS; intro _ hS) | (refine hS.std 4 rfl rfl rfl ?_; clear hS; intro _ hS) | (refine hS.std 5 rfl rfl rfl ?_; clear hS; intro _ hS) | (refine bnd_mk (by decide) (by decide) ?_) | (refine so_i rfl ?_))
      refine hJ _ _ ⟨?_, hS⟩
      have h' : 0 ≤ e.o := by have := of_decide_eq_false h; omega
      unfold Ent.argOk
      rw [h1', h2', decide_eq_true h']
      by_cases h8 : e.o ≤ 8
      · rw [decide_eq_true h8, decide_eq_false (by omega)]; rfl
      · rw [decide_eq_false h8, decide_eq_true (by omega)]; rfl
  · intro J hJ
    refine cond_split (fun h => hJ _ _ ⟨?_, hS⟩) (fun h1 => cond_split (fun h => hJ _ _ ⟨?_, hS⟩) (fun h2 => ?_))
    · have : inn e.x 4398046511104 = false := by simpa using h
      unfold Ent.boxOk; rw [this]; rfl
    · have : inn e.y 4398046511104 = false := by simpa using h
      have h1' : inn e.x 4398046511104 = true := by simpa using h1
      unfold Ent.boxOk; rw [this, h1']; rfl
    have h1' : inn e.x 4398046511104 = true := by simpa using h1
    have h2' : inn e.y 4398046511104 = true := by simpa using h2
    repeat (first | (refine dr_i ?_) | (refine asI_i rfl ?_) | (refine asB_i rfl ?_) | (refine asP_i rfl ?_) | (refine asS_i rfl ?_) | (refine asY_i rfl ?_) | (refine asM_i rfl ?_) | (refine asA_i rfl rfl ?_) | (refine asT_i rfl rfl ?_) | (refine lv_i ?_) | (refine St.nw hS ?_; clear hS; intro _ _ hS) | (refine St.dw hS ?_; clear hS; intro _ hS _) | (refine hS.ld0 0 rfl rfl ?_) | (refine hS.ld 0 rfl rfl ?_) | (refine hS.ld0 1 rfl rfl ?_) | (refine hS.ld 1 rfl rfl ?_) | (refine hS.ld0 2 rfl rfl ?_) | (refine hS.ld 2 rfl rfl ?_) | (refine hS.ld0 3 rfl rfl ?_) | (refine hS.ld 3 rfl rfl ?_) | (refine hS.ld0 4 rfl rfl ?_) | (refine hS.ld 4 rfl rfl ?_) | (refine hS.ld0 5 rfl rfl ?_) | (refine hS.ld 5 rfl rfl ?_) | (refine hS.ldd 0 rfl rfl ?_) | (refine hS.ldd 1 rfl rfl ?_) | (refine hS.ldd 2 rfl rfl ?_) | (refine hS.ldd 3 rfl rfl ?_) | (refine hS.ldd 4 rfl rfl ?_) | (refine hS.ldd 5 rfl rfl ?_) | (refine hS.hd0 0 rfl rfl ?_) | (refine hS.hd 0 rfl rfl ?_) | (refine hS.hd0 1 rfl rfl ?_) | (refine hS.hd 1 rfl rfl ?_) | (refine hS.hd0 2 rfl rfl ?_) | (refine hS.hd 2 rfl rfl ?_) | (refine hS.hd0 3 rfl rfl ?_) | (refine hS.hd 3 rfl rfl ?_) | (refine hS.hd0 4 rfl rfl ?_) | (refine hS.hd 4 rfl rfl ?_) | (refine hS.hd0 5 rfl rfl ?_) | (refine hS.hd 5 rfl rfl ?_) | (refine hS.hdd 0 rfl rfl ?_) | (refine hS.hdd 1 rfl rfl ?_) | (refine hS.hdd 2 rfl rfl ?_) | (refine hS.hdd 3 rfl rfl ?_) | (refine hS.hdd 4 rfl rfl ?_) | (refine hS.hdd 5 rfl rfl ?_) | (refine hS.st0 0 rfl rfl rfl ?_; clear hS; intro _ hS) | (refine hS.st 0 rfl rfl rfl ?_; clear hS; intro _ hS) | (refine hS.st0 1 rfl rfl rfl ?_; clear hS; intro _ hS) | (refine hS.st 1 rfl rfl rfl ?_; clear hS; intro _ hS) | (refine hS.st0 2 rfl rfl rfl ?_; clear hS; intro _ hS) | (refine hS.st 2 rfl rfl rfl ?_; clear hS; intro _ hS) | (refine hS.st0 3 rfl rfl rfl ?_; clear hS; intro _ hS) | (refine hS.st 3 rfl rfl rfl ?_; clear hS; intro _ hS) | (refine hS.st0 4 rfl rfl rfl ?_; clear hS; intro _ hS) | (refine hS.st 4 rfl rfl rfl ?_; clear hS; intro _ hS) | (refine hS.st0 5 rfl rfl rfl ?_; clear hS; intro _ hS) | (refine hS.st 5 rfl rfl rfl ?_; clear hS; intro _ hS) | (refine hS.std 0 rfl rfl rfl ?_; clear hS; intro _ hS) | (refine hS.std 1 rfl rfl rfl ?_; clear hS; intro _ hS) | (refine hS.std 2 rfl rfl rfl ?_; clear hS; intro _ hS) | (refine hS.std 3 rfl rfl rfl ?_; clear hS; intro _ hS) | (refine hS.std 4 rfl rfl rfl ?_; clear hS; intro _ hS) | (refine hS.std 5 rfl rfl rfl ?_; clear hS; intro _ hS) | (refine bnd_mk (by decide) (by decide) ?_) | (refine so_i rfl ?_))
    refine cond_split (fun h => hJ _ _ ⟨?_, hS⟩) (fun h => ?_)
    · have h' : ¬ 1 ≤ e.r := by have := of_decide_eq_true h; omega
      unfold Ent.boxOk; rw [h1', h2', decide_eq_false h']; rfl
    repeat (first | (refine dr_i ?_) | (refine asI_i rfl ?_) | (refine asB_i rfl ?_) | (refine asP_i rfl ?_) | (refine asS_i rfl ?_) | (refine asY_i rfl ?_) | (refine asM_i rfl ?_) | (refine asA_i rfl rfl ?_) | (refine asT_i rfl rfl ?_) | (refine lv_i ?_) | (refine St.nw hS ?_; clear hS; intro _ _ hS) | (refine St.dw hS ?_; clear hS; intro _ hS _) | (refine hS.ld0 0 rfl rfl ?_) | (refine hS.ld 0 rfl rfl ?_) | (refine hS.ld0 1 rfl rfl ?_) | (refine hS.ld 1 rfl rfl ?_) | (refine hS.ld0 2 rfl rfl ?_) | (refine hS.ld 2 rfl rfl ?_) | (refine hS.ld0 3 rfl rfl ?_) | (refine hS.ld 3 rfl rfl ?_) | (refine hS.ld0 4 rfl rfl ?_) | (refine hS.ld 4 rfl rfl ?_) | (refine hS.ld0 5 rfl rfl ?_) | (refine hS.ld 5 rfl rfl ?_) | (refine hS.ldd 0 rfl rfl ?_) | (refine hS.ldd 1 rfl rfl ?_) | (refine hS.ldd 2 rfl rfl ?_) | (refine hS.ldd 3 rfl rfl ?_) | (refine hS.ldd 4 rfl rfl ?_) | (refine hS.ldd 5 rfl rfl ?_) | (refine hS.hd0 0 rfl rfl ?_) | (refine hS.hd 0 rfl rfl ?_) | (refine hS.hd0 1 rfl rfl ?_) | (refine hS.hd 1 rfl rfl ?_) | (refine hS.hd0 2 rfl rfl ?_) | (refine hS.hd 2 rfl rfl ?_) | (refine hS.hd0 3 rfl rfl ?_) | (refine hS.hd 3 rfl rfl ?_) | (refine hS.hd0 4 rfl rfl ?_) | (refine hS.hd 4 rfl rfl ?_) | (refine hS.hd0 5 rfl rfl ?_) | (refine hS.hd 5 rfl rfl ?_) | (refine hS.hdd 0 rfl rfl ?_) | (refine hS.hdd 1 rfl rfl ?_) | (refine hS.hdd 2 rfl rfl ?_) | (refine hS.hdd 3 rfl rfl ?_) | (refine hS.hdd 4 rfl rfl ?_) | (refine hS.hdd 5 rfl rfl ?_) | (refine hS.st0 0 rfl rfl rfl ?_; clear hS; intro _ hS) | (refine hS.st 0 rfl rfl rfl ?_; clear hS; intro _ hS) | (refine hS.st0 1 rfl rfl rfl ?_; clear hS; intro _ hS) | (refine hS.st 1 rfl rfl rfl ?_; clear hS; intro _ hS) | (refine hS.st0 2 rfl rfl rfl ?_; clear hS; intro _ hS) | (refine hS.st 2 rfl rfl rfl ?_; clear hS; intro _ hS) | (refine hS.st0 3 rfl rfl rfl ?_; clear hS; intro _ hS) | (refine hS.st 3 rfl rfl rfl ?_; clear hS; intro _ hS) | (refine hS.st0 4 rfl rfl rfl ?_; clear hS; intro _ hS) | (refine hS.st 4 rfl rfl rfl ?_; clear hS; intro _ hS) | (refine hS.st0 5 rfl rfl rfl ?_; clear hS; intro _ hS) | (refine hS.st 5 rfl rfl rfl ?_; clear hS; intro _ hS) | (refine hS.std 0 rfl rfl rfl ?_; clear hS; intro _ hS) | (refine hS.std 1 rfl rfl rfl ?_; clear hS; intro _ hS) | (refine hS.std 2 rfl rfl rfl ?_; clear hS; intro _ hS) | (refine hS.std 3 rfl rfl rfl ?_; clear hS; intro _ hS) | (refine hS.std 4 rfl rfl rfl ?_; clear hS; intro _ hS) | (refine hS.std 5 rfl rfl rfl ?_; clear hS; intro _ hS) | (refine bnd_mk (by decide) (by decide) ?_) | (refine so_i rfl ?_))
    refine hJ _ _ ⟨?_, hS⟩
    have h' : 1 ≤ e.r := by have := of_decide_eq_false h; omega
    unfold Ent.boxOk
    rw [h1', h2', decide_eq_true h']
    by_cases h8 : e.r ≤ 17179869184
    · rw [decide_eq_true h8, decide_eq_false (by omega)]; rfl
    · rw [decide_eq_false h8, decide_eq_true (by omega)]; rfl

/-- the document's world in memory: how many, whether, who -/
def xw (S : List Spot) : List Value := S.map (fun s => .int .i64 s.gen) ++ (S.map (fun s => .bool s.there) ++ S.flatMap fun s => s.e.cells)
structure XW (w : World) (x : Nat) (S : List Spot) : Prop where
  blk : w.heap[x]? = some (.cells (xw S).toArray 62 (0, 0))
  len : S.length = 64
theorem XW.ext {w w' : World} {M : Nat → Prop} {x : Nat} {S : List Spot} (h : XW w x S) (hx : Ext M w w') (hm : ¬ M x) : XW w' x S := ⟨hx.blk h.blk hm, h.len⟩
theorem XW.gen {w : World} {x : Nat} {S : List Spot} (h : XW w x S) {i : Nat} {s : Spot} (hi : S[i]? = some s) : w.cell? ⟨x, i, none⟩ = some (.int .i64 s.gen) := by
  rw [blk_cell h.blk]
  have hl := (List.getElem?_eq_some_iff.1 hi).1
  simp only [List.getElem?_toArray, xw]
  rw [List.getElem?_append_left (by simpa using hl), List.getElem?_map, hi]
  rfl
theorem XW.there {w : World} {x : Nat} {S : List Spot} (h : XW w x S) {i : Nat} {s : Spot} (hi : S[i]? = some s) : w.cell? ⟨x, 64 + i, none⟩ = some (.bool s.there) := by
  rw [blk_cell h.blk]
  have hl := (List.getElem?_eq_some_iff.1 hi).1
  have h64 := h.len
  simp only [List.getElem?_toArray, xw]
  rw [List.getElem?_append_right (by simp [h64]), List.getElem?_append_left (by simp [h64]; omega), List.length_map, h64, List.getElem?_map, show 64 + i - 64 = i from by omega, hi]
  rfl
theorem XW.ent {w : World} {x : Nat} {S : List Spot} (h : XW w x S) {i : Nat} {s : Spot} (hi : S[i]? = some s) {k : Nat} (hk : k < 8) : w.cell? ⟨x, 128 + (i * 8 + k), none⟩ = s.e.cells[k]? := by
  rw [blk_cell h.blk]
  have h64 := h.len
  simp only [List.getElem?_toArray, xw]
  rw [List.getElem?_append_right (by simp [h64]; omega), List.getElem?_append_right (by simp [h64]; omega), List.length_map, List.length_map, h64, show 128 + (i * 8 + k) - 64 - 64 = i * 8 + k from by omega]
  exact fl_getN (f := fun s : Spot => s.e.cells) (fun _ => rfl) hi k hk
end Go.Proofs.YtamobmjfdiecbaaDoor

/- WoK: handles that are given and handles that are dead, in plain lists; rows of whole numbers beside a world. Conditions: those of each theorem, on its arguments. -/
namespace Go.Proofs.YtamobmjfdiecbaaDoor
open Go Go.Sx Go.Fp
attribute [local irreducible] jn lv ld st nw asI asB asP asS asY asM asF asA asT lp rn ru rq cl dw dr bnd bn2 nz nn hd hr so eqW
attribute [local irreducible] callOk

/-! ### plain -/
def Old (S : List Spot) (h : Int) : Prop := ∃ (i : Nat) (s : Spot), S[i]? = some s ∧ h.toNat % 64 = i ∧ 64 ≤ h ∧ h ≤ s.gen * 64 + (i : Int)

theorem set_cases {S : List Spot} {i : Nat} {s t : Spot} (hs : S[i]? = some s) (j : Nat) : (j = i ∧ (S.set i t)[j]? = some t) ∨ (j ≠ i ∧ (S.set i t)[j]? = S[j]?) := by
  by_cases hj : j = i
  · subst hj
    exact .inl ⟨rfl, List.getElem?_set_self (List.getElem?_eq_some_iff.1 hs).1⟩
  · exact .inr ⟨hj, List.getElem?_set_ne fun h => hj h.symm⟩

theorem Old.set {S : List Spot} {h : Int} (ho : Old S h) {i : Nat} {s t : Spot} (hs : S[i]? = some s) (hg : s.gen ≤ t.gen) : Old (S.set i t) h := by
  obtain ⟨j, u, hu, h1, h2, h3⟩ := ho
  rcases set_cases (t := t) hs j with ⟨rfl, e⟩ | ⟨_, e⟩
  · rw [hs] at hu
    cases hu
    exact ⟨j, t, e, h1, h2, by omega⟩
  · exact ⟨j, u, by rw [e, hu], h1, h2, h3⟩

theorem Old.new {n : Nat} {S : List Spot} (hG : Good n S) {i : Nat} {s : Spot} (hs : S[i]? = some s) (e : Ent) : Old (S.set i (spn s i e)) ((s.gen + 1) * 64 + (i : Int)) := by
  obtain ⟨h0, h1, h2, _⟩ := hG i s hs
  refine ⟨i, spn s i e, List.getElem?_set_self (List.getElem?_eq_some_iff.1 hs).1, by omega, by omega, ?_⟩
  show _ ≤ (s.gen + 1) * 64 + (i : Int)
  omega

theorem Old.ne {n : Nat} {S : List Spot} (hG : Good n S) {h : Int} (ho : Old S h) {i : Nat} {s : Spot} (hs : S[i]? = some s) : h ≠ (s.gen + 1) * 64 + (i : Int) := by
  obtain ⟨h0, h1, h2, _⟩ := hG i s hs
  obtain ⟨j, u, hu, h3, h4, h5⟩ := ho
  rintro rfl
  have : j = i := by omega
  subst this
  rw [hs] at hu
  cases hu
  omega

theorem atI_none {S : List Spot} {h : Int} (hn : atI S h = none) (h64 : 64 ≤ h) {s : Spot} (hs : S[h.toNat % 64]? = some s) : ¬ (s.there = true ∧ s.e.h = h) := by
  unfold atI at hn
  rw [if_neg (by omega), hs] at hn
  simp only at hn
  intro hc
  rw [if_pos hc] at hn
  cases hn
theorem none_atI {S : List Spot} {h : Int} (hn : ∀ s, S[h.toNat % 64]? = some s → ¬ (s.there = true ∧ s.e.h = h)) : atI S h = none := by
  unfold atI
  split
  · rfl
  · split
    · rename_i s hs
      rw [if_neg (hn s hs)]
    · rfl

theorem none_set {S : List Spot} {h : Int} (hn : atI S h = none) (h64 : 64 ≤ h) {i : Nat} {s t : Spot} (hs : S[i]? = some s) (ht : h.toNat % 64 = i → ¬ (t.there = true ∧ t.e.h = h)) : atI (S.set i t) h = none := by
  refine none_atI fun u hu => ?_
  rcases set_cases (t := t) hs (h.toNat % 64) with ⟨e1, e⟩ | ⟨_, e⟩
  · rw [e] at hu
    cases hu
    exact ht e1
  · rw [e] at hu
    exact atI_none hn h64 hu

theorem listS_set : ∀ {S : List Spot} {i : Nat} {s : Spot} (_ : S[i]? = some s) (t : Spot), (listS (S.set i t)).length + (if s.there = true then 1 else 0) = (listS S).length + (if t.there = true then 1 else 0)
  | [], _, _, h, _ => by simp at h
  | x :: S, 0, s, h, t => by
    have : x = s := by simpa using h
    subst this
    simp only [listS, List.set_cons_zero, List.filter_cons, List.length_map]
    by_cases h1 : x.there = true <;> by_cases h2 : t.there = true <;> simp [h1, h2] <;> omega
  | x :: S, i + 1, s, h, t => by
    have ih := listS_set (S := S) (i := i) (s := s) (by simpa using h) t
    simp only [listS, List.length_map] at ih
    simp only [listS, List.set_cons_succ, List.filter_cons, List.length_map]
    by_cases h1 : x.there = true <;> simp [h1] <;> omega

structure Inv (n : Nat) (S : List Spot) (G Q : List Int) : Prop where
  good : Good n S
  old : ∀ h ∈ G, Old S h
  dead : ∀ h ∈ Q, Old S h ∧ atI S h = none
  cnt : (listS S).length + Q.length = G.length
  cap : G.length ≤ n

theorem Inv.mono {n m : Nat} {S : List Spot} {G Q : List Int} (h : Inv n S G Q) (hm : n ≤ m) : Inv m S G Q := ⟨h.good.mono hm, h.old, h.dead, h.cnt, Nat.le_trans h.cap hm⟩

theorem Inv.spawn {n : Nat} (hn : n ≤ 1000000) {S : List Spot} {G Q : List Int} (h : Inv n S G Q) {i : Nat} {s : Spot} (hf : IsFree S i s) {e : Ent} (he : e.rightE = 0) (hI : e.I) :
    Inv (n + 1) (S.set i (spn s i e)) (G ++ [(s.gen + 1) * 64 + (i : Int)]) Q ∧ (s.gen + 1) * 64 + (i : Int) ∉ G := by
  have hs := hf.1
  have hg : s.gen ≤ (spn s i e).gen := by show s.gen ≤ s.gen + 1; omega
  have hth : s.there = false := by
    have := hf.2.1
    unfold free at this
    revert this
    cases s.there <;> simp
  refine ⟨⟨h.good.spawn hn hs he hI, fun x hx => ?_, fun x hx => ?_, ?_, by have := h.cap; simp; omega⟩, fun hm => (h.old _ hm).ne h.good hs rfl⟩
  · rcases List.mem_append.1 hx with hx | hx
    · exact (h.old x hx).set hs hg
    · rw [List.mem_singleton.1 hx]
      exact Old.new h.good hs e
  · obtain ⟨h1, h2⟩ := h.dead x hx
    refine ⟨h1.set hs hg, none_set h2 (by obtain ⟨_, _, _, _, h64, _⟩ := h1; exact h64) hs fun _ hc => ?_⟩
    exact h1.ne h.good hs hc.2.symm
  · have := listS_set hs (spn s i e)
    rw [hth, show (spn s i e).there = true from rfl] at this
    have h0 := h.cnt
    rw [List.length_append, List.length_singleton]
    simp at this
    omega

theorem Inv.kill {n : Nat} {S : List Spot} {G Q : List Int} (h : Inv n S G Q) {hh : Int} {i : Nat} {s : Spot} (hi : i = hh.toNat % 64) (hp : hh = hh.toNat) (hs : S[i]? = some s) (ht : s.there = true) (hx : s.e.h = hh) :
    Inv n (S.set i ⟨s.gen, false, s.e⟩) G (Q ++ [hh]) := by
  have hg : s.gen ≤ (⟨s.gen, false, s.e⟩ : Spot).gen := by simp
  obtain ⟨h0, h1, h2, h3⟩ := h.good i s hs
  obtain ⟨h4, h5, h6, h7⟩ := h3 ht
  have hold : Old S hh := ⟨i, s, hs, hi.symm, by omega, by omega⟩
  refine ⟨fun j t hj => ?_, fun x hx => (h.old x hx).set hs hg, fun x hx' => ?_, ?_, h.cap⟩
  · rcases set_cases (t := ⟨s.gen, false, s.e⟩) hs j with ⟨rfl, e⟩ | ⟨_, e⟩
    · rw [e] at hj
      cases hj
      exact ⟨h0, h1, h2, fun h => by cases h⟩
    · rw [e] at hj
      exact h.good j t hj
  · rcases List.mem_append.1 hx' with hx' | hx'
    · obtain ⟨h8, h9⟩ := h.dead x hx'
      refine ⟨h8.set hs hg, none_set h9 (by obtain ⟨_, _, _, _, h64, _⟩ := h8; exact h64) hs fun _ hc => ?_⟩
      cases hc.1
    · rw [List.mem_singleton.1 hx']
      refine ⟨hold.set hs hg, none_atI fun u hu => ?_⟩
      rw [← hi, List.getElem?_set_self (List.getElem?_eq_some_iff.1 hs).1] at hu
      cases hu
      rintro ⟨hc, _⟩
      cases hc
  · have := listS_set hs ⟨s.gen, false, s.e⟩
    rw [ht] at this
    have h0 := h.cnt
    rw [List.length_append, List.length_singleton]
    simp at this
    omega

/-! ### rows beside a world -/
structure Pr (W w : World) (L : List (Nat × List Value × TypeId)) (F : Nat → Prop) (r : Nat) (p : Option Addr) (c : Nat) (xs : List Int) : Prop where
  row : Row w W.heap.size 3 p c (iv .i64 xs)
  off : ∀ a, p = some a → ¬ wF F r a.block ∧ ∀ b ∈ L, b.1 ≠ a.block

section
variable {W w : World} {L : List (Nat × List Value × TypeId)} {F : Nat → Prop} {r g : Nat} {S : List Spot} {B : List (Int × Bx)} {D : List ((Int × Int) × List Int)} {N : Nat} {p q : Option Addr} {c c' : Nat} {xs ys : List Int}

theorem Pr.nil : Pr W w L F r none 0 [] := ⟨Row.nil _ _ _, fun a h => by cases h⟩
theorem Pr.to (h : Pr W w L F r p c xs) {w' : World} (hx : Ext no w w') : Pr W w' L F r p c xs := ⟨h.row.ext hx fun _ _ h => h, h.off⟩
theorem Pr.tail {x : Nat × List Value × TypeId} (h : Pr W w (x :: L) F r p c xs) : Pr W w L F r p c xs := ⟨h.row, fun a ha => ⟨(h.off a ha).1, fun b hb => (h.off a ha).2 b (List.mem_cons_of_mem _ hb)⟩⟩
theorem Pr.cells {x y : Nat × List Value × TypeId} (h : Pr W w (x :: L) F r p c xs) (e : x.1 = y.1) : Pr W w (y :: L) F r p c xs := ⟨h.row, fun a ha => ⟨(h.off a ha).1, fun b hb => by
  rcases List.mem_cons.1 hb with rfl | hb
  · exact e ▸ (h.off a ha).2 x List.mem_cons_self
  · exact (h.off a ha).2 b (List.mem_cons_of_mem _ hb)⟩⟩
theorem Pr.cons (h : Pr W w L F r p c xs) {x : Nat × List Value × TypeId} (hx : w.heap.size ≤ x.1) : Pr W w (x :: L) F r p c xs := ⟨h.row, fun a ha => ⟨(h.off a ha).1, fun b hb => by
  rcases List.mem_cons.1 hb with rfl | hb
  · have := (h.row.at ha).2
    omega
  · exact (h.off a ha).2 b hb⟩⟩
theorem Pr.step (h : Pr W w L F r p c xs) {w' : World} {F' : Nat → Prop} (hx : Ext (wF F r) w w') (hG : ∀ k, F' k → F k ∨ w.heap.size ≤ k) : Pr W w' L F' r p c xs := by
  refine ⟨h.row.ext hx fun a ha => (h.off a ha).1, fun a ha => ⟨?_, (h.off a ha).2⟩⟩
  have hlt := (h.row.at ha).2
  rintro (hk | hk)
  · rcases hG _ hk with hk | hk
    · exact (h.off a ha).1 (.inl hk)
    · omega
  · exact (h.off a ha).1 (.inr hk)
/-- a store into a block of one's own -/
theorem Pr.onl (h : Pr W w L F r p c xs) {k : Nat} (hk : ∃ b ∈ L, b.1 = k) {w' : World} (hx : Ext (onl k) w w') : Pr W w' L F r p c xs := by
  obtain ⟨b, hb, rfl⟩ := hk
  exact ⟨h.row.ext hx fun a ha e => (h.off a ha).2 b hb (show _ = _ from Eq.symm e), h.off⟩

theorem Pr.app1 (h : Pr W w L F r p c xs) (hP : Pw W w L F r g S B D N) (h2 : Pr W w L F r q c' ys) (hA : Apart p q) {v : Int} {n : Nat} (hn : xs.length = n) (hm : n ≤ 1000000) {t' : TypeId} {K : Value → World → Prop}
    (hK : ∀ p' c'' w', Pw W w' L F r g S B D N → Pr W w' L F r p' c'' (xs ++ [v]) → Pr W w' L F r q c' ys → Apart p' q → K (.slice p' (n + 1) c'') w') :
    nw w (.cells #[.int .i64 v] t') fun r w1 => rn Tryd.prog (Builtin.append_ #[23, 23] 23 #[.slice p n c, .slice (some ⟨r, 0, none⟩) 1 1]) w1 K := by
  refine sI.app1 h.row (by rw [iv_length, hn]) hP.st.ext.size rfl (le_maxLen (by omega)) (by omega) fun p' c'' w' hr hx hM => ?_
  have hoff : ∀ k, blocks p k → (¬ wF F r k ∧ ∀ b ∈ L, b.1 ≠ k) ∧ W.heap.size ≤ k := fun k ⟨a, ha, hk⟩ => hk ▸ ⟨h.off a ha, (h.row.at ha).1⟩
  have hP' : Pw W w' L F r g S B D N := ⟨hP.st.toM hx (fun k hk => (hoff k hk).2) (fun b hb hk => (hoff _ hk).1.2 b hb rfl), hP.wd.ext hx fun k hk hb => (hoff k hb).1.1 hk, hP.fr⟩
  refine hK p' c'' w' hP' ⟨?_, fun a ha => ?_⟩ ⟨h2.row.keep hx hA.symm, h2.off⟩ (hM.apart hA fun a ha => (h2.row.at ha).2)
  · have e : iv .i64 (xs ++ [v]) = iv .i64 xs ++ [.int .i64 v] := by simp [iv]
    rw [e]
    exact hr
  · rcases hM with rfl | hM
    · exact h.off a ha
    · have := hM a ha
      refine ⟨fun hk => ?_, fun b hb e => ?_⟩
      · have := hP.lt _ hk
        omega
      · have := blk_lt (hP.st.kn b hb).1
        omega
end
end Go.Proofs.YtamobmjfdiecbaaDoor

/- GrR: the document's own cells of points and boxes, as contracts. Conditions: those of each theorem, on its arguments. -/
namespace Go.Proofs.YtamobmjfdiecbaaDoor
open Go Go.Sx Go.Fp
attribute [local irreducible] jn lv ld st nw asI asB asP asS asY asM asF asA asT lp rn ru rq cl dw dr bnd bn2 nz nn hd hr so eqW
attribute [local irreducible] callOk

def okN (n : Int) : Bool := decide (-1048576 ≤ n) && decide (n ≤ 1048576)
theorem isCell_ok (a b : Int) : isCell a b = (okN a && okN b) := by
  rw [Bool.eq_iff_iff, isCell_iff]
  unfold okN
  simp only [Bool.and_eq_true, decide_eq_true_eq]
def pv (p : Int × Int) : List Value := [.int .i64 p.1, .int .i64 p.2]
theorem pv_one (p : Int × Int) : ∀ u ∈ pv p, Sx.one u = true := by
  intro u hu
  simp only [pv, List.mem_cons, List.mem_nil_iff, or_false] at hu
  rcases hu with rfl | rfl <;> rfl

end Go.Proofs.YtamobmjfdiecbaaDoor

/- GrL2: the law GridCells comes out true for every input. Conditions: those of the law's arguments as they are read. -/
namespace Go.Proofs.YtamobmjfdiecbaaDoor
open Go Go.Sx Go.Fp
attribute [local irreducible] jn lv ld st nw asI asB asP asS asY asM asF asA asT lp rn ru rq cl dw dr bnd bn2 nz nn hd hr so eqW
attribute [local irreducible] callOk

theorem gcellP_small (s x y : Int) : (gcellP s x y).1.natAbs < 2 ^ 53 ∧ (gcellP s x y).2.natAbs < 2 ^ 53 := by
  unfold gcellP
  split
  · rename_i h
    obtain ⟨_, h1, h2⟩ := gcellE_zero h
    simp only
    omega
  · decide

theorem same_cell {p : Int × Int} (h : p.1.natAbs < 2 ^ 53 ∧ p.2.natAbs < 2 ^ 53) : (!((FloatKind.format .f64).order (F p.1) (F p.1) == some .eq && (FloatKind.format .f64).order (F p.2) (F p.2) == some .eq)) = false := by
  rw [order_self h.1, order_self h.2]
  rfl

theorem _root_.Go.Sx.Reads.at1 {w : World} {p : Option Addr} {vs : List Value} (h : Reads w p vs) {i n : Nat} (hn : vs.length = n) {v : Value} (hv : vs[i]? = some v) {K : Addr → Prop} (hK : ∀ a, p = some a → w.cell? (Addr.add a (i * 1)) = some v → K a) : dr p fun a => bnd (i : Int) n (K a) := by
  have e : vs = vs.flatMap fun x => [x] := by
    clear h hn hv hK
    induction vs with
    | nil => rfl
    | cons x l ih => rw [List.flatMap_cons, ← ih]; rfl
  rw [e] at h
  refine Reads.atN (f := fun x => [x]) (s := 1) (fun _ => rfl) h hn hv (by decide) fun a ha hc => hK a ha ?_
  have := hc 0 (by decide)
  rw [Sx.add_zero'] at this
  exact this
theorem _root_.Go.Sx.Reads.cell1 {w : World} {a : Addr} {vs : List Value} (h : Reads w (some a) vs) {i : Nat} {v : Value} (hv : vs[i]? = some v) : w.cell? (Addr.add a (i * 1)) = some v := by
  have := h.at1 rfl hv (K := fun a => w.cell? (Addr.add a (i * 1)) = some v) fun _ _ h => h
  unfold dr bnd at this
  exact this.2

end Go.Proofs.YtamobmjfdiecbaaDoor

/- GrL3: the law GridMeets comes out true for every input. Conditions: those of the law's arguments as they are read. -/
namespace Go.Proofs.YtamobmjfdiecbaaDoor
open Go Go.Sx Go.Fp
attribute [local irreducible] jn lv ld st nw asI asB asP asS asY asM asF asA asT lp rn ru rq cl dw dr bnd bn2 nz nn hd hr so eqW
attribute [local irreducible] callOk

theorem _root_.Go.Sx.St.drop {w0 w : World} {L : List (Nat × List Value × TypeId)} : ∀ {LL : List (Nat × List Value × TypeId)}, St w0 w (LL ++ L) → St w0 w L
  | [], h => h
  | _ :: LL, h => by
    have key : ∀ {LL : List (Nat × List Value × TypeId)}, St w0 w (LL ++ L) → St w0 w L := by
      intro LL
      induction LL with
      | nil => exact fun h => h
      | cons x LL ih => exact fun h => ih h.tail
    exact key (LL := LL) h.tail

theorem nodup_one {l : List Int} (hn : l.Nodup) {z : Int} (h : ∀ x ∈ l, x = z) : l.length ≤ 1 := by
  match l, hn, h with
  | [], _, _ => simp
  | [_], _, _ => simp
  | a :: b :: l, hn, h =>
    have h1 := h a (by simp)
    have h2 := h b (by simp)
    simp only [List.nodup_cons, List.mem_cons] at hn
    exact absurd (.inl (h1.trans h2.symm)) hn.1

/-- one box in a grid, and who is near -/
theorem one_near {s : Int} {a b : Bx} : (∀ x ∈ metL (gputB s [] 4 a) (gputD s [] [] 4 a) b (cellsL' s b), x.1 = 4) ∧ (metL (gputB s [] 4 a) (gputD s [] [] 4 a) b (cellsL' s b)).length ≤ 1 ∧
    (gputE s [] 4 a = 0 → cellsE s b = 0 → ((metL (gputB s [] 4 a) (gputD s [] [] 4 a) b (cellsL' s b)).length = 1 ↔ (meetV a b).1 = true)) := by
  have hC := (Cons.nil s).put 4 a
  have hB : ∀ x b', aget (gputB s [] 4 a) x = some b' → x = 4 ∧ b' = a := fun x b' h => by
    unfold gputB at h
    split at h
    · rw [aget_aset] at h
      split at h
      · rename_i he
        cases h
        exact ⟨he, rfl⟩
      · simp [aget, afind] at h
    · simp [aget, afind] at h
  have hnd := nodup_metL (B := gputB s [] 4 a) (D := gputD s [] [] 4 a) (b := b) (cellsL' s b)
  have hk : ∀ x ∈ (metL (gputB s [] 4 a) (gputD s [] [] 4 a) b (cellsL' s b)).map (·.1), x = 4 := fun x hx => by
    obtain ⟨⟨c, _, h2⟩, _⟩ := mem_metL.1 hx
    obtain ⟨b', h3, _⟩ := (hC.cell c x).1 h2
    exact (hB x b' h3).1
  have hl := nodup_one hnd hk
  rw [List.length_map] at hl
  refine ⟨fun x hx => hk x.1 (List.mem_map.2 ⟨x, hx, rfl⟩), hl, fun hp hb => ?_⟩
  have hnr := hC.near hb 4
  constructor
  · intro h1
    have : ∃ x, x ∈ (metL (gputB s [] 4 a) (gputD s [] [] 4 a) b (cellsL' s b)).map (·.1) := by
      cases hm : metL (gputB s [] 4 a) (gputD s [] [] 4 a) b (cellsL' s b) with
      | nil => rw [hm] at h1; cases h1
      | cons y l => exact ⟨y.1, by simp⟩
    obtain ⟨x, hx⟩ := this
    have := hk x hx
    subst this
    obtain ⟨a', h3, h4⟩ := hnr.1 hx
    rwa [(hB _ _ h3).2] at h4
  · intro hm
    have h4 : (4 : Int) ∈ (metL (gputB s [] 4 a) (gputD s [] [] 4 a) b (cellsL' s b)).map (·.1) := hnr.2 ⟨a, by unfold gputB; rw [if_pos hp, aget_aset, if_pos rfl], hm⟩
    have : 0 < (metL (gputB s [] 4 a) (gputD s [] [] 4 a) b (cellsL' s b)).length := by
      have := List.length_pos_of_mem h4
      simpa using this
    omega

end Go.Proofs.YtamobmjfdiecbaaDoor

/- GrT: two grids beside blocks of one's own. Conditions: those of each theorem, on its arguments. -/
namespace Go.Proofs.YtamobmjfdiecbaaDoor
open Go Go.Sx Go.Fp
attribute [local irreducible] jn lv ld st nw asI asB asP asS asY asM asF asA asT lp rn ru rq cl dw dr bnd bn2 nz nn hd hr so eqW
attribute [local irreducible] callOk

theorem gdropD_len {s : Int} {B : List (Int × Bx)} {D : List ((Int × Int) × List Int)} (hD : (D.map (·.1)).Nodup) {id : Int} (x : Int × Int) : ((aget (gdropD s B D id) x).getD []).length ≤ ((aget D x).getD []).length := by
  unfold gdropD
  split
  · exact dropL_len hD x
  · exact Nat.le_refl _
theorem gmoveD_len {s : Int} {B : List (Int × Bx)} {D : List ((Int × Int) × List Int)} (hD : (D.map (·.1)).Nodup) {id : Int} {b : Bx} (x : Int × Int) : ((aget (gmoveD s B D id b) x).getD []).length ≤ ((aget D x).getD []).length + 1024 := by
  unfold gmoveD
  split
  · have := putL_len' (D := dropL D (cellsL' s (boxAt B id)) id) (l := cellsL' s b) (id := id) x
    have := dropL_len (l := cellsL' s (boxAt B id)) (id := id) hD x
    have := cells_len (s := s) (b := b)
    omega
  · omega

/-- a grid that lies in its own blocks -/
def G1 (w : World) (F : Nat → Prop) (g : Nat) (s : Int) (B : List (Int × Bx)) (D : List ((Int × Int) × List Int)) (N : Nat) : Prop :=
  ∃ mb mc C bb kb bc kc, Gr w F g mb mc s B C bb kb bc kc ∧ pl C = D ∧ (∀ x, ((aget D x).getD []).length ≤ N) ∧ (B.map (·.1)).Nodup

structure G2 (W w : World) (L : List (Nat × List Value × TypeId)) (s : Int) (g : Nat) (B : List (Int × Bx)) (D : List ((Int × Int) × List Int)) (N : Nat) (g' : Nat) (B' : List (Int × Bx)) (D' : List ((Int × Int) × List Int)) (N' : Nat) : Prop where
  st : St W w L
  gr : ∃ F F', G1 w F g s B D N ∧ G1 w F' g' s B' D' N' ∧ (∀ k, F k → ¬ F' k) ∧ ∀ k, (F k ∨ F' k) → W.heap.size ≤ k ∧ ∀ b ∈ L, b.1 ≠ k

section
variable {W w : World} {L : List (Nat × List Value × TypeId)} {s : Int} {g g' : Nat} {B B' : List (Int × Bx)} {D D' : List ((Int × Int) × List Int)} {N N' : Nat}

theorem G1.ext {F M : Nat → Prop} (h : G1 w F g s B D N) {w' : World} (hx : Ext M w w') (hm : ∀ k, F k → ¬ M k) : G1 w' F g s B D N := by
  obtain ⟨mb, mc, C, bb, kb, bc, kc, h1, h2⟩ := h
  exact ⟨mb, mc, C, bb, kb, bc, kc, h1.ext hx hm, h2⟩
theorem G1.lt {F : Nat → Prop} (h : G1 w F g s B D N) : ∀ k, F k → k < w.heap.size := by
  obtain ⟨mb, mc, C, bb, kb, bc, kc, h1, h2⟩ := h
  exact h1.lt

theorem G2.swap (h : G2 W w L s g B D N g' B' D' N') : G2 W w L s g' B' D' N' g B D N := by
  obtain ⟨F, F', h1, h2, h3, h4⟩ := h.gr
  exact ⟨h.st, F', F, h2, h1, fun k hk hk' => h3 k hk' hk, fun k hk => h4 k hk.symm⟩
theorem G2.to (h : G2 W w L s g B D N g' B' D' N') {w' : World} (hx : Ext no w w') : G2 W w' L s g B D N g' B' D' N' := by
  obtain ⟨F, F', h1, h2, h3, h4⟩ := h.gr
  exact ⟨h.st.to hx, F, F', h1.ext hx fun _ _ h => h, h2.ext hx fun _ _ h => h, h3, h4⟩
theorem G2.nd (h : G2 W w L s g B D N g' B' D' N') : (B.map (·.1)).Nodup ∧ (D.map (·.1)).Nodup ∧ (B'.map (·.1)).Nodup ∧ (D'.map (·.1)).Nodup := by
  obtain ⟨F, F', ⟨mb, mc, C, bb, kb, bc, kc, h1, rfl, _, h2⟩, ⟨mb', mc', C', bb', kb', bc', kc', h1', rfl, _, h2'⟩, _, _⟩ := h.gr
  exact ⟨h2, pl_nd h1.nd, h2', pl_nd h1'.nd⟩
theorem G2.len (h : G2 W w L s g B D N g' B' D' N') : (∀ x, ((aget D x).getD []).length ≤ N) ∧ ∀ x, ((aget D' x).getD []).length ≤ N' := by
  obtain ⟨F, F', ⟨mb, mc, C, bb, kb, bc, kc, h1, rfl, h3, h2⟩, ⟨mb', mc', C', bb', kb', bc', kc', h1', rfl, h3', h2'⟩, _, _⟩ := h.gr
  exact ⟨h3, h3'⟩
theorem G2.mono (h : G2 W w L s g B D N g' B' D' N') {M M' : Nat} (hM : N ≤ M) (hM' : N' ≤ M') : G2 W w L s g B D M g' B' D' M' := by
  obtain ⟨F, F', ⟨mb, mc, C, bb, kb, bc, kc, h1, h2, h3, h4⟩, ⟨mb', mc', C', bb', kb', bc', kc', h1', h2', h3', h4'⟩, h5, h6⟩ := h.gr
  exact ⟨h.st, F, F', ⟨mb, mc, C, bb, kb, bc, kc, h1, h2, fun x => Nat.le_trans (h3 x) hM, h4⟩, ⟨mb', mc', C', bb', kb', bc', kc', h1', h2', fun x => Nat.le_trans (h3' x) hM', h4'⟩, h5, h6⟩

theorem G2.step {F F' : Nat → Prop} (hs : St W w L) (h1 : G1 w F g s B D N) (h2 : G1 w F' g' s B' D' N') (h3 : ∀ k, F k → ¬ F' k) (h4 : ∀ k, (F k ∨ F' k) → W.heap.size ≤ k ∧ ∀ b ∈ L, b.1 ≠ k)
    {w' : World} {F2 : Nat → Prop} {B2 : List (Int × Bx)} {D2 : List ((Int × Int) × List Int)} {N2 : Nat} (hg : G1 w' F2 g s B2 D2 N2) (hx : Ext F w w') (hF : ∀ k, F2 k → F k ∨ w.heap.size ≤ k) : G2 W w' L s g B2 D2 N2 g' B' D' N' := by
  refine ⟨hs.toX hx (fun k hk => (h4 k (.inl hk)).1) (fun b hb hk => (h4 _ (.inl hk)).2 b hb rfl), F2, F', hg, h2.ext hx fun k hk hk' => h3 k hk' hk, fun k hk hk' => ?_, fun k hk => ?_⟩
  · rcases hF k hk with hk2 | hk2
    · exact h3 k hk2 hk'
    · have := h2.lt k hk'
      omega
  · rcases hk with hk | hk
    · rcases hF k hk with hk2 | hk2
      · exact h4 k (.inl hk2)
      · have := hs.ext.size
        refine ⟨by omega, fun b hb => ?_⟩
        have := blk_lt (hs.kn b hb).1
        omega
    · exact h4 k (.inr hk)

theorem G2.put (h : G2 W w L s g B D N g' B' D' N') (hN : N ≤ 549755813888) {id : Int} {b : Bx} {K : Value → World → Prop}
    (hK : ∀ w', G2 W w' L s g (gputB s B id b) (gputD s B D id b) (N + 1024) g' B' D' N' → K (.int .i64 (gputE s B id b)) w') :
    cl Tryd.prog 35 #[.pointer (some ⟨g, 0, none⟩), .int .i64 id, b.v] w K := by
  obtain ⟨F, F', h1, h2, h3, h4⟩ := h.gr
  have h1' := h1
  obtain ⟨mb, mc, C, bb, kb, bc, kc, hg, rfl, hl, hn⟩ := h1
  refine gPut_k hg (fun x => by have := hl x; omega) fun w' F2 C' bb' kb' bc' kc' hg' hp hx hF _ => hK w' ?_
  exact G2.step h.st h1' h2 h3 h4 ⟨mb, mc, C', bb', kb', bc', kc', hg', hp, fun x => Nat.le_trans (gputD_len x) (by have := hl x; omega), nd_put hn⟩ hx hF

theorem G2.move (h : G2 W w L s g B D N g' B' D' N') (hN : N ≤ 549755813888) {id : Int} {b : Bx} {K : Value → World → Prop}
    (hK : ∀ w', G2 W w' L s g (gmoveB s B id b) (gmoveD s B D id b) (N + 1024) g' B' D' N' → K (.int .i64 (gmoveE s B id b)) w') :
    cl Tryd.prog 41 #[.pointer (some ⟨g, 0, none⟩), .int .i64 id, b.v] w K := by
  obtain ⟨F, F', h1, h2, h3, h4⟩ := h.gr
  have h1' := h1
  obtain ⟨mb, mc, C, bb, kb, bc, kc, hg, rfl, hl, hn⟩ := h1
  refine gMove_k hg (fun x => by have := hl x; omega) fun w' F2 C' bb' kb' bc' kc' hg' hp hx hF _ => hK w' ?_
  exact G2.step h.st h1' h2 h3 h4 ⟨mb, mc, C', bb', kb', bc', kc', hg', hp, fun x => Nat.le_trans (gmoveD_len (pl_nd hg.nd) x) (by have := hl x; omega), nd_move hn⟩ hx hF

theorem G2.drop (h : G2 W w L s g B D N g' B' D' N') (hN : N ≤ 549755813888) {id : Int} {K : Value → World → Prop}
    (hK : ∀ w', G2 W w' L s g (gdropB B id) (gdropD s B D id) N g' B' D' N' → K (.int .i64 (gdropE B id)) w') :
    cl Tryd.prog 39 #[.pointer (some ⟨g, 0, none⟩), .int .i64 id] w K := by
  obtain ⟨F, F', h1, h2, h3, h4⟩ := h.gr
  have h1' := h1
  obtain ⟨mb, mc, C, bb, kb, bc, kc, hg, rfl, hl, hn⟩ := h1
  refine gDrop_k hg (fun x => by have := hl x; omega) fun w' C' bb' kb' bc' kc' hg' hp hx => hK w' ?_
  exact G2.step h.st h1' h2 h3 h4 ⟨mb, mc, C', bb', kb', bc', kc', hg', hp, fun x => Nat.le_trans (gdropD_len (pl_nd hg.nd) x) (hl x), nd_drop hn⟩ hx fun k hk => .inl hk

/-- a block laid since -/
theorem G2.add (h : G2 W w L s g B D N g' B' D' N') {w' : World} (hx : Ext no w w') {q : Nat} {cs : List Value} {t : TypeId} (hq : w.heap.size ≤ q) (hb : w'.heap[q]? = some (.cells cs.toArray t (0, 0))) : G2 W w' ((q, cs, t) :: L) s g B D N g' B' D' N' := by
  obtain ⟨F, F', h1, h2, h3, h4⟩ := h.gr
  have hs' := h.st.to hx
  have := h.st.ext.size
  refine ⟨⟨hs'.ext, fun b hb' => ?_, List.Pairwise.cons (fun b hb' => ?_) hs'.nd⟩, F, F', h1.ext hx fun _ _ h => h, h2.ext hx fun _ _ h => h, h3, fun k hk => ⟨(h4 k hk).1, fun b hb' => ?_⟩⟩
  · rcases List.mem_cons.1 hb' with rfl | hb'
    · exact ⟨hb, by simp only; omega⟩
    · exact hs'.kn b hb'
  · have := blk_lt (h.st.kn b hb').1
    simp only
    omega
  · rcases List.mem_cons.1 hb' with rfl | hb'
    · have : k < w.heap.size := by
        rcases hk with hk | hk
        · exact h1.lt k hk
        · exact h2.lt k hk
      simp only
      omega
    · exact (h4 k hk).2 b hb'

theorem G2.near (h : G2 W w L s g B D N g' B' D' N') (hN : N ≤ 1000000000) {b : Bx} (hI : ∀ x ∈ metL B D b (cellsL' s b), I64 x.1) {K : Value → World → Prop}
    (hK : ∀ p c w' LL, G2 W w' (LL ++ L) s g B D N g' B' D' N' → HoldsV LL p (iv .i64 (gnearV s B D b)) → K (.tuple #[.slice p (gnearV s B D b).length c, .int .i64 (cellsE s b)]) w') :
    cl Tryd.prog 32 #[.pointer (some ⟨g, 0, none⟩), b.v] w K := by
  obtain ⟨F, F', h1, h2, h3, h4⟩ := h.gr
  obtain ⟨mb, mc, C, bb, kb, bc, kc, hg, hD, hl, hn⟩ := h1
  subst hD
  have hml := metL_len (B := B) (b := b) hl (cellsL' s b)
  have hcl := cells_len (s := s) (b := b)
  have hmul : (cellsL' s b).length * N ≤ 1024 * 1000000000 := Nat.mul_le_mul hcl hN
  refine gNear_k hg hI (by omega) (fun x => by have := hl x; omega) fun p c w' hx hr => ?_
  rcases hr.cases with ⟨rfl, _, h0⟩ | ⟨q, cur, rfl, hq, hb, _, _, _, ht⟩
  · exact hK none c w' [] (h.to hx) (fun _ _ => .inl h0)
  · refine hK _ c w' [(q, cur.toList, _)] (h.add hx hq (by simpa using hb)) (fun w1 hw1 => .inr ⟨q, 0, rfl, fun i v hv => ?_⟩)
    have hb1 := hw1 _ List.mem_cons_self
    rw [blk_cell hb1, Nat.zero_add]
    rw [← ht, List.getElem?_take] at hv
    split at hv
    · simpa using hv
    · cases hv
theorem G2.reads {LL : List (Nat × List Value × TypeId)} {p : Option Addr} {vs : List Value} (h : G2 W w L s g B D N g' B' D' N') (hH : HoldsV LL p vs) (hs : ∀ b ∈ LL, b ∈ L) : Reads w p vs := hH w fun b hb => (h.st.kn b (hs b hb)).1

theorem G2.start {w0 w1 : World} (hs : St W w0 L) {F : Nat → Prop} {mb mc : Nat} (h : Gr w1 F g mb mc s [] [] [] 0 [] 0) (hx : Ext no w0 w1) (hF : ∀ k, F k → w0.heap.size ≤ k)
    {F' : Nat → Prop} {mb' mc' : Nat} (h' : Gr w F' g' mb' mc' s [] [] [] 0 [] 0) (hx' : Ext no w1 w) (hF' : ∀ k, F' k → w1.heap.size ≤ k) : G2 W w L s g [] [] 0 g' [] [] 0 := by
  have h0 := hs.ext.size
  have h1 := hx.size
  refine ⟨(hs.to hx).to hx', F, F', ⟨mb, mc, [], [], 0, [], 0, h.ext hx' fun _ _ h => h, rfl, fun _ => Nat.zero_le _, by simp⟩, ⟨mb', mc', [], [], 0, [], 0, h', rfl, fun _ => Nat.zero_le _, by simp⟩, fun k hk hk' => ?_, fun k hk => ?_⟩
  · have := h.lt k hk
    have := hF' k hk'
    omega
  · have : w0.heap.size ≤ k := by
      rcases hk with hk | hk
      · exact hF k hk
      · have := hF' k hk; omega
    refine ⟨by omega, fun b hb => ?_⟩
    have := blk_lt (hs.kn b hb).1
    omega
end
end Go.Proofs.YtamobmjfdiecbaaDoor
