/- BoxE: rows of boxes; whether all may be. Conditions: those of each theorem, on its arguments. -/
import Derived.Test.YtfeplleoedlicaaBoxD
namespace Go.Proofs.Ytfeplleoedlicaa
open Go Go.Sx
attribute [local irreducible] jn lv ld st nw asI asB asP asS asY asM asF asA asT lp rn ru rq cl dw dr bnd bn2 nz nn hd hr so eqW

def fl (bs : List Bx) : List Value := bs.flatMap Bx.cells
theorem fl_length (bs : List Bx) : (fl bs).length = bs.length * 3 := by
  induction bs with
  | nil => rfl
  | cons b bs ih =>
    have : fl (b :: bs) = b.cells ++ fl bs := rfl
    rw [this, List.length_append, ih]
    simp [Bx.cells]
    omega
theorem fl_get : ∀ {bs : List Bx} {i : Nat} {b : Bx}, bs[i]? = some b → ∀ k, k < 3 → (fl bs)[i * 3 + k]? = b.cells[k]?
  | [], _, _, h, _, _ => by simp at h
  | c :: bs, 0, b, h, k, hk => by
    simp only [List.getElem?_cons_zero, Option.some.injEq] at h
    subst h
    have : fl (c :: bs) = c.cells ++ fl bs := rfl
    rw [this, Nat.zero_mul, Nat.zero_add, List.getElem?_append_left (by simpa [Bx.cells] using hk)]
  | c :: bs, i + 1, b, h, k, hk => by
    have : fl (c :: bs) = c.cells ++ fl bs := rfl
    have hl : c.cells.length = 3 := rfl
    rw [this, List.getElem?_append_right (by omega), hl]
    have e : (i + 1) * 3 + k - 3 = i * 3 + k := by omega
    rw [e]
    exact fl_get (by simpa using h) k hk

/-- one box of a row -/
theorem bx_at {w : World} {l : Option Addr} {bs : List Bx} (hr : Reads w l (fl bs)) {i n : Nat} (hn : bs.length = n) {b : Bx} (hb : bs[i]? = some b) {K : Addr → Prop}
    (hK : ∀ a, w.cell? (Addr.add a (Int.toNat (i : Int) * 3)) = some (.int .i64 b.x) → w.cell? (Addr.add (Addr.add a (Int.toNat (i : Int) * 3)) 1) = some (.int .i64 b.y) → w.cell? (Addr.add (Addr.add a (Int.toNat (i : Int) * 3)) 2) = some (.int .i64 b.r) → K a) :
    dr l fun a => bnd (i : Int) n (K a) := by
  have hi : i < n := by
    have := (List.getElem?_eq_some_iff.1 hb).1
    omega
  refine hr.at3 (by omega) (by simpa using hi) (by rw [fl_length, hn]) ?_
  intro a h0 h1 h2
  rw [Int.toNat_natCast] at h0 h1 h2
  have g := fl_get hb
  refine hK a ?_ ?_ ?_
  · rw [Int.toNat_natCast, h0]; exact g 0 (by decide)
  · rw [Int.toNat_natCast, h1]; exact g 1 (by decide)
  · rw [Int.toNat_natCast, h2]; exact g 2 (by decide)

theorem Reads.no {w w' : World} (hx : Ext no w w') {p : Option Addr} {vs : List Value} (h : Reads w p vs) : Reads w' p vs := h.ext hx fun _ _ h => h

def allR (bs : List Bx) : Bool := bs.all Bx.right

theorem all_false {bs : List Bx} {i : Nat} {b : Bx} (hb : bs[i]? = some b) (h : b.right = false) : allR bs = false := by
  rw [allR, List.all_eq_false]
  exact ⟨b, List.mem_of_getElem? hb, by simp [h]⟩

theorem all_true {bs : List Bx} (h : ∀ j, j < bs.length → ∀ b, bs[j]? = some b → b.right = true) : allR bs = true := by
  rw [allR, List.all_eq_true]
  intro b hb
  obtain ⟨j, hj⟩ := List.getElem?_of_mem hb
  exact h j (List.getElem?_eq_some_iff.1 hj).1 b hj

theorem all_k {a : Bx} {w : World} {l : Option Addr} {n c : Nat} {bs : List Bx} (hL : Reads w l (fl bs)) (hn : bs.length = n) (hm : n ≤ 1125899906842624) {K : Value → World → Prop}
    (hK : ∀ w', Ext no w w' → K (.bool (allR bs && a.right)) w') : cl Try.prog 30 #[a.v, .slice l n c] w K := by
  subst hn
  apply F30_calls
  unfold F30
  have hS := St.start w
  (refine St.nw hS ?_; clear hS; intro ra _ hS)
  refine lp_mk (fun i : Nat => [.int .i64 (i : Int)]) (fun m i w' => m = bs.length - i ∧ i ≤ bs.length ∧ St w w' [(ra, a.cells, 25)] ∧ ∀ j, j < i → ∀ b, bs[j]? = some b → b.right = true) bs.length 0 rfl ⟨rfl, Nat.zero_le _, hS, by omega⟩ ?_
  clear hS
  rintro _ i w1 ⟨rfl, hi, hS, hall⟩ J hJ
  repeat (first | (refine asI_i rfl ?_) | (refine asB_i rfl ?_) | (refine asP_i rfl ?_) | (refine asS_i rfl ?_) | (refine asY_i rfl ?_) | (refine asM_i rfl ?_) | (refine asA_i rfl rfl ?_) | (refine asT_i rfl rfl ?_) | (refine lv_i ?_))
  refine cond_split (fun hc => ?_) (fun hc => ?_)
  · have hil : i < bs.length := by simpa using hc
    have hb : bs[i]? = some bs[i] := List.getElem?_eq_getElem hil
    generalize bs[i] = b at hb
    refine bx_at (Reads.no hS.ext hL) rfl hb ?_
    intro ad c0 c1 c2
    refine ld_mk c0 (asI_i rfl (ld_mk c1 (asI_i rfl (ld_mk c2 (asI_i rfl ?_)))))
    repeat (first | (refine right_k ?_; intro _ x; replace hS := hS.to x; clear x) | (refine asI_i rfl ?_) | (refine asB_i rfl ?_) | (refine asP_i rfl ?_) | (refine asS_i rfl ?_) | (refine asY_i rfl ?_) | (refine asM_i rfl ?_) | (refine asA_i rfl rfl ?_) | (refine asT_i rfl rfl ?_) | (refine lv_i ?_) | (refine St.nw hS ?_; clear hS; intro _ _ hS) | (refine St.dw hS ?_; clear hS; intro _ hS _) | (refine hS.ld0 0 rfl rfl ?_) | (refine hS.ld 0 rfl rfl ?_) | (refine hS.ld0 1 rfl rfl ?_) | (refine hS.ld 1 rfl rfl ?_) | (refine hS.ld0 2 rfl rfl ?_) | (refine hS.ld 2 rfl rfl ?_) | (refine hS.ld0 3 rfl rfl ?_) | (refine hS.ld 3 rfl rfl ?_) | (refine hS.ld0 4 rfl rfl ?_) | (refine hS.ld 4 rfl rfl ?_) | (refine hS.ld0 5 rfl rfl ?_) | (refine hS.ld 5 rfl rfl ?_) | (refine hS.ld0 6 rfl rfl ?_) | (refine hS.ld 6 rfl rfl ?_) | (refine hS.ld0 7 rfl rfl ?_) | (refine hS.ld 7 rfl rfl ?_) | (refine hS.hd0 0 rfl rfl ?_) | (refine hS.hd 0 rfl rfl ?_) | (refine hS.hd0 1 rfl rfl ?_) | (refine hS.hd 1 rfl rfl ?_) | (refine hS.hd0 2 rfl rfl ?_) | (refine hS.hd 2 rfl rfl ?_) | (refine hS.hd0 3 rfl rfl ?_) | (refine hS.hd 3 rfl rfl ?_) | (refine hS.hd0 4 rfl rfl ?_) | (refine hS.hd 4 rfl rfl ?_) | (refine hS.hd0 5 rfl rfl ?_) | (refine hS.hd 5 rfl rfl ?_) | (refine hS.hd0 6 rfl rfl ?_) | (refine hS.hd 6 rfl rfl ?_) | (refine hS.hd0 7 rfl rfl ?_) | (refine hS.hd 7 rfl rfl ?_) | (refine hS.st0 0 rfl rfl rfl ?_; clear hS; intro _ hS) | (refine hS.st 0 rfl rfl rfl ?_; clear hS; intro _ hS) | (refine hS.st0 1 rfl rfl rfl ?_; clear hS; intro _ hS) | (refine hS.st 1 rfl rfl rfl ?_; clear hS; intro _ hS) | (refine hS.st0 2 rfl rfl rfl ?_; clear hS; intro _ hS) | (refine hS.st 2 rfl rfl rfl ?_; clear hS; intro _ hS) | (refine hS.st0 3 rfl rfl rfl ?_; clear hS; intro _ hS) | (refine hS.st 3 rfl rfl rfl ?_; clear hS; intro _ hS) | (refine hS.st0 4 rfl rfl rfl ?_; clear hS; intro _ hS) | (refine hS.st 4 rfl rfl rfl ?_; clear hS; intro _ hS) | (refine hS.st0 5 rfl rfl rfl ?_; clear hS; intro _ hS) | (refine hS.st 5 rfl rfl rfl ?_; clear hS; intro _ hS) | (refine hS.st0 6 rfl rfl rfl ?_; clear hS; intro _ hS) | (refine hS.st 6 rfl rfl rfl ?_; clear hS; intro _ hS) | (refine hS.st0 7 rfl rfl rfl ?_; clear hS; intro _ hS) | (refine hS.st 7 rfl rfl rfl ?_; clear hS; intro _ hS))
    refine cond_split (fun h => ?_) (fun h => ?_)
    · rw [rightE_ne] at h
      have hk := hK _ hS.ext
      rw [all_false hb (by simpa using h)] at hk
      exact hk
    · rw [rightE_ne] at h
      have ei : IntKind.wrap .i64 ((i : Int) + 1) = ((i + 1 : Nat) : Int) := by rw [wr64 (by omega) (by omega)]; omega
      rw [ei]
      refine hJ (bs.length - (i + 1)) (i + 1) _ (by omega) ⟨rfl, by omega, hS.tail, fun j hj b' hb' => ?_⟩
      by_cases hji : j = i
      · subst hji
        rw [hb] at hb'
        cases hb'
        simpa using h
      · exact hall j (by omega) b' hb'
  · have hil : i = bs.length := by
      have : ¬ i < bs.length := by simpa using hc
      omega
    subst hil
    repeat (first | (refine right_k ?_; intro _ x; replace hS := hS.to x; clear x) | (refine asI_i rfl ?_) | (refine asB_i rfl ?_) | (refine asP_i rfl ?_) | (refine asS_i rfl ?_) | (refine asY_i rfl ?_) | (refine asM_i rfl ?_) | (refine asA_i rfl rfl ?_) | (refine asT_i rfl rfl ?_) | (refine lv_i ?_) | (refine St.nw hS ?_; clear hS; intro _ _ hS) | (refine St.dw hS ?_; clear hS; intro _ hS _) | (refine hS.ld0 0 rfl rfl ?_) | (refine hS.ld 0 rfl rfl ?_) | (refine hS.ld0 1 rfl rfl ?_) | (refine hS.ld 1 rfl rfl ?_) | (refine hS.ld0 2 rfl rfl ?_) | (refine hS.ld 2 rfl rfl ?_) | (refine hS.ld0 3 rfl rfl ?_) | (refine hS.ld 3 rfl rfl ?_) | (refine hS.ld0 4 rfl rfl ?_) | (refine hS.ld 4 rfl rfl ?_) | (refine hS.ld0 5 rfl rfl ?_) | (refine hS.ld 5 rfl rfl ?_) | (refine hS.ld0 6 rfl rfl ?_) | (refine hS.ld 6 rfl rfl ?_) | (refine hS.ld0 7 rfl rfl ?_) | (refine hS.ld 7 rfl rfl ?_) | (refine hS.hd0 0 rfl rfl ?_) | (refine hS.hd 0 rfl rfl ?_) | (refine hS.hd0 1 rfl rfl ?_) | (refine hS.hd 1 rfl rfl ?_) | (refine hS.hd0 2 rfl rfl ?_) | (refine hS.hd 2 rfl rfl ?_) | (refine hS.hd0 3 rfl rfl ?_) | (refine hS.hd 3 rfl rfl ?_) | (refine hS.hd0 4 rfl rfl ?_) | (refine hS.hd 4 rfl rfl ?_) | (refine hS.hd0 5 rfl rfl ?_) | (refine hS.hd 5 rfl rfl ?_) | (refine hS.hd0 6 rfl rfl ?_) | (refine hS.hd 6 rfl rfl ?_) | (refine hS.hd0 7 rfl rfl ?_) | (refine hS.hd 7 rfl rfl ?_) | (refine hS.st0 0 rfl rfl rfl ?_; clear hS; intro _ hS) | (refine hS.st 0 rfl rfl rfl ?_; clear hS; intro _ hS) | (refine hS.st0 1 rfl rfl rfl ?_; clear hS; intro _ hS) | (refine hS.st 1 rfl rfl rfl ?_; clear hS; intro _ hS) | (refine hS.st0 2 rfl rfl rfl ?_; clear hS; intro _ hS) | (refine hS.st 2 rfl rfl rfl ?_; clear hS; intro _ hS) | (refine hS.st0 3 rfl rfl rfl ?_; clear hS; intro _ hS) | (refine hS.st 3 rfl rfl rfl ?_; clear hS; intro _ hS) | (refine hS.st0 4 rfl rfl rfl ?_; clear hS; intro _ hS) | (refine hS.st 4 rfl rfl rfl ?_; clear hS; intro _ hS) | (refine hS.st0 5 rfl rfl rfl ?_; clear hS; intro _ hS) | (refine hS.st 5 rfl rfl rfl ?_; clear hS; intro _ hS) | (refine hS.st0 6 rfl rfl rfl ?_; clear hS; intro _ hS) | (refine hS.st 6 rfl rfl rfl ?_; clear hS; intro _ hS) | (refine hS.st0 7 rfl rfl rfl ?_; clear hS; intro _ hS) | (refine hS.st 7 rfl rfl rfl ?_; clear hS; intro _ hS))
    have hk := hK _ hS.ext
    rw [all_true hall] at hk
    have e : (a.rightE == 0) = a.right := by unfold Bx.rightE; cases a.right <;> rfl
    rw [e]
    exact hk

theorem rights_k {w : World} {l : Option Addr} {n c : Nat} {bs : List Bx} (hL : Reads w l (fl bs)) (hn : bs.length = n) (hm : n ≤ 1125899906842624) {K : Value → World → Prop}
    (hK : ∀ w', Ext no w w' → K (.bool (allR bs)) w') : cl Try.prog 36 #[.slice l n c] w K := by
  subst hn
  apply F36_calls
  unfold F36
  refine lv_i (lp_mk (fun i : Nat => [.int .i64 (i : Int)]) (fun m i w' => m = bs.length - i ∧ i ≤ bs.length ∧ Ext no w w' ∧ ∀ j, j < i → ∀ b, bs[j]? = some b → b.right = true) bs.length 0 rfl ⟨rfl, Nat.zero_le _, Ext.refl _ _, by omega⟩ ?_)
  rintro _ i w1 ⟨rfl, hi, x1, hall⟩ J hJ
  repeat (first | (refine asI_i rfl ?_) | (refine asB_i rfl ?_) | (refine asP_i rfl ?_) | (refine asS_i rfl ?_) | (refine asY_i rfl ?_) | (refine asM_i rfl ?_) | (refine asA_i rfl rfl ?_) | (refine asT_i rfl rfl ?_) | (refine lv_i ?_))
  refine cond_split (fun hc => ?_) (fun hc => ?_)
  · have hil : i < bs.length := by simpa using hc
    have hb : bs[i]? = some bs[i] := List.getElem?_eq_getElem hil
    generalize bs[i] = b at hb
    refine bx_at (Reads.no x1 hL) rfl hb ?_
    intro ad c0 c1 c2
    refine ld_mk c0 (asI_i rfl (ld_mk c1 (asI_i rfl (ld_mk c2 (asI_i rfl ?_)))))
    refine rright_k ?_
    intro w2 x2
    repeat (first | (refine asI_i rfl ?_) | (refine asB_i rfl ?_) | (refine asP_i rfl ?_) | (refine asS_i rfl ?_) | (refine asY_i rfl ?_) | (refine asM_i rfl ?_) | (refine asA_i rfl rfl ?_) | (refine asT_i rfl rfl ?_) | (refine lv_i ?_))
    refine cond_split (fun h => ?_) (fun h => ?_)
    · have hk := hK _ (x1.trans x2)
      rw [all_false hb (by simpa using h)] at hk
      exact hk
    · have ei : IntKind.wrap .i64 ((i : Int) + 1) = ((i + 1 : Nat) : Int) := by rw [wr64 (by omega) (by omega)]; omega
      repeat (first | (refine asI_i rfl ?_) | (refine asB_i rfl ?_) | (refine asP_i rfl ?_) | (refine asS_i rfl ?_) | (refine asY_i rfl ?_) | (refine asM_i rfl ?_) | (refine asA_i rfl rfl ?_) | (refine asT_i rfl rfl ?_) | (refine lv_i ?_))
      rw [ei]
      refine hJ (bs.length - (i + 1)) (i + 1) _ (by omega) ⟨rfl, by omega, x1.trans x2, fun j hj b' hb' => ?_⟩
      by_cases hji : j = i
      · subst hji
        rw [hb] at hb'
        cases hb'
        simpa using h
      · exact hall j (by omega) b' hb'
  · have hil : i = bs.length := by
      have : ¬ i < bs.length := by simpa using hc
      omega
    subst hil
    have hk := hK _ x1
    rw [all_true hall] at hk
    exact hk
end Go.Proofs.Ytfeplleoedlicaa
