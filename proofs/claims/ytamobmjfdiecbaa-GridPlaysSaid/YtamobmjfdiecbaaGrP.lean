/- GrP: the document's own grid as a thing in memory: a list of numbers and boxes; where a number stands. Conditions: those of each theorem, on its arguments. -/
import Derived.Test.YtamobmjfdiecbaaGrT
namespace Go.Proofs.Ytamobmjfdiecbaa
open Go Go.Sx Go.Fp
attribute [local irreducible] jn lv ld st nw asI asB asP asS asY asM asF asA asT lp rn ru rq cl dw dr bnd bn2 nz nn hd hr so eqW
attribute [local irreducible] callOk

def bcs (A : List (Int × Bx)) : List Value := A.flatMap fun y => y.2.cells
def ids (A : List (Int × Bx)) : List Value := iv .i64 (A.map (·.1))
theorem ids_length (A : List (Int × Bx)) : (ids A).length = A.length := by simp [ids, iv]
theorem ids_get {A : List (Int × Bx)} {i : Nat} {y : Int × Bx} (h : A[i]? = some y) : (ids A)[i]? = some (.int .i64 y.1) := by simp [ids, iv, h]

structure R1 (w : World) (F : Nat → Prop) (x : Nat) (s : Int) (A : List (Int × Bx)) (p : Option Addr) (c : Nat) (q : Option Addr) (c' : Nat) : Prop where
  hd : w.heap[x]? = some (.cells #[.int .i64 s, .slice p A.length c, .slice q A.length c'] 84 (0, 0))
  ri : Row w 0 3 p c (ids A)
  rb : RowN w 0 25 3 q c' A.length (bcs A)
  ap : Apart p q
  xp : ∀ a, p = some a → a.block ≠ x
  xq : ∀ a, q = some a → a.block ≠ x
  fp : F x ∧ (∀ a, p = some a → F a.block) ∧ ∀ a, q = some a → F a.block
  lt : ∀ k, F k → k < w.heap.size

section
variable {w : World} {F : Nat → Prop} {x : Nat} {s : Int} {A : List (Int × Bx)} {p : Option Addr} {c : Nat} {q : Option Addr} {c' : Nat}

theorem R1.ext {M : Nat → Prop} (h : R1 w F x s A p c q c') {w' : World} (hx : Ext M w w') (hm : ∀ k, F k → ¬ M k) : R1 w' F x s A p c q c' :=
  ⟨hx.blk h.hd (hm _ h.fp.1), h.ri.ext hx fun a ha => hm _ (h.fp.2.1 a ha), h.rb.ext hx fun a ha => hm _ (h.fp.2.2 a ha), h.ap, h.xp, h.xq, h.fp, fun k hk => Nat.lt_of_lt_of_le (h.lt k hk) hx.size⟩
theorem R1.no (h : R1 w F x s A p c q c') {w' : World} (hx : Ext no w w') : R1 w' F x s A p c q c' := h.ext hx fun _ _ h => h
theorem R1.ld0 (h : R1 w F x s A p c q c') : w.cell? ⟨x, 0, none⟩ = some (.int .i64 s) := by rw [blk_cell h.hd]; rfl
theorem R1.ld1 (h : R1 w F x s A p c q c') : w.cell? (Addr.add ⟨x, 0, none⟩ 1) = some (.slice p A.length c) := by rw [add_mk, blk_cell h.hd]; rfl
theorem R1.ld2 (h : R1 w F x s A p c q c') : w.cell? (Addr.add ⟨x, 0, none⟩ 2) = some (.slice q A.length c') := by rw [add_mk, blk_cell h.hd]; rfl
end

/-! ### where a number stands -/
def pos (A : List (Int × Bx)) (id : Int) : Nat := (A.takeWhile fun y => decide (y.1 < id)).length
def isAt (A : List (Int × Bx)) (id : Int) : Bool := match A[pos A id]? with
  | some y => y.1 == id
  | none => false

theorem pos_le (A : List (Int × Bx)) (id : Int) : pos A id ≤ A.length := (List.takeWhile_sublist _).length_le
theorem pos_lt {id : Int} : ∀ {A : List (Int × Bx)} {i : Nat} {y : Int × Bx}, A[i]? = some y → i < pos A id → y.1 < id
  | [], i, y, h, _ => by simp at h
  | z :: A, i, y, h, hi => by
    unfold pos at hi
    rw [List.takeWhile_cons] at hi
    split at hi
    · rename_i hz
      cases i with
      | zero =>
        have : z = y := by simpa using h
        subst this
        exact of_decide_eq_true hz
      | succ i => exact pos_lt (A := A) (by simpa using h) (by unfold pos; simpa using hi)
    · simp at hi
theorem pos_at {id : Int} : ∀ {A : List (Int × Bx)} {y : Int × Bx}, A[pos A id]? = some y → ¬ y.1 < id
  | [], y, h => by simp at h
  | z :: A, y, h => by
    unfold pos at h
    rw [List.takeWhile_cons] at h
    split at h
    · exact pos_at (A := A) (by unfold pos; simpa using h)
    · rename_i hz
      have : z = y := by simpa using h
      subst this
      simpa using hz

theorem place_k {w : World} {F : Nat → Prop} {x : Nat} {s : Int} {A : List (Int × Bx)} {p : Option Addr} {c : Nat} {q : Option Addr} {c' : Nat} (h : R1 w F x s A p c q c') (hm : A.length ≤ 1000000) {id : Int} {K : Value → World → Prop}
    (hK : ∀ w', Ext no w w' → K (.tuple #[.int .i64 (pos A id : Int), .bool (isAt A id)]) w') : cl Try.prog 76 #[.pointer (some ⟨x, 0, none⟩), .int .i64 id] w K := by
  have hpl := pos_le A id
  apply F76_calls
  unfold F76
  refine lv_i (lv_i ?_)
  refine lp_mk (fun i : Nat => [.int .i64 (i : Int)]) (fun m i w' => m = A.length - i ∧ i ≤ pos A id ∧ Ext no w w') A.length 0 rfl ⟨rfl, Nat.zero_le _, Ext.refl _ _⟩ ?_
  rintro _ i w1 ⟨rfl, hi, hx1⟩ J hJ
  have h1 := h.no hx1
  have ei : IntKind.wrap .i64 ((i : Int) + 1) = ((i + 1 : Nat) : Int) := by rw [wr64 (by omega) (by omega)]; omega
  refine asI_i rfl ?_
  rw [ei]
  refine jn_of (fun t w' => t = [.bool (decide (i < pos A id))] ∧ w' = w1) ?_ ?_
  rotate_left
  · intro J2 hJ2
    refine dr_i (ld_mk h1.ld1 (asS_i rfl (cond_split (fun hc => ?_) (fun hc => hJ2 _ _ ⟨?_, rfl⟩))))
    · have hil : i < A.length := by
        have := of_decide_eq_true hc
        omega
      have hAi : A[i]? = some A[i] := List.getElem?_eq_getElem hil
      refine dr_i (ld_mk h1.ld1 (asS_i rfl (h1.ri.reads.at (i := (i : Int)) (v := .int .i64 A[i].1) (by omega) (ids_get hAi) (asI_i rfl (hJ2 _ _ ⟨?_, rfl⟩)) (by rw [ids_length]; exact Nat.le_refl _))))
      congr 2
      by_cases hip : i < pos A id
      · rw [decide_eq_true hip, decide_eq_true (pos_lt hAi hip)]
      · have : i = pos A id := by omega
        rw [decide_eq_false hip, decide_eq_false]
        refine pos_at (A := A) (id := id) (y := A[i]) ?_
        rw [← this]
        exact hAi
    · have := of_decide_eq_false hc
      rw [decide_eq_false (by omega)]
  rintro _ w1 ⟨rfl, rfl⟩
  refine asB_i rfl (cond_split (fun hc => ?_) (fun hc => ?_))
  · have := of_decide_eq_true hc
    exact lv_i (hJ (A.length - (i + 1)) (i + 1) w1 (by omega) ⟨rfl, by omega, hx1⟩)
  · have hip : i = pos A id := by
      have := of_decide_eq_false hc
      omega
    refine jn_of (fun t w' => t = [.int .i64 (pos A id : Int), .bool (isAt A id)] ∧ Ext no w w') ?_ ?_
    · rintro _ w2 ⟨rfl, hx2⟩
      exact asI_i rfl (asB_i rfl (hK w2 hx2))
    · intro J2 hJ2
      refine dw_mk ?_
      have hxd := hx1.trans (Ext.drew w1)
      have hd := h.no hxd
      refine dr_i (ld_mk hd.ld1 (asS_i rfl (cond_split (fun hc => ?_) (fun hc => lv_i (hJ2 _ _ ⟨?_, hxd⟩)))))
      · have hil : i < A.length := by
          have := of_decide_eq_true hc
          omega
        have hAi : A[i]? = some A[i] := List.getElem?_eq_getElem hil
        refine dr_i (ld_mk hd.ld1 (asS_i rfl (hd.ri.reads.at (i := (i : Int)) (v := .int .i64 A[i].1) (by omega) (ids_get hAi) (asI_i rfl (lv_i (hJ2 _ _ ⟨?_, hxd⟩))) (by rw [ids_length]; exact Nat.le_refl _))))
        have : isAt A id = (A[i].1 == id) := by unfold isAt; rw [← hip, hAi]
        rw [this, ← hip]
      · have hil : ¬ i < A.length := by
          have := of_decide_eq_false hc
          omega
        have : isAt A id = false := by unfold isAt; rw [← hip, List.getElem?_eq_none (by omega)]
        rw [this, hip]
end Go.Proofs.Ytamobmjfdiecbaa
