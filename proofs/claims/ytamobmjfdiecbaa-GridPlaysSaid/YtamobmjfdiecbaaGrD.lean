/- GrD: slices.DeleteFunc at a grid's lists; the grid as a thing in memory, and what its functions do to it, as contracts over lists of numbers and boxes. Conditions: those of each theorem, on its arguments. -/
import Derived.Test.YtamobmjfdiecbaaGrC
import Derived.Test.YtamobmjfdiecbaaAs
import Derived.Test.YtamobmjfdiecbaaCz
namespace Go.Proofs.Ytamobmjfdiecbaa
open Go Go.Sx Go.Fp
attribute [local irreducible] jn lv ld st nw asI asB asP asS asY asM asF asA asT lp rn ru rq cl dw dr bnd bn2 nz nn hd hr so eqW

/-! ### DeleteFunc -/
theorem pred_k {n id : Int} {a : Addr} {w : World} (hc : w.cell? a = some (.int .i64 id)) {K : Value → World → Prop} (hK : K (.bool (n == id)) w) : cl Try.prog 79 #[.int .i64 n, .pointer (some a)] w K := by
  apply F79_calls
  unfold F79
  exact dr_i (ld_mk hc (asI_i rfl hK))

theorem okPred : callOk Try.prog 79 = true := by kernel_rfl
attribute [local irreducible] callOk

theorem indexFunc_k {s : Option Addr} {n c : Nat} {ids : List Int} {id : Int} {a : Addr} {w : World} (hr : Reads w s (iv .i64 ids)) (hn : ids.length = n) (hb : n ≤ 1125899906842624) (hc : w.cell? a = some (.int .i64 id)) {K : Value → World → Prop}
    (hnone : (∀ j : Nat, j < n → ids[j]? ≠ some id) → K (.int .i64 (-1)) w) (hsome : ∀ i : Nat, i < n → ids[i]? = some id → (∀ j : Nat, j < i → ids[j]? ≠ some id) → K (.int .i64 (i : Int)) w) :
    cl Try.prog 89 #[.slice s n c, .func (.func 79) #[] #[.pointer (some a)]] w K := by
  subst hn
  apply F89_calls
  unfold F89
  refine lv_i (lp_mk (fun i : Nat => [.int .i64 (i : Int)]) (fun m i w' => w = w' ∧ m = ids.length - i ∧ i ≤ ids.length ∧ ∀ j : Nat, j < i → ids[j]? ≠ some id) ids.length 0 rfl ⟨rfl, rfl, Nat.zero_le _, by omega⟩ ?_)
  rintro _ i _ ⟨rfl, rfl, hi, hall⟩ J hJ
  refine asI_i rfl (cond_split (fun h => ?_) (fun h => ?_))
  · have hil : i < ids.length := by
      have := of_decide_eq_true h
      omega
    refine lv_i (hr.at (i := (i : Int)) (by omega) (v := .int .i64 ids[i]) (by simp [iv, hil]) ?_ (by simp [iv]))
    refine asI_i rfl (cond_t okPred ?_)
    show cl Try.prog 79 #[.int .i64 ids[i], .pointer (some a)] w _
    refine pred_k hc (asB_i rfl (cond_split (fun h => lv_i ?_) (fun h => ?_)))
    · refine hsome i hil ?_ hall
      rw [List.getElem?_eq_getElem hil]
      congr 1
      simpa using h
    · have ei : IntKind.wrap .i64 ((i : Int) + 1) = ((i + 1 : Nat) : Int) := by rw [wr64 (by omega) (by omega)]; omega
      rw [ei]
      refine hJ (ids.length - (i + 1)) (i + 1) w (by omega) ⟨rfl, rfl, hil, fun j hj => ?_⟩
      by_cases hji : j = i
      · subst hji
        rw [List.getElem?_eq_getElem hil]
        intro e
        simp only [Option.some.injEq] at e
        rw [e] at h
        simp at h
      · exact hall j (by omega)
  · have hil : i = ids.length := by
      have := of_decide_eq_false h
      omega
    subst hil
    exact lv_i (hnone hall)

set_option maxRecDepth 100000 in
theorem sI : SlT Try.prog 38 3 (.int .i64 0) 8 := ⟨rfl, ⟨_, rfl, rfl, rfl, rfl⟩, rfl⟩

def less (ids : List Int) (id : Int) : List Int := ids.filter fun x => !(x == id)

theorem filter_all {ids : List Int} {id : Int} (h : ∀ j : Nat, j < ids.length → ids[j]? ≠ some id) : less ids id = ids := by
  unfold less
  rw [List.filter_eq_self]
  intro x hx
  obtain ⟨j, hj⟩ := List.getElem?_of_mem hx
  have hl := (List.getElem?_eq_some_iff.1 hj).1
  have := h j hl
  rw [hj] at this
  simp only [ne_eq, Option.some.injEq] at this
  simpa using this

theorem delFunc_k {p : Option Addr} {c : Nat} {ids : List Int} {id : Int} {a : Addr} {w : World} (h : Row w 0 3 p c (iv .i64 ids)) (hb : ids.length ≤ 1125899906842624) (hc : w.cell? a = some (.int .i64 id)) (hne : ∀ q, p = some q → q.block ≠ a.block) {K : Value → World → Prop}
    (hK : ∀ w', Row w' 0 3 p c (iv .i64 (less ids id)) → Ext (blocks p) w w' → w'.heap.size = w.heap.size → K (.slice p (less ids id).length c) w') :
    cl Try.prog 78 #[.slice p ids.length c, .func (.func 79) #[] #[.pointer (some a)]] w K := by
  apply F78_calls
  unfold F78
  refine indexFunc_k h.reads rfl hb hc (fun hall => ?_) (fun i0 hi0 hid hall => ?_)
  · refine asI_i rfl (lv_i (cond_t rfl ?_))
    have := hK w (by rw [filter_all hall]; exact h) (Ext.refl _ _) rfl
    rw [filter_all hall] at this
    exact this
  refine asI_i rfl (lv_i (cond_f (by simp <;> omega) (lv_i ?_)))
  have ei : IntKind.wrap .i64 ((i0 : Int) + 1) = ((i0 + 1 : Nat) : Int) := by rw [wr64 (by omega) (by omega)]; omega
  rw [ei]
  have t0 : less (ids.take (i0 + 1)) id = ids.take i0 := by
    have e : ids.take (i0 + 1) = ids.take i0 ++ [id] := by rw [List.take_add_one, hid]; rfl
    unfold less
    rw [e, List.filter_append]
    have e1 : (ids.take i0).filter (fun x => !(x == id)) = ids.take i0 := by
      refine filter_all (ids := ids.take i0) fun j hj => ?_
      have hj2 : j < i0 := by simp at hj; omega
      rw [List.getElem?_take, if_pos hj2]
      exact hall j hj2
    rw [e1]
    simp
  refine lp_mk (fun s : Nat × Nat => [.int .i64 (s.1 : Int), .int .i64 (s.2 : Int)])
    (fun m s w' => m = ids.length - s.2 ∧ s.1 ≤ s.2 ∧ s.2 ≤ ids.length ∧ Ext (blocks p) w w' ∧ w'.heap.size = w.heap.size ∧ ∃ ys, Row w' 0 3 p c (iv .i64 ys) ∧ ys.length = ids.length ∧ ys.take s.1 = less (ids.take s.2) id ∧ ys.drop s.2 = ids.drop s.2) (ids.length - (i0 + 1)) (i0, i0 + 1) rfl
    ⟨rfl, Nat.le_succ _, hi0, Ext.refl _ _, rfl, ids, h, rfl, t0.symm, rfl⟩ ?_
  rintro _ ⟨i, j⟩ w1 ⟨rfl, hij, hj, hx1, hz1, ys, hr1, hl1, ht1, hd1⟩ J hJ
  simp only at hij hj ht1 hd1 hJ ⊢
  refine asI_i rfl (asI_i rfl (cond_split (fun h => ?_) (fun h => ?_)))
  · have hjl : j < ids.length := by
      have := of_decide_eq_true h
      omega
    have ej : IntKind.wrap .i64 ((j : Int) + 1) = ((j + 1 : Nat) : Int) := by rw [wr64 (by omega) (by omega)]; omega
    have hyj : ys[j]? = some ids[j] := by
      have := congrArg (fun l => l[0]?) hd1
      simp only [List.getElem?_drop, Nat.add_zero] at this
      rw [this, List.getElem?_eq_getElem hjl]
    have hjy : j < ys.length := by omega
    have htk : ids.take (j + 1) = ids.take j ++ [ids[j]] := by rw [List.take_add_one, List.getElem?_eq_getElem hjl]; rfl
    have hdr : ∀ zs : List Int, zs.drop j = ids.drop j → zs.drop (j + 1) = ids.drop (j + 1) := by
      intro zs hz
      have := congrArg (List.drop 1) hz
      simpa [List.drop_drop, Nat.add_comm] using this
    refine jn_of (fun s w' => ∃ i' : Nat, s = [.int .i64 (i' : Int)] ∧ i' ≤ j + 1 ∧ Ext (blocks p) w w' ∧ w'.heap.size = w.heap.size ∧ ∃ ys, Row w' 0 3 p c (iv .i64 ys) ∧ ys.length = ids.length ∧ ys.take i' = less (ids.take (j + 1)) id ∧ ys.drop (j + 1) = ids.drop (j + 1)) ?_ ?_
    · rintro _ w2 ⟨i', rfl, hi', hx2, hz2, ys2, hr2, hl2, ht2, hd2⟩
      refine asI_i rfl (lv_i ?_)
      rw [ej]
      exact hJ (ids.length - (j + 1)) (i', j + 1) w2 (by omega) ⟨rfl, hi', hjl, hx2, hz2, ys2, hr2, hl2, ht2, hd2⟩
    · intro J2 hJ2
      have hc1 : w1.cell? a = some (.int .i64 id) := hx1.cell hc fun ⟨q, hq, hqa⟩ => hne q hq hqa
      refine hr1.reads.at (i := (j : Int)) (by omega) (v := .int .i64 ids[j]) (by simp [iv, hyj]) ?_ (by simp [iv, hl1])
      refine asI_i rfl (lv_i (cond_t okPred ?_))
      show cl Try.prog 79 #[.int .i64 ids[j], .pointer (some a)] w1 _
      refine pred_k hc1 (asB_i rfl (cond_split (fun h => ?_) (fun h => ?_)))
      · have hv : (ids[j] == id) = false := by simpa using h
        refine hr1.st (i := (i : Int)) (u := .int .i64 ids[j]) (by omega) (by simp [iv, hl1]; omega) (by simp [iv, hl1]) rfl ?_
        intro w2 hr2 hE2 hz2
        refine lv_i (hJ2 _ _ ⟨i + 1, ?_, by omega, hx1.trans hE2, by omega, ys.set i ids[j], ?_, by simp [hl1], ?_, ?_⟩)
        · congr 2
          rw [wr64 (by omega) (by omega)]
          omega
        · rw [Int.toNat_natCast] at hr2
          simpa [iv, List.map_set] using hr2
        · have hi : i < ys.length := by omega
          rw [List.take_add_one, List.getElem?_set_self hi, List.take_set_of_le (Nat.le_refl i), ht1]
          unfold less
          rw [htk, List.filter_append]
          simp [hv]
        · rw [List.drop_set_of_lt (by omega)]
          exact hdr ys hd1
      · have hv : (ids[j] == id) = true := by simpa using h
        refine hJ2 _ _ ⟨i, rfl, by omega, hx1, hz1, ys, hr1, hl1, ?_, hdr ys hd1⟩
        rw [ht1]
        unfold less
        rw [htk, List.filter_append]
        simp [hv]
  · have hjl : j = ids.length := by
      have := of_decide_eq_false h
      omega
    subst hjl
    rw [List.take_length] at ht1
    have hcap : ys.length ≤ c := by
      rcases hr1.cases with ⟨_, _, hnil⟩ | ⟨g, cur, _, _, _, h1, _⟩
      · have : ys = [] := by simpa [iv] using hnil
        simp [this]
      · simpa [iv] using h1
    refine bn2_mk (by omega) (by omega) ?_
    rw [Int.toNat_natCast]
    have hiy : i ≤ (iv .i64 ys).length := by simp [iv]; omega
    have hly : (iv .i64 ys).length = ids.length := by simp [iv, hl1]
    have hcl := fun K hK => rn_clear (P := Try.prog) (t := 38) (ty := 0) (K := K) sI rfl hr1 hiy hK
    rw [hly] at hcl
    refine hcl _ ?_
    intro w2 hr2 hE2 hz2
    refine bn2_mk (by omega) (by omega) ?_
    have e2 : (iv .i64 ys).take i = iv .i64 (less ids id) := by rw [← ht1]; simp [iv, List.map_take]
    rw [e2] at hr2
    have e3 : i = (less ids id).length := by rw [← ht1]; simp; omega
    have := hK w2 hr2 (hx1.trans hE2) (by omega)
    rw [← e3] at this
    exact this
end Go.Proofs.Ytamobmjfdiecbaa
