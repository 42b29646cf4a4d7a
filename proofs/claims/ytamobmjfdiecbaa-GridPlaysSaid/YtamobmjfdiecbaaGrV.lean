/- GrV: the document's own grid: New and Near; rows that are compared; what both grids tell is the same. Conditions: those of each theorem, on its arguments. -/
import Derived.Test.YtamobmjfdiecbaaGrU
namespace Go.Proofs.Ytamobmjfdiecbaa
open Go Go.Sx Go.Fp
attribute [local irreducible] jn lv ld st nw asI asB asP asS asY asM asF asA asT lp rn ru rq cl dw dr bnd bn2 nz nn hd hr so eqW
attribute [local irreducible] callOk

def rnearV (s : Int) (A : List (Int × Bx)) (b : Bx) : List Int := if cellsE s b = 0 then (A.filter fun y => (meetV y.2 b).1).map (·.1) else []

set_option maxHeartbeats 2000000 in
theorem rNear_k {w : World} {F : Nat → Prop} {x : Nat} {s : Int} {A : List (Int × Bx)} {p : Option Addr} {c : Nat} {q : Option Addr} {c' : Nat} (h : R1 w F x s A p c q c') (hm : A.length ≤ 100000) {b : Bx} {K : Value → World → Prop}
    (hK : ∀ p0 c0 w', Ext no w w' → Row w' w.heap.size 3 p0 c0 (iv .i64 (rnearV s A b)) → K (.tuple #[.slice p0 (rnearV s A b).length c0, .int .i64 (cellsE s b)]) w') :
    cl Try.prog 58 #[.pointer (some ⟨x, 0, none⟩), b.v] w K := by
  apply F58_calls
  unfold F58
  have hS := St.start w
  (refine St.nw hS ?_; clear hS; intro r1 _ hS)
  refine lv_i (hS.dw fun w2 hS _ => ?_)
  have h2 := h.no hS.ext
  refine dr_i (ld_mk h2.ld0 (asI_i rfl (hS.ld0 0 rfl rfl (asI_i rfl (hS.ld 0 rfl rfl (asI_i rfl (hS.ld 0 rfl rfl (asI_i rfl ?_))))))))
  refine rcells_k (b := b) fun p0 c0 w3 hx3 _ => asT_i rfl rfl (asS_i rfl (asI_i rfl (lv_i (cond_split (fun hc => ?_) (fun hc => ?_)))))
  · have hc' : cellsE s b ≠ 0 := by simpa using hc
    have e1 : rnearV s A b = [] := by unfold rnearV; rw [if_neg hc']
    have := hK none 0 w3 (hS.ext.trans hx3) (by rw [e1]; exact Row.nil _ _ _)
    rw [e1] at this
    exact lv_i this
  have hc0 : cellsE s b = 0 := by simpa using hc
  have e1 : rnearV s A b = (A.filter fun y => (meetV y.2 b).1).map (·.1) := by unfold rnearV; rw [if_pos hc0]
  rw [hc0] at hK
  replace hS := hS.to hx3
  refine lv_i ?_
  refine lp_mk (fun t : (Option Addr × Nat × Nat) × Nat => [.slice t.1.1 t.1.2.1 t.1.2.2, .int .i64 (t.2 : Int)])
    (fun m t w' => m = A.length - t.2 ∧ t.2 ≤ A.length ∧ Ext no w3 w' ∧ t.1.2.1 = (((A.take t.2).filter fun y => (meetV y.2 b).1).map (·.1)).length ∧ Row w' w3.heap.size 3 t.1.1 t.1.2.2 (iv .i64 (((A.take t.2).filter fun y => (meetV y.2 b).1).map (·.1)))) A.length ((none, 0, 0), 0) rfl
    ⟨rfl, Nat.zero_le _, Ext.refl _ _, rfl, Row.nil _ _ _⟩ ?_
  rintro _ ⟨⟨p5, n5, c5⟩, i⟩ w5 ⟨rfl, hi, hx5, hn5, hr5⟩ J hJ
  simp only at hi hn5 hr5 hJ ⊢
  have hS5 := hS.to hx5
  have h5 := h.no hS5.ext
  refine asS_i rfl (asI_i rfl (dr_i (ld_mk h5.ld1 (asS_i rfl (cond_split (fun hc => ?_) (fun hc => ?_))))))
  · have hil : i < A.length := by
      have := of_decide_eq_true hc
      omega
    have ei : IntKind.wrap .i64 ((i : Int) + 1) = ((i + 1 : Nat) : Int) := by rw [wr64 (by omega) (by omega)]; omega
    have hAi : A[i]? = some A[i] := List.getElem?_eq_getElem hil
    have htk : A.take (i + 1) = A.take i ++ [A[i]] := by rw [List.take_add_one, List.getElem?_eq_getElem hil]; rfl
    generalize A[i] = y at *
    have hlen : (((A.take i).filter fun y => (meetV y.2 b).1).map (·.1)).length ≤ 100000 := by
      rw [List.length_map]
      have h1 := List.length_filter_le (fun y : Int × Bx => (meetV y.2 b).1) (A.take i)
      rw [List.length_take] at h1
      omega
    rw [ei]
    refine jn_of (fun t w' => ∃ p' n' c', t = [.slice p' n' c'] ∧ Ext no w3 w' ∧ n' = (((A.take (i + 1)).filter fun y => (meetV y.2 b).1).map (·.1)).length ∧ Row w' w3.heap.size 3 p' c' (iv .i64 (((A.take (i + 1)).filter fun y => (meetV y.2 b).1).map (·.1)))) ?_ ?_
    · rintro _ w6 ⟨p', n', c6, rfl, hx6, hn6, hr6⟩
      exact asS_i rfl (lv_i (hJ (A.length - (i + 1)) ((p', n', c6), i + 1) w6 (by omega) ⟨rfl, by simp only; omega, hx6, hn6, hr6⟩))
    · intro J2 hJ2
      refine hS5.dw fun w6 hS6 hx6 => ?_
      have h6 := h.no hS6.ext
      refine dr_i (ld_mk h6.ld2 (asS_i rfl ?_))
      rw [Int.toNat_natCast]
      refine Reads.atN (f := fun y : Int × Bx => y.2.cells) (s := 3) (fun _ => rfl) h6.rb.reads rfl hAi (by decide) fun a1 _ hca => ?_
      have hc0 := hca 0 (by decide)
      rw [Sx.add_zero'] at hc0
      refine ld_mk hc0 (asI_i rfl (ld_mk (hca 1 (by decide)) (asI_i rfl (ld_mk (hca 2 (by decide)) (asI_i rfl ?_)))))
      refine hS6.ld0 0 rfl rfl (asI_i rfl (hS6.ld 0 rfl rfl (asI_i rfl (hS6.ld 0 rfl rfl (asI_i rfl ?_)))))
      refine rmeet_k (a := y.2) (b := b) fun w7 hx7 => asT_i rfl rfl (asB_i rfl (asI_i rfl ?_))
      have h7 := h6.no hx7
      have hx37 := (hx5.trans hx6).trans hx7
      have hr7 := (hr5.ext hx6 fun _ _ h => h).ext hx7 fun _ _ h => h
      refine hd_i h7.ld2 (lv_i (cond_split (fun hc => ?_) (fun hc => ?_)))
      · have hc' : (meetV y.2 b).1 = true := hc
        refine dr_i (ld_mk h7.ld1 (asS_i rfl ?_))
        refine Reads.at1 h7.ri.reads (ids_length A) (ids_get hAi) fun a2 _ hca2 => ld_mk hca2 (asI_i rfl ?_)
        refine sI.app1 hr7 (by rw [iv_length, hn5]) hx37.size rfl (le_maxLen (by omega)) (by omega) fun p' c6 w8 hr8 hx8 _ => asS_i rfl (hJ2 _ _ ⟨p', n5 + 1, c6, rfl, ?_, ?_, ?_⟩)
        · exact hx37.then hx8 fun k hk ⟨a, ha, hab⟩ => by
            have := (hr7.at ha).1
            omega
        · rw [htk, List.filter_append, List.map_append, List.length_append, ← hn5, List.filter_cons, if_pos hc']
          rfl
        · rw [htk, List.filter_append, List.map_append, List.filter_cons, if_pos hc']
          have e : iv .i64 (((A.take i).filter fun y => (meetV y.2 b).1).map (·.1) ++ (y :: List.filter (fun y => (meetV y.2 b).1) []).map (·.1)) = iv .i64 (((A.take i).filter fun y => (meetV y.2 b).1).map (·.1)) ++ [.int .i64 y.1] := by
            simp [iv]
          rw [e]
          exact hr8
      · have hc' : ¬ (meetV y.2 b).1 = true := by rw [show (meetV y.2 b).1 = false from hc]; decide
        refine hJ2 _ _ ⟨p5, n5, c5, rfl, hx37, ?_, ?_⟩
        · rw [htk, List.filter_append, List.filter_cons, if_neg hc']
          simpa using hn5
        · rw [htk, List.filter_append, List.filter_cons, if_neg hc']
          simpa using hr7
  · have hil : i = A.length := by
      have := of_decide_eq_false hc
      omega
    subst hil
    rw [List.take_length, ← e1] at hr5 hn5
    subst hn5
    exact lv_i (hK p5 c5 w5 hS5.ext (hr5.mono hS.ext.size))

theorem row_k {w : World} {base : Nat} {p : Option Addr} {c : Nat} {q : Option Addr} {c' : Nat} {l : List Int} (ha : Row w base 3 p c (iv .i64 l)) (hb : Reads w q (iv .i64 l)) (hap : Apart q p) (hm : l.length ≤ 10000000000) {K : Value → World → Prop}
    (hK : ∀ w', Ext (blocks p) w w' → K (.bool true) w') : cl Try.prog 59 #[.slice p l.length c, .slice q l.length c'] w K := by
  apply F59_calls
  unfold F59
  refine cond_f (by simp) (lv_i ?_)
  refine lp_mk (fun i : Nat => [.int .i64 (i : Int)]) (fun m i w' => m = l.length - i ∧ i ≤ l.length ∧ Ext (blocks p) w w' ∧ ∃ vs, Row w' base 3 p c vs ∧ vs.length = l.length ∧ ∀ j, i ≤ j → vs[j]? = (iv .i64 l)[j]?) l.length 0 rfl
    ⟨rfl, Nat.zero_le _, Ext.refl _ _, _, ha, by rw [iv_length], fun _ _ => rfl⟩ ?_
  rintro _ i w1 ⟨rfl, hi, hx1, vs, hr1, hvl, hvs⟩ J hJ
  refine asI_i rfl (cond_split (fun hc => ?_) (fun _ => hK w1 hx1))
  have hil : i < l.length := by
    have := of_decide_eq_true hc
    omega
  have ei : IntKind.wrap .i64 ((i : Int) + 1) = ((i + 1 : Nat) : Int) := by rw [wr64 (by omega) (by omega)]; omega
  have hvi : (iv .i64 l)[i]? = some (.int .i64 l[i]) := by simp [iv, hil]
  generalize l[i] = z at *
  have hxd := Ext.drew w1
  have hrd := hr1.ext hxd fun _ _ h => h
  refine dw_mk ?_
  rw [ei]
  refine hrd.reads.at (i := (i : Int)) (v := .int .i64 z) (by omega) (by rw [Int.toNat_natCast, hvs i (Nat.le_refl _)]; exact hvi) (asI_i rfl ?_) (by omega)
  have hb1 : Reads w1.drew q (iv .i64 l) := (hb.ext hx1 fun a ha ⟨a2, ha2, e⟩ => hap a a2 ha ha2 e.symm).ext hxd fun _ _ h => h
  refine hb1.at (i := (i : Int)) (v := .int .i64 z) (by omega) (by rw [Int.toNat_natCast]; exact hvi) (asI_i rfl ?_) (by rw [iv_length]; exact Nat.le_refl _)
  refine cond_f (by simp) ?_
  refine hrd.st (i := (i : Int)) (n := l.length) (u := .int .i64 (-7)) (by omega) (by simp; omega) (by omega) rfl fun w2 hr2 hx2 _ => lv_i ?_
  refine hJ (l.length - (i + 1)) (i + 1) w2 (by omega) ⟨rfl, hil, (hx1.trans (Ext.of_no hxd)).trans hx2, _, hr2, by simpa using hvl, fun j hj => ?_⟩
  rw [List.getElem?_set_ne (by simp; omega)]
  exact hvs j (by omega)

theorem rnew_k {s : Int} {w : World} {K : Value → World → Prop} (hbad : sideOk s = false → K (.tuple #[.pointer none, .int .i64 1]) w)
    (hK : ∀ w' x, sideOk s = true → R1 w' (fun k => k = x) x s [] none 0 none 0 → Ext no w w' → w.heap.size ≤ x → K (.tuple #[.pointer (some ⟨x, 0, none⟩), .int .i64 0]) w') :
    cl Try.prog 32 #[.int .i64 s] w K := by
  apply F32_calls
  unfold F32
  refine lv_i (rside_k (asB_i rfl (cond_split (fun h => lv_i (hbad (by simpa using h))) (fun h => ?_))))
  refine (St.start w).nw (cs := [.int .i64 s, .slice none 0 0, .slice none 0 0]) fun x w1 hZ => lv_i ?_
  have hk := (hZ.kn _ List.mem_cons_self)
  refine hK w1 x (by simpa using h) ⟨hk.1, Row.nil _ _ _, RowN.nil _ _ _ _, Apart.none _, fun a h => (by cases h), fun a h => (by cases h), ⟨rfl, fun a h => (by cases h), fun a h => (by cases h)⟩, fun k hk' => by rw [show k = x from hk']; exact blk_lt hk.1⟩ hZ.ext hk.2
end Go.Proofs.Ytamobmjfdiecbaa
