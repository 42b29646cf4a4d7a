/- GrL2: the law GridCells comes out true for every input. Conditions: those of the law's arguments as they are read. -/
import Derived.Test.YtamobmjfdiecbaaGrR
import Derived.Test.YtamobmjfdiecbaaGrL1
namespace Go.Proofs.Ytamobmjfdiecbaa
open Go Go.Sx Go.Fp
attribute [local irreducible] jn lv ld st nw asI asB asP asS asY asM asF asA asT lp rn ru rq cl dw dr bnd bn2 nz nn hd hr so eqW
attribute [local irreducible] callOk

/-- a pair as a number -/
theorem lcell_k {p : Int × Int} {w : World} {K : Value → World → Prop} (hK : ∀ w', Ext no w w' → K (cv p) w') : cl Try.prog 27 #[.agg #[.int .i64 p.1, .int .i64 p.2]] w K := by
  apply F27_calls
  unfold F27
  have hS := St.start w
  (refine St.nw hS ?_; clear hS; intro r1 _ hS)
  repeat (first | (refine asI_i rfl ?_) | (refine asB_i rfl ?_) | (refine asP_i rfl ?_) | (refine asS_i rfl ?_) | (refine asY_i rfl ?_) | (refine asM_i rfl ?_) | (refine asA_i rfl rfl ?_) | (refine asT_i rfl rfl ?_) | (refine lv_i ?_) | (refine St.nw hS ?_; clear hS; intro _ _ hS) | (refine St.dw hS ?_; clear hS; intro _ hS _) | (refine hS.ld0 0 rfl rfl ?_) | (refine hS.ld 0 rfl rfl ?_) | (refine hS.ld0 1 rfl rfl ?_) | (refine hS.ld 1 rfl rfl ?_) | (refine hS.ld0 2 rfl rfl ?_) | (refine hS.ld 2 rfl rfl ?_) | (refine hS.ld0 3 rfl rfl ?_) | (refine hS.ld 3 rfl rfl ?_) | (refine hS.ld0 4 rfl rfl ?_) | (refine hS.ld 4 rfl rfl ?_) | (refine hS.ld0 5 rfl rfl ?_) | (refine hS.ld 5 rfl rfl ?_) | (refine hS.ld0 6 rfl rfl ?_) | (refine hS.ld 6 rfl rfl ?_) | (refine hS.ld0 7 rfl rfl ?_) | (refine hS.ld 7 rfl rfl ?_) | (refine hS.hd0 0 rfl rfl ?_) | (refine hS.hd 0 rfl rfl ?_) | (refine hS.hd0 1 rfl rfl ?_) | (refine hS.hd 1 rfl rfl ?_) | (refine hS.hd0 2 rfl rfl ?_) | (refine hS.hd 2 rfl rfl ?_) | (refine hS.hd0 3 rfl rfl ?_) | (refine hS.hd 3 rfl rfl ?_) | (refine hS.hd0 4 rfl rfl ?_) | (refine hS.hd 4 rfl rfl ?_) | (refine hS.hd0 5 rfl rfl ?_) | (refine hS.hd 5 rfl rfl ?_) | (refine hS.hd0 6 rfl rfl ?_) | (refine hS.hd 6 rfl rfl ?_) | (refine hS.hd0 7 rfl rfl ?_) | (refine hS.hd 7 rfl rfl ?_) | (refine hS.st0 0 rfl rfl rfl ?_; clear hS; intro _ hS) | (refine hS.st 0 rfl rfl rfl ?_; clear hS; intro _ hS) | (refine hS.st0 1 rfl rfl rfl ?_; clear hS; intro _ hS) | (refine hS.st 1 rfl rfl rfl ?_; clear hS; intro _ hS) | (refine hS.st0 2 rfl rfl rfl ?_; clear hS; intro _ hS) | (refine hS.st 2 rfl rfl rfl ?_; clear hS; intro _ hS) | (refine hS.st0 3 rfl rfl rfl ?_; clear hS; intro _ hS) | (refine hS.st 3 rfl rfl rfl ?_; clear hS; intro _ hS) | (refine hS.st0 4 rfl rfl rfl ?_; clear hS; intro _ hS) | (refine hS.st 4 rfl rfl rfl ?_; clear hS; intro _ hS) | (refine hS.st0 5 rfl rfl rfl ?_; clear hS; intro _ hS) | (refine hS.st 5 rfl rfl rfl ?_; clear hS; intro _ hS) | (refine hS.st0 6 rfl rfl rfl ?_; clear hS; intro _ hS) | (refine hS.st 6 rfl rfl rfl ?_; clear hS; intro _ hS) | (refine hS.st0 7 rfl rfl rfl ?_; clear hS; intro _ hS) | (refine hS.st 7 rfl rfl rfl ?_; clear hS; intro _ hS) | (refine bnd_mk (by decide) (by decide) ?_) | (refine so_i rfl ?_))
  exact hK _ hS.ext

theorem gcellP_small (s x y : Int) : (gcellP s x y).1.natAbs < 2 ^ 53 ∧ (gcellP s x y).2.natAbs < 2 ^ 53 := by
  unfold gcellP
  split
  · rename_i h
    obtain ⟨_, h1, h2⟩ := gcellE_zero h
    simp only
    omega
  · decide

theorem same_cell {p : Int × Int} (h : p.1.natAbs < 2 ^ 53 ∧ p.2.natAbs < 2 ^ 53) : (!((FloatKind.format .f64).order (F p.1) (F p.1) == some .eq && (FloatKind.format .f64).order (F p.2) (F p.2) == some .eq)) = false := by
  rw [order_self h.1, order_self h.2]
  rfl

theorem _root_.Go.Sx.Reads.at1 {w : World} {p : Option Addr} {vs : List Value} (h : Reads w p vs) {i n : Nat} (hn : vs.length = n) {v : Value} (hv : vs[i]? = some v) {K : Addr → Prop} (hK : ∀ a, p = some a → w.cell? (Addr.add a (i * 1)) = some v → K a) : dr p fun a => bnd (i : Int) n (K a) := by
  have e : vs = vs.flatMap fun x => [x] := by
    clear h hn hv hK
    induction vs with
    | nil => rfl
    | cons x l ih => rw [List.flatMap_cons, ← ih]; rfl
  rw [e] at h
  refine Reads.atN (f := fun x => [x]) (s := 1) (fun _ => rfl) h hn hv (by decide) fun a ha hc => hK a ha ?_
  have := hc 0 (by decide)
  rw [Sx.add_zero'] at this
  exact this
theorem _root_.Go.Sx.Reads.cell1 {w : World} {a : Addr} {vs : List Value} (h : Reads w (some a) vs) {i : Nat} {v : Value} (hv : vs[i]? = some v) : w.cell? (Addr.add a (i * 1)) = some v := by
  have := h.at1 rfl hv (K := fun a => w.cell? (Addr.add a (i * 1)) = some v) fun _ _ h => h
  unfold dr bnd at this
  exact this.2

/-- a pair out of a list, as a number -/
theorem pair_at {w : World} {r : Option Addr} {lst : List (Int × Int)} {n i : Nat} {p : Int × Int} (h : Reads w r (lst.flatMap pv)) (hn : lst.length = n) (hp : lst[i]? = some p) {K : Value → World → Prop} (hK : ∀ w', Ext no w w' → K (cv p) w') :
    dr r fun a => bnd (i : Int) n (ld w (Addr.add a (i * 2)) fun v1 => asI .i64 v1 fun x1 => ld w (Addr.add (Addr.add a (i * 2)) 1) fun v2 => asI .i64 v2 fun x2 => cl Try.prog 27 #[.agg #[.int .i64 x1, .int .i64 x2]] w K) := by
  refine Reads.atN (f := pv) (s := 2) (fun _ => rfl) h hn hp (by decide) fun a _ hc => ?_
  have h0 := hc 0 (by decide)
  rw [Sx.add_zero'] at h0
  exact ld_mk h0 (asI_i rfl (ld_mk (hc 1 (by decide)) (asI_i rfl (lcell_k hK))))

set_option maxHeartbeats 2000000 in
theorem gridCells_law (W : World) (s : Int) (_hs : (Lit.int .i64 s).wf = true) (z1 : List Value) (F1 : FitsAll [.int .i64, .int .i64] z1) (z2 : List Value) (F2 : FitsAll [.int .i64, .int .i64, .int .i64] z2) :
    cl Try.prog 6 #[.int .i64 s, .agg z1.toArray, .agg z2.toArray] W fun v w' => v = .bool true ∧ Ext no W w' := by
  obtain ⟨x, y, rfl, hx, hy⟩ := vec_of F1
  obtain ⟨b, rfl, _⟩ := bx_of' F2
  apply F6_calls
  unfold F6
  have hS := St.start W
  (refine St.nw hS ?_; clear hS; intro r1 _ hS)
  (refine St.nw hS ?_; clear hS; intro r3 _ hS)
  refine gawake_k fun w2 hx2 => asB_i rfl ?_
  replace hS := hS.to hx2
  refine hS.ld0 1 rfl rfl (asI_i rfl (hS.ld 1 rfl rfl (asI_i rfl ?_)))
  refine gCell_k hx hy fun w3 hx3 => ?_
  replace hS := hS.to hx3
  refine asT_i (l := [cv (gcellP s x y), .int .i64 (gcellE s x y)]) rfl rfl (asC_i rfl (asI_i rfl (lv_i ?_)))
  refine hS.ld0 0 rfl rfl (asI_i rfl (hS.ld 0 rfl rfl (asI_i rfl (hS.ld 0 rfl rfl (asI_i rfl ?_)))))
  have hb3 := hS.ext.size
  refine cells_k (b := b) fun p c w4 hx4 hr => ?_
  replace hS := hS.to hx4
  refine asT_i rfl rfl (asS_i rfl (asI_i rfl (lv_i ?_)))
  refine hS.ld0 0 rfl rfl (asI_i rfl (hS.ld 0 rfl rfl (asI_i rfl (hS.ld 0 rfl rfl (asI_i rfl ?_)))))
  have hlp : ∀ a, p = some a → W.heap.size ≤ a.block ∧ a.block < w4.heap.size := fun a h => ⟨by have := (hr.at h).1; omega, (hr.at h).2⟩
  refine cells_k (b := b) fun q c' w5 hx5 hq => ?_
  replace hS := hS.to hx5
  replace hr := hr.ext hx5 fun _ _ h => h
  have ap1 : Apart q p := fun a1 a2 h1 h2 e => by
    have := (hq.at h1).1
    have := hlp a2 h2
    omega
  have h45 := hx5.size
  refine asT_i rfl rfl (asS_i rfl (asI_i rfl (lv_i ?_)))
  refine hS.ld0 1 rfl rfl (asI_i rfl (hS.ld 1 rfl rfl (asI_i rfl ?_)))
  refine rcell_k hx hy fun w6 hx6 => ?_
  replace hS := hS.to hx6
  replace hr := hr.ext hx6 fun _ _ h => h
  replace hq := hq.ext hx6 fun _ _ h => h
  have h56 := hx6.size
  refine asT_i (l := [.agg (pv (gcellP s x y)).toArray, .int .i64 (gcellE s x y)]) rfl rfl (asA_i (l := pv (gcellP s x y)) rfl rfl (asI_i rfl (asI_i rfl (asI_i rfl ?_))))
  have hS6 := St.start w6
  refine hS6.nw (cs := [.int .i64 0, .int .i64 0]) fun r58 w7 hS6 => ?_
  refine hS6.st0 0 rfl rfl rfl fun w8 hS6 => hS6.st 0 rfl rfl rfl fun w9 hS6 => lv_i ?_
  have hx9 := hS6.ext
  replace hS := hS.to hx9
  replace hr := hr.ext hx9 fun _ _ h => h
  replace hq := hq.ext hx9 fun _ _ h => h
  have h69 := hx9.size
  refine hS.ld0 0 rfl rfl (asI_i rfl (hS.ld 0 rfl rfl (asI_i rfl (hS.ld 0 rfl rfl (asI_i rfl ?_)))))
  refine rcells_k (b := b) fun r c'' w10 hx10 hw => ?_
  replace hS := hS.to hx10
  replace hS6 := hS6.to hx10
  replace hr := hr.ext hx10 fun _ _ h => h
  replace hq := hq.ext hx10 fun _ _ h => h
  have ap2 : Apart r p := fun a1 a2 h1 h2 e => by
    have := (hw.at h1).1
    have := hlp a2 h2
    omega
  refine asT_i rfl rfl (asS_i rfl (asI_i rfl (lv_i ?_)))
  have hok := cells_okc (s := s) (b := b)
  have hll := cells_len (s := s) (b := b)
  have hsm := gcellP_small s x y
  generalize cellsL' s b = lst at *
  generalize gcellP s x y = gp at *
  have hX := hS.ext
  have hsml : ∀ i (h : i < lst.length), lst[i].1.natAbs < 2 ^ 53 ∧ lst[i].2.natAbs < 2 ^ 53 := fun i h => by
    have := hok _ (List.getElem_mem h)
    unfold okc at this
    omega
  refine jn_of (fun t w' => t = [.bool false] ∧ Ext no w10 w') ?_ ?_
  rotate_left
  · intro J hJ
    refine cond_f rfl ?_
    refine hS6.ld0 0 rfl rfl (asI_i rfl (hS6.ld 0 rfl rfl (asI_i rfl ?_)))
    refine lcell_k (p := gp) fun w11 hx11 => asC_i rfl (cond_f (same_cell hsm) (cond_f (by simp) (cond_f (by simp) (cond_f (by simp) (hJ _ _ ⟨?_, hx11⟩)))))
    simp
  rintro _ w11 ⟨rfl, hx11⟩
  replace hr := hr.ext hx11 fun _ _ h => h
  replace hq := hq.ext hx11 fun _ _ h => h
  replace hw := hw.ext hx11 fun _ _ h => h
  replace hX := hX.trans hx11
  clear hS hS6 hx11
  refine asB_i rfl (cond_f rfl (lv_i ?_))
  refine lp_mk (fun i : Nat => [.int .i64 (i : Int)])
    (fun m i w' => m = lst.length - i ∧ i ≤ lst.length ∧ Ext no W w' ∧ (∃ vs, Row w' w3.heap.size 49 p c vs ∧ vs.length = lst.length ∧ ∀ j, i ≤ j → vs[j]? = (lst.map cv)[j]?) ∧ Row w' w4.heap.size 49 q c' (lst.map cv) ∧ RowN w' w9.heap.size 55 2 r c'' lst.length (lst.flatMap pv)) lst.length 0 rfl
    ⟨rfl, Nat.zero_le _, hX, ⟨_, hr, by simp, fun _ _ => rfl⟩, hq, hw⟩ ?_
  clear hr hq hw hX
  rintro _ i w12 ⟨rfl, hi, hX, ⟨vs, hr, hvl, hvs⟩, hq, hw⟩ J hJ
  refine asI_i rfl (cond_split (fun hc => ?_) (fun hc => ?_))
  · have hil : i < lst.length := by
      have := of_decide_eq_true hc
      omega
    have ei : IntKind.wrap .i64 ((i : Int) + 1) = ((i + 1 : Nat) : Int) := by rw [wr64 (by omega) (by omega)]; omega
    have hxd := Ext.drew w12
    have hvi : vs[i]? = some (cv lst[i]) := by rw [hvs i (Nat.le_refl _)]; simp [hil]
    have hli : lst[i]? = some lst[i] := List.getElem?_eq_getElem hil
    have hsi := hsml i hil
    generalize lst[i] = lp at *
    refine dw_mk ?_
    have hrd := hr.ext hxd fun _ _ h => h
    rw [ei, Int.toNat_natCast]
    refine hrd.reads.at1 hvl hvi fun a ha hca => ld_mk hca (asC_i rfl ?_)
    refine pair_at (hw.ext hxd fun _ _ h => h).reads rfl hli fun w13 hx13 => asC_i rfl ?_
    have hr13 := hrd.ext hx13 fun _ _ h => h
    have hca13 : w13.cell? (Addr.add a (i * 1)) = some (cv lp) := by
      have := hr13.reads
      rw [ha] at this
      exact this.cell1 hvi
    refine hd_i hca13 (cond_f (same_cell hsi) ?_)
    have hx0 : Ext no w12 w13 := hxd.trans hx13
    refine hr13.st (i := (i : Int)) (n := lst.length) (u := .complex .f64 4636666922610458624 0) (by omega) (by simp; omega) (by omega) rfl ?_
    intro w14 hr14 hx14 _
    have hXp : Ext no W w14 := (hX.trans hx0).then hx14 fun k _ ⟨a2, ha2, hk⟩ => by
      have := (hlp a2 ha2).1
      omega
    refine lv_i (hJ (lst.length - (i + 1)) (i + 1) w14 (by omega) ⟨rfl, hil, hXp, ⟨_, hr14, by simpa using hvl, fun j hj => ?_⟩, (hq.ext hx0 fun _ _ h => h).keep hx14 ap1, (hw.ext hx0 fun _ _ h => h).keep hx14 ap2⟩)
    rw [List.getElem?_set_ne (by simp; omega)]
    exact hvs j (by omega)
  · refine lv_i ?_
    clear hJ hr hvl hvs hc vs
    refine lp_mk (fun i : Nat => [.int .i64 (i : Int)])
      (fun m i w' => m = lst.length - i ∧ i ≤ lst.length ∧ Ext no W w' ∧ Row w' w4.heap.size 49 q c' (lst.map cv) ∧ RowN w' w9.heap.size 55 2 r c'' lst.length (lst.flatMap pv)) lst.length 0 rfl
      ⟨rfl, Nat.zero_le _, hX, hq, hw⟩ ?_
    clear hX hq hw
    rintro _ j w13 ⟨rfl, hj, hX, hq, hw⟩ J hJ
    refine asI_i rfl (cond_split (fun hc => ?_) (fun _ => ⟨rfl, hX⟩))
    have hjl : j < lst.length := by
      have := of_decide_eq_true hc
      omega
    have ej : IntKind.wrap .i64 ((j : Int) + 1) = ((j + 1 : Nat) : Int) := by rw [wr64 (by omega) (by omega)]; omega
    have hxd := Ext.drew w13
    have hvi : (lst.map cv)[j]? = some (cv lst[j]) := by simp [hjl]
    have hli : lst[j]? = some lst[j] := List.getElem?_eq_getElem hjl
    have hsi := hsml j hjl
    generalize lst[j] = lp at *
    refine dw_mk ?_
    have hrd := hq.ext hxd fun _ _ h => h
    rw [ej, Int.toNat_natCast]
    refine hrd.reads.at1 (by simp) hvi fun a ha hca => ld_mk hca (asC_i rfl ?_)
    refine pair_at (hw.ext hxd fun _ _ h => h).reads rfl hli fun w14 hx14 => asC_i rfl ?_
    have hr14 := hrd.ext hx14 fun _ _ h => h
    have hca14 : w14.cell? (Addr.add a (j * 1)) = some (cv lp) := by
      have := hr14.reads
      rw [ha] at this
      exact this.cell1 hvi
    have hx0 : Ext no w13 w14 := hxd.trans hx14
    exact hd_i hca14 (cond_f (same_cell hsi) (lv_i (hJ (lst.length - (j + 1)) (j + 1) w14 (by omega) ⟨rfl, hjl, hX.trans hx0, hq.ext hx0 fun _ _ h => h, hw.ext hx0 fun _ _ h => h⟩)))
end Go.Proofs.Ytamobmjfdiecbaa
