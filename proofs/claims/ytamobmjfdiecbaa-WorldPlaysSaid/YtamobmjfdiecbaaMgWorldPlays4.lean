/- GrF: boxes are taken out of the grid; the grid's own calls New, Put, Move, Drop, as contracts over lists of numbers and boxes. Conditions: those of each theorem, on its arguments. -/
import Derived.Test.YtamobmjfdiecbaaMgWorldPlays3
import Derived.Test.YtamobmjfdiecbaaMgWorldPlays1
import Derived.SizedLaws
import Derived.ChangeSlices
import Derived.Deep.Grids
import Derived.WalkKit
import Derived.ProofKit
import Derived.OpenShut
import Derived.ShutString
import Derived.ChangeOld
import Derived.Below
import Derived.Deep.Slices
import Derived.DataReads
import Derived.Test.YtamobmjfdiecbaaChecked
import Derived.DeepKeys
namespace Go.Proofs.Ytamobmjfdiecbaa
open Go Go.Sx Go.Fp
attribute [local irreducible] jn lv ld st nw asI asB asP asS asY asM asF asA asT lp rn ru rq cl dw dr bnd bn2 nz nn hd hr so eqW
attribute [local irreducible] callOk

theorem mem_rowC {x y a b : Int} {n : Nat} : (a, b) ∈ rowC x y n ↔ b = y ∧ x ≤ a ∧ a < x + n := by
  unfold rowC
  simp only [List.mem_map, List.mem_range, Prod.mk.injEq]
  constructor
  · rintro ⟨i, hi, rfl, rfl⟩
    omega
  · rintro ⟨rfl, h1, h2⟩
    exact ⟨(a - x).toNat, by omega, by omega, rfl⟩

theorem mem_rowsC {x y a b : Int} {n t : Nat} : (a, b) ∈ rowsC x y n t ↔ (x ≤ a ∧ a < x + n) ∧ (y ≤ b ∧ b < y + t) := by
  unfold rowsC
  simp only [List.mem_flatMap, List.mem_range, mem_rowC]
  constructor
  · rintro ⟨j, hj, rfl, h1, h2⟩
    omega
  · rintro ⟨h1, h2, h3⟩
    exact ⟨(b - y).toNat, by omega, by omega, h1⟩

theorem cellsE_zero {s : Int} {b : Bx} (h : cellsE s b = 0) : sideOk s = true ∧ b.right = true ∧ (spanOf s b).ok = true ∧ (spanOf s b).wide * (spanOf s b).tall ≤ 1024 := by
  unfold cellsE at h
  split at h
  · rename_i h1
    split at h
    · rename_i h2
      split at h
      · rename_i h3
        split at h
        · cases h
        · exact ⟨h1, h2, h3, by omega⟩
      · cases h
    · cases h
  · cases h

theorem mem_cells {s : Int} {b : Bx} {p : Int × Int} : p ∈ cellsL' s b ↔ cellsE s b = 0 ∧ ((spanOf s b).lx ≤ p.1 ∧ p.1 ≤ (spanOf s b).hx) ∧ ((spanOf s b).ly ≤ p.2 ∧ p.2 ≤ (spanOf s b).hy) := by
  obtain ⟨a, c⟩ := p
  unfold cellsL'
  split
  · rename_i h
    obtain ⟨h1, h2, h3, h4⟩ := cellsE_zero h
    have hs : 1 ≤ s ∧ s ≤ 1099511627776 := by simpa [sideOk] using h1
    have hle := span_le hs.1 h2
    rw [mem_rowsC]
    unfold Span.wide Span.tall
    simp only [h, true_and]
    omega
  · rename_i h
    simp [h]

theorem cells_okc {s : Int} {b : Bx} : ∀ x ∈ cellsL' s b, okc x := by
  intro x hx
  obtain ⟨h, h1, h2⟩ := mem_cells.1 hx
  obtain ⟨_, _, h3, _⟩ := cellsE_zero h
  unfold Span.ok at h3
  rw [Bool.and_eq_true, isCell_iff, isCell_iff] at h3
  unfold okc
  omega

theorem cells_len {s : Int} {b : Bx} : (cellsL' s b).length ≤ 1024 := by
  unfold cellsL'
  split
  · rename_i h
    obtain ⟨h1, h2, _, h4⟩ := cellsE_zero h
    have hs : 1 ≤ s ∧ s ≤ 1099511627776 := by simpa [sideOk] using h1
    have hle := span_le hs.1 h2
    rw [rowsC_length]
    have e1 : 0 ≤ (spanOf s b).tall := by unfold Span.tall; omega
    have e2 : 0 ≤ (spanOf s b).wide := by unfold Span.wide; omega
    have e3 : (((spanOf s b).tall.toNat * (spanOf s b).wide.toNat : Nat) : Int) = (spanOf s b).wide * (spanOf s b).tall := by
      rw [Int.natCast_mul, Int.toNat_of_nonneg e1, Int.toNat_of_nonneg e2, Int.mul_comm]
    omega
  · simp

def dropC (D : List ((Int × Int) × List Int)) (c : Int × Int) (id : Int) : List ((Int × Int) × List Int) :=
  if less ((aget D c).getD []) id = [] then adel (aset D c (less ((aget D c).getD []) id)) c else aset D c (less ((aget D c).getD []) id)
def dropL (D : List ((Int × Int) × List Int)) (l : List (Int × Int)) (id : Int) : List ((Int × Int) × List Int) := l.foldl (fun D c => dropC D c id) D

theorem less_len (ids : List Int) (id : Int) : (less ids id).length ≤ ids.length := List.length_filter_le _ _

/-- one number out of one cell -/
theorem gdrop_cell {w : World} {F : Nat → Prop} {g mb mc r1 : Nat} {s : Int} {B : List (Int × Bx)} {C : List ((Int × Int) × CellV)} {bb : List Nat} {kb : Nat} {bc : List Nat} {kc : Nat}
    (h : Gr w F g mb mc s B C bb kb bc kc) {c : Int × Int} (hc : okc c) {id : Int} (hr1 : w.cell? ⟨r1, 0, none⟩ = some (.int .i64 id)) (hn1 : ¬ F r1) (hlen : ((aget (pl C) c).getD []).length ≤ 1099511627776) {K : World → Prop}
    (hK : ∀ w' C' bc' kc', Gr w' F g mb mc s B C' bb kb bc' kc' → pl C' = dropC (pl C) c id → Ext F w w' → w'.heap.size = w.heap.size → K w') :
    (rq Try.prog (Instr.lookup 115 (.map (some mc)) (cv c) false) w fun v39 => asS v39 fun p40 n41 c42 => (cl Try.prog 78 #[(.slice p40 n41 c42), (.func (.func 79) #[] #[(.pointer (some (⟨r1, 0, none⟩ : Addr)))])] w fun v43 w44 => asS v43 fun p45 n46 c47 => 
(dr (some ⟨g, 0, none⟩) fun a48 => (ld w44 (Addr.add a48 2) fun v49 => asM v49 fun r50 => (ru Try.prog (Instr.mapUpdate 115 (.map r50) (cv c) (.slice p45 n46 c47)) w44 fun w51 => 
(cond ((n46 : Int) == (0 : Int)) (dr (some ⟨g, 0, none⟩) fun a52 => (ld w51 (Addr.add a52 2) fun v53 => asM v53 fun r54 => (rn Try.prog (Builtin.delete_ #[115, 49] 0 #[(.map r54), (cv c)]) w51 fun v55 w56 => (K w56)))) (K w51))))))) := by
  obtain ⟨hrow, hfp, hap⟩ := h.getRow c
  have hlk := h.cm.lookup keyC und_mc zero_ints c ⟨hc, h.ok⟩
  have e1 : (Option.map cval (aget C c)).getD (cval nilV) = cval ((aget C c).getD nilV) := by cases aget C c <;> rfl
  rw [e1] at hlk
  rw [pl_get] at hlen
  have hgd : (aget (pl C) c).getD [] = ((aget C c).getD nilV).2.2 := pl_get C c
  generalize (aget C c).getD nilV = v at *
  refine rq_mk hlk (asS_i rfl ?_)
  refine delFunc_k hrow (by omega) hr1 (fun q hq e => hn1 (by have := (hfp q hq).1; rw [e] at this; exact this)) ?_
  intro w1 hr hx1 hz1
  have hpres : ∀ k, k = g ∨ k = mb ∨ k = mc → ¬ blocks v.1 k := by
    rintro k hk ⟨a, ha, rfl⟩
    have := hfp a ha
    omega
  have hX1 : Ext F w w1 := hx1.mono fun k _ ⟨a, ha, hab⟩ => hab ▸ (hfp a ha).1
  have hcm1 : Mp w1 mc cv cval C bc kc := h.cm.ext hx1 (hpres _ (.inr (.inr rfl)))
  have hld : w1.cell? (Addr.add ⟨g, 0, none⟩ 2) = some (.map (some mc)) := by
    rw [add_mk, blk_cell (hx1.blk h.hd (hpres _ (.inl rfl)))]; rfl
  refine asS_i rfl (dr_i (ld_mk hld (asM_i rfl ?_)))
  have hcv : (.slice v.1 (less v.2.2 id).length v.2.1 : Value) = cval (v.1, v.2.1, less v.2.2 id) := rfl
  rw [hcv]
  refine hcm1.update keyC und_mc c ⟨hc, h.ok⟩ (v.1, v.2.1, less v.2.2 id) ?_
  intro w2 bc2 kc2 hcm2 hx2 hz2
  have hX2 : Ext F w w2 := hX1.then hx2 fun k _ hk => by
    have : k = mc := hk
    rw [this]; exact h.fp.2.2.1
  have h2 : Gr w2 F g mb mc s B (aset C c (v.1, v.2.1, less v.2.2 id)) bb kb bc2 kc2 := by
    refine ⟨?_, ?_, hcm2, ?_, nodup_aset h.nd, ?_, ?_, h.ne, ?_, ?_, fun k hk => Nat.lt_of_lt_of_le (h.lt k hk) hX2.size⟩
    · exact hx2.blk (hx1.blk h.hd (hpres _ (.inl rfl))) h.ne.2.1
    · exact (h.bm.ext hx1 (hpres _ (.inr (.inl rfl)))).ext hx2 h.ne.2.2
    · intro x hx
      rcases mem_aset h.nd hx with rfl | ⟨hx, _⟩
      · exact hc
      · exact h.ok x hx
    · intro x hx
      rcases mem_aset h.nd hx with rfl | ⟨hx, hne⟩
      · exact hr.ext hx2 fun a ha e => (hfp a ha).2.2.2 e
      · exact ((h.row x hx).keep hx1 (hap x hx hne)).ext hx2 fun a ha e => (h.rne x hx a ha).2.2 e
    · exact pairwise_aset h.ap h.nd fun x hx hne => ⟨hap x hx hne, (hap x hx hne).symm⟩
    · intro x hx
      rcases mem_aset h.nd hx with rfl | ⟨hx, _⟩
      · exact fun a ha => (hfp a ha).2
      · exact h.rne x hx
    · refine ⟨h.fp.1, h.fp.2.1, h.fp.2.2.1, fun x hx => ?_⟩
      rcases mem_aset h.nd hx with rfl | ⟨hx, _⟩
      · exact fun a ha => (hfp a ha).1
      · exact h.fp.2.2.2 x hx
  have hp2 : pl (aset C c (v.1, v.2.1, less v.2.2 id)) = aset (pl C) c (less v.2.2 id) := map_aset (f := fun v : CellV => v.2.2)
  refine cond_split (fun h0 => ?_) (fun h0 => ?_)
  · have h0' : less v.2.2 id = [] := List.eq_nil_of_length_eq_zero (by
      have h0'' : ((less v.2.2 id).length : Int) = 0 := by simpa using h0
      omega)
    refine dr_i (ld_mk h2.ld2 (asM_i rfl (hcm2.delete keyC und_mc c ⟨hc, h2.ok⟩ ?_)))
    intro w3 bc3 kc3 hcm3 hx3 hz3
    have hX3 : Ext F w w3 := hX2.then hx3 fun k _ hk => by
      have : k = mc := hk
      rw [this]; exact h.fp.2.2.1
    have hsub := adel_sub (aset C c (v.1, v.2.1, less v.2.2 id)) c
    refine hK w3 (adel (aset C c (v.1, v.2.1, less v.2.2 id)) c) bc3 kc3 ⟨?_, ?_, hcm3, fun x hx => h2.ok x (hsub.subset hx), nodup_adel h2.nd, ?_, h2.ap.sublist hsub, h.ne, fun x hx => h2.rne x (hsub.subset hx), ?_, fun k hk => Nat.lt_of_lt_of_le (h.lt k hk) hX3.size⟩ ?_ hX3 (by omega)
    · exact hx3.blk h2.hd h.ne.2.1
    · exact h2.bm.ext hx3 h.ne.2.2
    · exact fun x hx => (h2.row x (hsub.subset hx)).ext hx3 fun a ha e => (h2.rne x (hsub.subset hx) a ha).2.2 e
    · exact ⟨h.fp.1, h.fp.2.1, h.fp.2.2.1, fun x hx => h2.fp.2.2.2 x (hsub.subset hx)⟩
    · unfold dropC
      rw [hgd, if_pos h0', ← hp2]
      exact map_adel (f := fun v : CellV => v.2.2)
  · have h0' : ¬ less v.2.2 id = [] := by
      intro e
      rw [e] at h0
      simp at h0
    refine hK w2 _ _ _ h2 ?_ hX2 (by omega)
    unfold dropC
    rw [hgd, if_neg h0', hp2]

theorem dropC_len {D : List ((Int × Int) × List Int)} (hn : (D.map (·.1)).Nodup) {c : Int × Int} {id : Int} (d : Int × Int) : ((aget (dropC D c id) d).getD []).length ≤ ((aget D d).getD []).length := by
  have hl := less_len ((aget D c).getD []) id
  unfold dropC
  split
  · rw [aget_adel (nodup_aset hn), aget_aset]
    split
    · simp
    · exact Nat.le_refl _
  · rw [aget_aset]
    split
    · rename_i h
      subst h
      exact hl
    · exact Nat.le_refl _

def boxAt (B : List (Int × Bx)) (id : Int) : Bx := (aget B id).getD ⟨0, 0, 0⟩

theorem gdrop_k {w : World} {F : Nat → Prop} {g mb mc : Nat} {s : Int} {B : List (Int × Bx)} {C : List ((Int × Int) × CellV)} {bb : List Nat} {kb : Nat} {bc : List Nat} {kc : Nat}
    (h : Gr w F g mb mc s B C bb kb bc kc) {id : Int} (hlen : ∀ x, ((aget (pl C) x).getD []).length ≤ 1099511627776) {K : Value → World → Prop}
    (hK : ∀ w' C' bb' kb' bc' kc', Gr w' F g mb mc s (adel B id) C' bb' kb' bc' kc' → pl C' = dropL (pl C) (cellsL' s (boxAt B id)) id → Ext F w w' → K (.tuple #[]) w') :
    cl Try.prog 60 #[.pointer (some ⟨g, 0, none⟩), .int .i64 id] w K := by
  apply F60_calls
  unfold F60
  have hS := St.start w
  (refine St.nw hS ?_; clear hS; intro r1 _ hS)
  refine St.dw hS ?_
  clear hS
  intro w1 hS _
  have h1 := h.ext hS.ext fun _ _ hf => hf
  have hr1 : ¬ F r1 := fun hf => by
    have := h.lt r1 hf
    have := (hS.kn _ (List.mem_cons_self)).2
    simp only at this
    omega
  refine dr_i (ld_mk h1.ld0 (asI_i rfl (dr_i (ld_mk h1.ld1 (asM_i rfl ?_)))))
  repeat (first | (refine asI_i rfl ?_) | (refine asB_i rfl ?_) | (refine asP_i rfl ?_) | (refine asS_i rfl ?_) | (refine asY_i rfl ?_) | (refine asM_i rfl ?_) | (refine asA_i rfl rfl ?_) | (refine asT_i rfl rfl ?_) | (refine lv_i ?_) | (refine St.nw hS ?_; clear hS; intro _ _ hS) | (refine St.dw hS ?_; clear hS; intro _ hS _) | (refine hS.ld0 0 rfl rfl ?_) | (refine hS.ld 0 rfl rfl ?_) | (refine hS.ld0 1 rfl rfl ?_) | (refine hS.ld 1 rfl rfl ?_) | (refine hS.ld0 2 rfl rfl ?_) | (refine hS.ld 2 rfl rfl ?_) | (refine hS.ld0 3 rfl rfl ?_) | (refine hS.ld 3 rfl rfl ?_) | (refine hS.ld0 4 rfl rfl ?_) | (refine hS.ld 4 rfl rfl ?_) | (refine hS.ld0 5 rfl rfl ?_) | (refine hS.ld 5 rfl rfl ?_) | (refine hS.ld0 6 rfl rfl ?_) | (refine hS.ld 6 rfl rfl ?_) | (refine hS.ld0 7 rfl rfl ?_) | (refine hS.ld 7 rfl rfl ?_) | (refine hS.hd0 0 rfl rfl ?_) | (refine hS.hd 0 rfl rfl ?_) | (refine hS.hd0 1 rfl rfl ?_) | (refine hS.hd 1 rfl rfl ?_) | (refine hS.hd0 2 rfl rfl ?_) | (refine hS.hd 2 rfl rfl ?_) | (refine hS.hd0 3 rfl rfl ?_) | (refine hS.hd 3 rfl rfl ?_) | (refine hS.hd0 4 rfl rfl ?_) | (refine hS.hd 4 rfl rfl ?_) | (refine hS.hd0 5 rfl rfl ?_) | (refine hS.hd 5 rfl rfl ?_) | (refine hS.hd0 6 rfl rfl ?_) | (refine hS.hd 6 rfl rfl ?_) | (refine hS.hd0 7 rfl rfl ?_) | (refine hS.hd 7 rfl rfl ?_) | (refine hS.st0 0 rfl rfl rfl ?_; clear hS; intro _ hS) | (refine hS.st 0 rfl rfl rfl ?_; clear hS; intro _ hS) | (refine hS.st0 1 rfl rfl rfl ?_; clear hS; intro _ hS) | (refine hS.st 1 rfl rfl rfl ?_; clear hS; intro _ hS) | (refine hS.st0 2 rfl rfl rfl ?_; clear hS; intro _ hS) | (refine hS.st 2 rfl rfl rfl ?_; clear hS; intro _ hS) | (refine hS.st0 3 rfl rfl rfl ?_; clear hS; intro _ hS) | (refine hS.st 3 rfl rfl rfl ?_; clear hS; intro _ hS) | (refine hS.st0 4 rfl rfl rfl ?_; clear hS; intro _ hS) | (refine hS.st 4 rfl rfl rfl ?_; clear hS; intro _ hS) | (refine hS.st0 5 rfl rfl rfl ?_; clear hS; intro _ hS) | (refine hS.st 5 rfl rfl rfl ?_; clear hS; intro _ hS) | (refine hS.st0 6 rfl rfl rfl ?_; clear hS; intro _ hS) | (refine hS.st 6 rfl rfl rfl ?_; clear hS; intro _ hS) | (refine hS.st0 7 rfl rfl rfl ?_; clear hS; intro _ hS) | (refine hS.st 7 rfl rfl rfl ?_; clear hS; intro _ hS) | (refine bnd_mk (by decide) (by decide) ?_) | (refine so_i rfl ?_))
  have hlk := h1.bm.lookup keyI und_mb zero_box id ⟨trivial, fun _ _ => trivial⟩
  have e1 : (Option.map Bx.v (aget B id)).getD (Bx.v ⟨0, 0, 0⟩) = (boxAt B id).v := by unfold boxAt; cases aget B id <;> rfl
  rw [e1] at hlk
  refine rq_mk hlk (asA_i (l := (boxAt B id).cells) rfl rfl (asI_i rfl (asI_i rfl (asI_i rfl ?_))))
  show cl Try.prog 24 #[.int .i64 s, (boxAt B id).v] w1 _
  refine cells_k ?_
  intro p c w2 hx2 hrow2
  have h2 := h1.ext hx2 fun _ _ hf => hf
  have hS2 := hS.to hx2
  refine asT_i rfl rfl (asS_i rfl (asI_i rfl (hS2.hd0 0 rfl rfl (hd_i h2.ld1 (lv_i ?_)))))
  have hX2 : Ext F w w2 := Ext.of_no hS2.ext
  generalize hlst : cellsL' s (boxAt B id) = lst at *
  have hok : ∀ x ∈ lst, okc x := by rw [← hlst]; exact cells_okc
  have hll : lst.length ≤ 1024 := by rw [← hlst]; exact cells_len
  have hpF : ∀ a, p = some a → ¬ F a.block := fun a ha hf => by
    have := h1.lt _ hf
    have := (hrow2.at ha).1
    omega
  have hcell2 : w2.cell? ⟨r1, 0, none⟩ = some (.int .i64 id) := hS2.cell 0 rfl rfl
  refine lp_mk (fun i : Nat => [.int .i64 (i : Int)])
    (fun m i w' => m = lst.length - i ∧ i ≤ lst.length ∧ Ext F w2 w' ∧ ∃ C' bc' kc', Gr w' F g mb mc s B C' bb kb bc' kc' ∧ pl C' = dropL (pl C) (lst.take i) id ∧ (∀ x, ((aget (pl C') x).getD []).length ≤ 1099511627776)) lst.length 0 rfl
    ⟨rfl, Nat.zero_le _, Ext.refl _ _, C, bc, kc, h2, rfl, hlen⟩ ?_
  rintro _ i w3 ⟨rfl, hi, hx3, C', bc', kc', h3, hpl, hb3⟩ J hJ
  refine asI_i rfl (cond_split (fun hc => ?_) (fun hc => ?_))
  · have hil : i < lst.length := by
      have := of_decide_eq_true hc
      omega
    refine jn_of (fun s' w' => Ext F w2 w' ∧ ∃ C' bc' kc', Gr w' F g mb mc s B C' bb kb bc' kc' ∧ pl C' = dropL (pl C) (lst.take (i + 1)) id ∧ (∀ x, ((aget (pl C') x).getD []).length ≤ 1099511627776)) ?_ ?_
    · rintro _ w4 ⟨hx4, C4, bc4, kc4, h4, hpl4, hb4⟩
      have ei : IntKind.wrap .i64 ((i : Int) + 1) = ((i + 1 : Nat) : Int) := by rw [wr64 (by omega) (by omega)]; omega
      rw [ei]
      exact hJ (lst.length - (i + 1)) (i + 1) w4 (by omega) ⟨rfl, hil, hx4, C4, bc4, kc4, h4, hpl4, hb4⟩
    · intro J2 hJ2
      have hr3 : Reads w3 p (lst.map cv) := hrow2.reads.ext hx3 hpF
      refine hr3.at (i := (i : Int)) (by omega) (v := cv lst[i]) (by simp [hil]) ?_ (by simp)
      refine asC_i rfl (dr_i (ld_mk h3.ld2 (asM_i rfl ?_)))
      have hcell3 : w3.cell? ⟨r1, 0, none⟩ = some (.int .i64 id) := hx3.cell hcell2 hr1
      refine gdrop_cell h3 (hok lst[i] (List.getElem_mem hil)) hcell3 hr1 (hb3 _) ?_
      intro w4 C4 bc4 kc4 h4 hpl4 hx4 hz4
      refine hJ2 _ _ ⟨hx3.trans hx4, C4, bc4, kc4, h4, ?_, fun x => ?_⟩
      · rw [hpl4, hpl, List.take_add_one, List.getElem?_eq_getElem hil]
        unfold dropL
        rw [List.foldl_append]
        rfl
      · rw [hpl4]
        have hnd : ((pl C').map (·.1)).Nodup := by
          have := h3.nd
          unfold pl
          simpa [List.map_map, Function.comp_def] using this
        exact Nat.le_trans (dropC_len hnd x) (hb3 x)
  · have hil : i = lst.length := by
      have := of_decide_eq_false hc
      omega
    subst hil
    rw [List.take_length] at hpl
    refine dw_mk ?_
    have h4 := h3.ext (Ext.drew w3) fun _ _ hf => hf
    have hcell4 : w3.drew.cell? ⟨r1, 0, none⟩ = some (.int .i64 id) := hx3.cell hcell2 hr1
    refine dr_i (ld_mk h4.ld1 (asM_i rfl (ld_mk hcell4 (asI_i rfl ?_))))
    refine h4.bm.delete keyI und_mb id ⟨trivial, fun _ _ => trivial⟩ ?_
    intro w5 bb5 kb5 hbm5 hx5 hz5
    refine hK w5 C' bb5 kb5 bc' kc' ⟨hx5.blk h4.hd h.ne.1, hbm5, h4.cm.ext hx5 (fun e => h.ne.2.2 e.symm), h4.ok, h4.nd, fun x hx => (h4.row x hx).ext hx5 fun a ha e => (h4.rne x hx a ha).2.1 e, h4.ap, h4.ne, h4.rne, h4.fp, fun k hk => Nat.lt_of_lt_of_le (h4.lt k hk) hx5.size⟩ hpl ?_
    refine ((hX2.trans hx3).trans (Ext.of_no (Ext.drew w3))).then hx5 fun k _ hk => ?_
    have : k = mb := hk
    rw [this]; exact h.fp.2.1
end Go.Proofs.Ytamobmjfdiecbaa

/- GrG: the grid's own calls New, Put, Move, Drop, Count, as contracts over lists of numbers and boxes. Conditions: those of each theorem, on its arguments. -/
namespace Go.Proofs.Ytamobmjfdiecbaa
open Go Go.Sx Go.Fp
attribute [local irreducible] jn lv ld st nw asI asB asP asS asY asM asF asA asT lp rn ru rq cl dw dr bnd bn2 nz nn hd hr so eqW
attribute [local irreducible] callOk

theorem gnew_k {s : Int} {w : World} {K : Value → World → Prop} (hbad : sideOk s = false → K (.tuple #[.pointer none, .int .i64 1]) w)
    (hK : ∀ w' F g mb mc, sideOk s = true → Gr w' F g mb mc s [] [] [] 0 [] 0 → Ext no w w' → (∀ k, F k → w.heap.size ≤ k) → K (.tuple #[.pointer (some ⟨g, 0, none⟩), .int .i64 0]) w') :
    cl Try.prog 29 #[.int .i64 s] w K := by
  apply F29_calls
  unfold F29
  refine lv_i (side_k (asB_i rfl (cond_split (fun h => lv_i (hbad (by simpa using h))) (fun h => ?_))))
  refine make_map (α := Int) (β := Bx) (enc := ki) (val := Bx.v) und_mb ?_
  intro w1 hb1 hx1 hz1
  refine asM_i rfl (make_map (α := Int × Int) (β := CellV) (enc := cv) (val := cval) und_mc ?_)
  intro w2 hc2 hx2 hz2
  refine asM_i rfl (nw_mk (lv_i ?_))
  have hx3 := Ext.alloc w2 (.cells #[.int .i64 s, .map (some w.heap.size), .map (some w1.heap.size)] 117)
  have hX : Ext no w (w2.alloc (.cells #[.int .i64 s, .map (some w.heap.size), .map (some w1.heap.size)] 117)) := (hx1.trans hx2).trans hx3
  have hsz := new_size w2 (.cells #[.int .i64 s, .map (some w.heap.size), .map (some w1.heap.size)] 117)
  refine hK _ (fun k => k = w2.heap.size ∨ k = w.heap.size ∨ k = w1.heap.size) w2.heap.size w.heap.size w1.heap.size (by simpa using h) ⟨new_blk w2 _, (hb1.ext hx2 fun h => h).ext hx3 fun h => h, hc2.ext hx3 fun h => h, by simp, by simp, by simp, List.Pairwise.nil, ⟨by omega, by omega, by omega⟩, by simp, ⟨.inl rfl, .inr (.inl rfl), .inr (.inr rfl), by simp⟩, ?_⟩ hX ?_
  · rintro k (rfl | rfl | rfl) <;> omega
  · rintro k (rfl | rfl | rfl) <;> omega

def gputE (s : Int) (B : List (Int × Bx)) (id : Int) (b : Bx) : Int := if id < 0 then 1 else if (aget B id).isSome = true then 180 else cellsE s b
def gputB (s : Int) (B : List (Int × Bx)) (id : Int) (b : Bx) : List (Int × Bx) := if gputE s B id b = 0 then aset B id b else B
def gputD (s : Int) (B : List (Int × Bx)) (D : List ((Int × Int) × List Int)) (id : Int) (b : Bx) : List ((Int × Int) × List Int) := if gputE s B id b = 0 then putL D (cellsL' s b) id else D

theorem gPut_k {w : World} {F : Nat → Prop} {g mb mc : Nat} {s : Int} {B : List (Int × Bx)} {C : List ((Int × Int) × CellV)} {bb : List Nat} {kb : Nat} {bc : List Nat} {kc : Nat}
    (h : Gr w F g mb mc s B C bb kb bc kc) {id : Int} {b : Bx} (hlen : ∀ x, ((aget (pl C) x).getD []).length + 1024 ≤ 1099511627776) {K : Value → World → Prop}
    (hK : ∀ w' F' C' bb' kb' bc' kc', Gr w' F' g mb mc s (gputB s B id b) C' bb' kb' bc' kc' → pl C' = gputD s B (pl C) id b → Ext F w w' → (∀ k, F' k → F k ∨ w.heap.size ≤ k) → (∀ k, F k → F' k) → K (.int .i64 (gputE s B id b)) w') :
    cl Try.prog 30 #[.pointer (some ⟨g, 0, none⟩), .int .i64 id, b.v] w K := by
  have bad : gputE s B id b ≠ 0 → ∀ e, gputE s B id b = e → ∀ w', Ext no w w' → K (.int .i64 e) w' := by
    intro h0 e he w' hx
    have := hK w' F C bb kb bc kc (by unfold gputB; rw [if_neg h0]; exact h.ext hx fun _ _ hf => hf) (by unfold gputD; rw [if_neg h0]) (Ext.of_no hx) (fun k hk => .inl hk) (fun k hk => hk)
    rw [he] at this
    exact this
  apply F30_calls
  unfold F30
  have hS := St.start w
  (refine St.nw hS ?_; clear hS; intro r1 _ hS)
  refine lv_i (cond_split (fun h0 => ?_) (fun h0 => ?_))
  · have e : gputE s B id b = 1 := by unfold gputE; rw [if_pos (of_decide_eq_true h0)]
    exact lv_i (bad (by rw [e]; decide) 1 e _ hS.ext)
  have hid : ¬ id < 0 := of_decide_eq_false h0
  have h1 := h.ext hS.ext fun _ _ hf => hf
  refine dr_i (ld_mk h1.ld1 (asM_i rfl ?_))
  have hlk := h1.bm.lookup_ok keyI und_mb zero_box id ⟨trivial, fun _ _ => trivial⟩
  have e1 : (Option.map Bx.v (aget B id)).getD (Bx.v ⟨0, 0, 0⟩) = (boxAt B id).v := by unfold boxAt; cases aget B id <;> rfl
  rw [e1] at hlk
  refine rq_mk hlk (asT_i (l := [(boxAt B id).v, .bool (aget B id).isSome]) rfl rfl (asA_i (l := (boxAt B id).cells) rfl rfl ?_))
  repeat (first | (refine asI_i rfl ?_) | (refine asB_i rfl ?_) | (refine asP_i rfl ?_) | (refine asS_i rfl ?_) | (refine asY_i rfl ?_) | (refine asM_i rfl ?_) | (refine asA_i rfl rfl ?_) | (refine asT_i rfl rfl ?_) | (refine lv_i ?_) | (refine St.nw hS ?_; clear hS; intro _ _ hS) | (refine St.dw hS ?_; clear hS; intro _ hS _) | (refine hS.ld0 0 rfl rfl ?_) | (refine hS.ld 0 rfl rfl ?_) | (refine hS.ld0 1 rfl rfl ?_) | (refine hS.ld 1 rfl rfl ?_) | (refine hS.ld0 2 rfl rfl ?_) | (refine hS.ld 2 rfl rfl ?_) | (refine hS.ld0 3 rfl rfl ?_) | (refine hS.ld 3 rfl rfl ?_) | (refine hS.ld0 4 rfl rfl ?_) | (refine hS.ld 4 rfl rfl ?_) | (refine hS.ld0 5 rfl rfl ?_) | (refine hS.ld 5 rfl rfl ?_) | (refine hS.ld0 6 rfl rfl ?_) | (refine hS.ld 6 rfl rfl ?_) | (refine hS.ld0 7 rfl rfl ?_) | (refine hS.ld 7 rfl rfl ?_) | (refine hS.hd0 0 rfl rfl ?_) | (refine hS.hd 0 rfl rfl ?_) | (refine hS.hd0 1 rfl rfl ?_) | (refine hS.hd 1 rfl rfl ?_) | (refine hS.hd0 2 rfl rfl ?_) | (refine hS.hd 2 rfl rfl ?_) | (refine hS.hd0 3 rfl rfl ?_) | (refine hS.hd 3 rfl rfl ?_) | (refine hS.hd0 4 rfl rfl ?_) | (refine hS.hd 4 rfl rfl ?_) | (refine hS.hd0 5 rfl rfl ?_) | (refine hS.hd 5 rfl rfl ?_) | (refine hS.hd0 6 rfl rfl ?_) | (refine hS.hd 6 rfl rfl ?_) | (refine hS.hd0 7 rfl rfl ?_) | (refine hS.hd 7 rfl rfl ?_) | (refine hS.st0 0 rfl rfl rfl ?_; clear hS; intro _ hS) | (refine hS.st 0 rfl rfl rfl ?_; clear hS; intro _ hS) | (refine hS.st0 1 rfl rfl rfl ?_; clear hS; intro _ hS) | (refine hS.st 1 rfl rfl rfl ?_; clear hS; intro _ hS) | (refine hS.st0 2 rfl rfl rfl ?_; clear hS; intro _ hS) | (refine hS.st 2 rfl rfl rfl ?_; clear hS; intro _ hS) | (refine hS.st0 3 rfl rfl rfl ?_; clear hS; intro _ hS) | (refine hS.st 3 rfl rfl rfl ?_; clear hS; intro _ hS) | (refine hS.st0 4 rfl rfl rfl ?_; clear hS; intro _ hS) | (refine hS.st 4 rfl rfl rfl ?_; clear hS; intro _ hS) | (refine hS.st0 5 rfl rfl rfl ?_; clear hS; intro _ hS) | (refine hS.st 5 rfl rfl rfl ?_; clear hS; intro _ hS) | (refine hS.st0 6 rfl rfl rfl ?_; clear hS; intro _ hS) | (refine hS.st 6 rfl rfl rfl ?_; clear hS; intro _ hS) | (refine hS.st0 7 rfl rfl rfl ?_; clear hS; intro _ hS) | (refine hS.st 7 rfl rfl rfl ?_; clear hS; intro _ hS) | (refine bnd_mk (by decide) (by decide) ?_) | (refine so_i rfl ?_))
  refine cond_split (fun hs => ?_) (fun hs => ?_)
  · have e : gputE s B id b = 180 := by unfold gputE; rw [if_neg hid, if_pos hs]
    exact lv_i (bad (by rw [e]; decide) 180 e _ hS.ext)
  have hE : gputE s B id b = cellsE s b := by
    unfold gputE
    rw [if_neg hid, if_neg (by rw [hs]; decide)]
  refine St.dw hS ?_
  clear hS h1 hlk
  intro w2 hS _
  have h2 := h.ext hS.ext fun _ _ hf => hf
  refine dr_i (ld_mk h2.ld0 (asI_i rfl ?_))
  repeat (first | (refine asI_i rfl ?_) | (refine asB_i rfl ?_) | (refine asP_i rfl ?_) | (refine asS_i rfl ?_) | (refine asY_i rfl ?_) | (refine asM_i rfl ?_) | (refine asA_i rfl rfl ?_) | (refine asT_i rfl rfl ?_) | (refine lv_i ?_) | (refine St.nw hS ?_; clear hS; intro _ _ hS) | (refine St.dw hS ?_; clear hS; intro _ hS _) | (refine hS.ld0 0 rfl rfl ?_) | (refine hS.ld 0 rfl rfl ?_) | (refine hS.ld0 1 rfl rfl ?_) | (refine hS.ld 1 rfl rfl ?_) | (refine hS.ld0 2 rfl rfl ?_) | (refine hS.ld 2 rfl rfl ?_) | (refine hS.ld0 3 rfl rfl ?_) | (refine hS.ld 3 rfl rfl ?_) | (refine hS.ld0 4 rfl rfl ?_) | (refine hS.ld 4 rfl rfl ?_) | (refine hS.ld0 5 rfl rfl ?_) | (refine hS.ld 5 rfl rfl ?_) | (refine hS.ld0 6 rfl rfl ?_) | (refine hS.ld 6 rfl rfl ?_) | (refine hS.ld0 7 rfl rfl ?_) | (refine hS.ld 7 rfl rfl ?_) | (refine hS.hd0 0 rfl rfl ?_) | (refine hS.hd 0 rfl rfl ?_) | (refine hS.hd0 1 rfl rfl ?_) | (refine hS.hd 1 rfl rfl ?_) | (refine hS.hd0 2 rfl rfl ?_) | (refine hS.hd 2 rfl rfl ?_) | (refine hS.hd0 3 rfl rfl ?_) | (refine hS.hd 3 rfl rfl ?_) | (refine hS.hd0 4 rfl rfl ?_) | (refine hS.hd 4 rfl rfl ?_) | (refine hS.hd0 5 rfl rfl ?_) | (refine hS.hd 5 rfl rfl ?_) | (refine hS.hd0 6 rfl rfl ?_) | (refine hS.hd 6 rfl rfl ?_) | (refine hS.hd0 7 rfl rfl ?_) | (refine hS.hd 7 rfl rfl ?_) | (refine hS.st0 0 rfl rfl rfl ?_; clear hS; intro _ hS) | (refine hS.st 0 rfl rfl rfl ?_; clear hS; intro _ hS) | (refine hS.st0 1 rfl rfl rfl ?_; clear hS; intro _ hS) | (refine hS.st 1 rfl rfl rfl ?_; clear hS; intro _ hS) | (refine hS.st0 2 rfl rfl rfl ?_; clear hS; intro _ hS) | (refine hS.st 2 rfl rfl rfl ?_; clear hS; intro _ hS) | (refine hS.st0 3 rfl rfl rfl ?_; clear hS; intro _ hS) | (refine hS.st 3 rfl rfl rfl ?_; clear hS; intro _ hS) | (refine hS.st0 4 rfl rfl rfl ?_; clear hS; intro _ hS) | (refine hS.st 4 rfl rfl rfl ?_; clear hS; intro _ hS) | (refine hS.st0 5 rfl rfl rfl ?_; clear hS; intro _ hS) | (refine hS.st 5 rfl rfl rfl ?_; clear hS; intro _ hS) | (refine hS.st0 6 rfl rfl rfl ?_; clear hS; intro _ hS) | (refine hS.st 6 rfl rfl rfl ?_; clear hS; intro _ hS) | (refine hS.st0 7 rfl rfl rfl ?_; clear hS; intro _ hS) | (refine hS.st 7 rfl rfl rfl ?_; clear hS; intro _ hS) | (refine bnd_mk (by decide) (by decide) ?_) | (refine so_i rfl ?_))
  show cl Try.prog 24 #[.int .i64 s, b.v] w2 _
  refine cells_k ?_
  intro p c w3 hx3 hrow3
  have hS3 := hS.to hx3
  have h3 := h2.ext hx3 fun _ _ hf => hf
  refine asT_i rfl rfl (asS_i rfl (asI_i rfl (lv_i (cond_split (fun h0 => ?_) (fun h0 => ?_)))))
  · have hne : cellsE s b ≠ 0 := by simpa using h0
    exact lv_i (bad (by rw [hE]; exact hne) _ hE _ hS3.ext)
  · have h00 : cellsE s b = 0 := by simpa using h0
    clear hS
    have hS := hS3
    repeat (first | (refine asI_i rfl ?_) | (refine asB_i rfl ?_) | (refine asP_i rfl ?_) | (refine asS_i rfl ?_) | (refine asY_i rfl ?_) | (refine asM_i rfl ?_) | (refine asA_i rfl rfl ?_) | (refine asT_i rfl rfl ?_) | (refine lv_i ?_) | (refine St.nw hS ?_; clear hS; intro _ _ hS) | (refine St.dw hS ?_; clear hS; intro _ hS _) | (refine hS.ld0 0 rfl rfl ?_) | (refine hS.ld 0 rfl rfl ?_) | (refine hS.ld0 1 rfl rfl ?_) | (refine hS.ld 1 rfl rfl ?_) | (refine hS.ld0 2 rfl rfl ?_) | (refine hS.ld 2 rfl rfl ?_) | (refine hS.ld0 3 rfl rfl ?_) | (refine hS.ld 3 rfl rfl ?_) | (refine hS.ld0 4 rfl rfl ?_) | (refine hS.ld 4 rfl rfl ?_) | (refine hS.ld0 5 rfl rfl ?_) | (refine hS.ld 5 rfl rfl ?_) | (refine hS.ld0 6 rfl rfl ?_) | (refine hS.ld 6 rfl rfl ?_) | (refine hS.ld0 7 rfl rfl ?_) | (refine hS.ld 7 rfl rfl ?_) | (refine hS.hd0 0 rfl rfl ?_) | (refine hS.hd 0 rfl rfl ?_) | (refine hS.hd0 1 rfl rfl ?_) | (refine hS.hd 1 rfl rfl ?_) | (refine hS.hd0 2 rfl rfl ?_) | (refine hS.hd 2 rfl rfl ?_) | (refine hS.hd0 3 rfl rfl ?_) | (refine hS.hd 3 rfl rfl ?_) | (refine hS.hd0 4 rfl rfl ?_) | (refine hS.hd 4 rfl rfl ?_) | (refine hS.hd0 5 rfl rfl ?_) | (refine hS.hd 5 rfl rfl ?_) | (refine hS.hd0 6 rfl rfl ?_) | (refine hS.hd 6 rfl rfl ?_) | (refine hS.hd0 7 rfl rfl ?_) | (refine hS.hd 7 rfl rfl ?_) | (refine hS.st0 0 rfl rfl rfl ?_; clear hS; intro _ hS) | (refine hS.st 0 rfl rfl rfl ?_; clear hS; intro _ hS) | (refine hS.st0 1 rfl rfl rfl ?_; clear hS; intro _ hS) | (refine hS.st 1 rfl rfl rfl ?_; clear hS; intro _ hS) | (refine hS.st0 2 rfl rfl rfl ?_; clear hS; intro _ hS) | (refine hS.st 2 rfl rfl rfl ?_; clear hS; intro _ hS) | (refine hS.st0 3 rfl rfl rfl ?_; clear hS; intro _ hS) | (refine hS.st 3 rfl rfl rfl ?_; clear hS; intro _ hS) | (refine hS.st0 4 rfl rfl rfl ?_; clear hS; intro _ hS) | (refine hS.st 4 rfl rfl rfl ?_; clear hS; intro _ hS) | (refine hS.st0 5 rfl rfl rfl ?_; clear hS; intro _ hS) | (refine hS.st 5 rfl rfl rfl ?_; clear hS; intro _ hS) | (refine hS.st0 6 rfl rfl rfl ?_; clear hS; intro _ hS) | (refine hS.st 6 rfl rfl rfl ?_; clear hS; intro _ hS) | (refine hS.st0 7 rfl rfl rfl ?_; clear hS; intro _ hS) | (refine hS.st 7 rfl rfl rfl ?_; clear hS; intro _ hS) | (refine bnd_mk (by decide) (by decide) ?_) | (refine so_i rfl ?_))
    show cl Try.prog 52 #[.pointer (some ⟨g, 0, none⟩), .int .i64 id, b.v, .slice p (cellsL' s b).length c] w3 _
    have hl := @cells_len s b
    refine gput_k h3 hrow3.reads rfl (by omega) cells_okc (fun a ha hf => ?_) (fun x => ?_) ?_
    · have := h2.lt _ hf
      have := (hrow3.at ha).1
      omega
    · have := hlen x
      omega
    intro w4 F' C' bb' kb' bc' kc' h4 hpl hx4 hF1 hF2
    have hE0 : gputE s B id b = 0 := by rw [hE, h00]
    have := hK w4 F' C' bb' kb' bc' kc' (by unfold gputB; rw [if_pos hE0]; exact h4) (by unfold gputD; rw [if_pos hE0]; exact hpl) ((Ext.of_no hS.ext).trans hx4) (fun k hk => by
      have := hS.ext.size
      rcases hF1 k hk with h | h
      · exact .inl h
      · exact .inr (by omega)) hF2
    rw [hE0] at this
    exact lv_i this

def gmoveE (s : Int) (B : List (Int × Bx)) (id : Int) (b : Bx) : Int := if (aget B id).isSome = true then cellsE s b else 181
def gmoveB (s : Int) (B : List (Int × Bx)) (id : Int) (b : Bx) : List (Int × Bx) := if gmoveE s B id b = 0 then aset (adel B id) id b else B
def gmoveD (s : Int) (B : List (Int × Bx)) (D : List ((Int × Int) × List Int)) (id : Int) (b : Bx) : List ((Int × Int) × List Int) :=
  if gmoveE s B id b = 0 then putL (dropL D (cellsL' s (boxAt B id)) id) (cellsL' s b) id else D

theorem pl_nd {C : List ((Int × Int) × CellV)} (h : (C.map (·.1)).Nodup) : ((pl C).map (·.1)).Nodup := by
  unfold pl
  simpa [List.map_map, Function.comp_def] using h

theorem dropC_nd {D : List ((Int × Int) × List Int)} (hn : (D.map (·.1)).Nodup) {c : Int × Int} {id : Int} : ((dropC D c id).map (·.1)).Nodup := by
  unfold dropC
  split
  · exact nodup_adel (nodup_aset hn)
  · exact nodup_aset hn

theorem dropL_len {l : List (Int × Int)} {id : Int} : ∀ {D : List ((Int × Int) × List Int)}, (D.map (·.1)).Nodup → ∀ x, ((aget (dropL D l id) x).getD []).length ≤ ((aget D x).getD []).length := by
  induction l with
  | nil => intro D _ x; exact Nat.le_refl _
  | cons c l ih =>
    intro D hn x
    exact Nat.le_trans (ih (dropC_nd hn) x) (dropC_len hn x)

theorem gMove_k {w : World} {F : Nat → Prop} {g mb mc : Nat} {s : Int} {B : List (Int × Bx)} {C : List ((Int × Int) × CellV)} {bb : List Nat} {kb : Nat} {bc : List Nat} {kc : Nat}
    (h : Gr w F g mb mc s B C bb kb bc kc) {id : Int} {b : Bx} (hlen : ∀ x, ((aget (pl C) x).getD []).length + 1024 ≤ 1099511627776) {K : Value → World → Prop}
    (hK : ∀ w' F' C' bb' kb' bc' kc', Gr w' F' g mb mc s (gmoveB s B id b) C' bb' kb' bc' kc' → pl C' = gmoveD s B (pl C) id b → Ext F w w' → (∀ k, F' k → F k ∨ w.heap.size ≤ k) → (∀ k, F k → F' k) → K (.int .i64 (gmoveE s B id b)) w') :
    cl Try.prog 35 #[.pointer (some ⟨g, 0, none⟩), .int .i64 id, b.v] w K := by
  have bad : gmoveE s B id b ≠ 0 → ∀ e, gmoveE s B id b = e → ∀ w', Ext no w w' → K (.int .i64 e) w' := by
    intro h0 e he w' hx
    have := hK w' F C bb kb bc kc (by unfold gmoveB; rw [if_neg h0]; exact h.ext hx fun _ _ hf => hf) (by unfold gmoveD; rw [if_neg h0]) (Ext.of_no hx) (fun k hk => .inl hk) (fun k hk => hk)
    rw [he] at this
    exact this
  apply F35_calls
  unfold F35
  have hS := St.start w
  (refine St.nw hS ?_; clear hS; intro r1 _ hS)
  have h1 := h.ext hS.ext fun _ _ hf => hf
  refine lv_i (dr_i (ld_mk h1.ld1 (asM_i rfl ?_)))
  have hlk := h1.bm.lookup_ok keyI und_mb zero_box id ⟨trivial, fun _ _ => trivial⟩
  have e1 : (Option.map Bx.v (aget B id)).getD (Bx.v ⟨0, 0, 0⟩) = (boxAt B id).v := by unfold boxAt; cases aget B id <;> rfl
  rw [e1] at hlk
  refine rq_mk hlk (asT_i (l := [(boxAt B id).v, .bool (aget B id).isSome]) rfl rfl (asA_i (l := (boxAt B id).cells) rfl rfl ?_))
  repeat (first | (refine asI_i rfl ?_) | (refine asB_i rfl ?_) | (refine asP_i rfl ?_) | (refine asS_i rfl ?_) | (refine asY_i rfl ?_) | (refine asM_i rfl ?_) | (refine asA_i rfl rfl ?_) | (refine asT_i rfl rfl ?_) | (refine lv_i ?_) | (refine St.nw hS ?_; clear hS; intro _ _ hS) | (refine St.dw hS ?_; clear hS; intro _ hS _) | (refine hS.ld0 0 rfl rfl ?_) | (refine hS.ld 0 rfl rfl ?_) | (refine hS.ld0 1 rfl rfl ?_) | (refine hS.ld 1 rfl rfl ?_) | (refine hS.ld0 2 rfl rfl ?_) | (refine hS.ld 2 rfl rfl ?_) | (refine hS.ld0 3 rfl rfl ?_) | (refine hS.ld 3 rfl rfl ?_) | (refine hS.ld0 4 rfl rfl ?_) | (refine hS.ld 4 rfl rfl ?_) | (refine hS.ld0 5 rfl rfl ?_) | (refine hS.ld 5 rfl rfl ?_) | (refine hS.ld0 6 rfl rfl ?_) | (refine hS.ld 6 rfl rfl ?_) | (refine hS.ld0 7 rfl rfl ?_) | (refine hS.ld 7 rfl rfl ?_) | (refine hS.hd0 0 rfl rfl ?_) | (refine hS.hd 0 rfl rfl ?_) | (refine hS.hd0 1 rfl rfl ?_) | (refine hS.hd 1 rfl rfl ?_) | (refine hS.hd0 2 rfl rfl ?_) | (refine hS.hd 2 rfl rfl ?_) | (refine hS.hd0 3 rfl rfl ?_) | (refine hS.hd 3 rfl rfl ?_) | (refine hS.hd0 4 rfl rfl ?_) | (refine hS.hd 4 rfl rfl ?_) | (refine hS.hd0 5 rfl rfl ?_) | (refine hS.hd 5 rfl rfl ?_) | (refine hS.hd0 6 rfl rfl ?_) | (refine hS.hd 6 rfl rfl ?_) | (refine hS.hd0 7 rfl rfl ?_) | (refine hS.hd 7 rfl rfl ?_) | (refine hS.st0 0 rfl rfl rfl ?_; clear hS; intro _ hS) | (refine hS.st 0 rfl rfl rfl ?_; clear hS; intro _ hS) | (refine hS.st0 1 rfl rfl rfl ?_; clear hS; intro _ hS) | (refine hS.st 1 rfl rfl rfl ?_; clear hS; intro _ hS) | (refine hS.st0 2 rfl rfl rfl ?_; clear hS; intro _ hS) | (refine hS.st 2 rfl rfl rfl ?_; clear hS; intro _ hS) | (refine hS.st0 3 rfl rfl rfl ?_; clear hS; intro _ hS) | (refine hS.st 3 rfl rfl rfl ?_; clear hS; intro _ hS) | (refine hS.st0 4 rfl rfl rfl ?_; clear hS; intro _ hS) | (refine hS.st 4 rfl rfl rfl ?_; clear hS; intro _ hS) | (refine hS.st0 5 rfl rfl rfl ?_; clear hS; intro _ hS) | (refine hS.st 5 rfl rfl rfl ?_; clear hS; intro _ hS) | (refine hS.st0 6 rfl rfl rfl ?_; clear hS; intro _ hS) | (refine hS.st 6 rfl rfl rfl ?_; clear hS; intro _ hS) | (refine hS.st0 7 rfl rfl rfl ?_; clear hS; intro _ hS) | (refine hS.st 7 rfl rfl rfl ?_; clear hS; intro _ hS) | (refine bnd_mk (by decide) (by decide) ?_) | (refine so_i rfl ?_))
  refine cond_split (fun hs => ?_) (fun hs => ?_)
  · have hs' : ¬ (aget B id).isSome = true := by simpa using hs
    have e : gmoveE s B id b = 181 := by unfold gmoveE; rw [if_neg hs']
    exact lv_i (bad (by rw [e]; decide) 181 e _ hS.ext)
  have hs' : (aget B id).isSome = true := by simpa using hs
  have hE : gmoveE s B id b = cellsE s b := by unfold gmoveE; rw [if_pos hs']
  refine St.dw hS ?_
  clear hS h1 hlk
  intro w2 hS _
  have h2 := h.ext hS.ext fun _ _ hf => hf
  refine dr_i (ld_mk h2.ld0 (asI_i rfl ?_))
  repeat (first | (refine asI_i rfl ?_) | (refine asB_i rfl ?_) | (refine asP_i rfl ?_) | (refine asS_i rfl ?_) | (refine asY_i rfl ?_) | (refine asM_i rfl ?_) | (refine asA_i rfl rfl ?_) | (refine asT_i rfl rfl ?_) | (refine lv_i ?_) | (refine St.nw hS ?_; clear hS; intro _ _ hS) | (refine St.dw hS ?_; clear hS; intro _ hS _) | (refine hS.ld0 0 rfl rfl ?_) | (refine hS.ld 0 rfl rfl ?_) | (refine hS.ld0 1 rfl rfl ?_) | (refine hS.ld 1 rfl rfl ?_) | (refine hS.ld0 2 rfl rfl ?_) | (refine hS.ld 2 rfl rfl ?_) | (refine hS.ld0 3 rfl rfl ?_) | (refine hS.ld 3 rfl rfl ?_) | (refine hS.ld0 4 rfl rfl ?_) | (refine hS.ld 4 rfl rfl ?_) | (refine hS.ld0 5 rfl rfl ?_) | (refine hS.ld 5 rfl rfl ?_) | (refine hS.ld0 6 rfl rfl ?_) | (refine hS.ld 6 rfl rfl ?_) | (refine hS.ld0 7 rfl rfl ?_) | (refine hS.ld 7 rfl rfl ?_) | (refine hS.hd0 0 rfl rfl ?_) | (refine hS.hd 0 rfl rfl ?_) | (refine hS.hd0 1 rfl rfl ?_) | (refine hS.hd 1 rfl rfl ?_) | (refine hS.hd0 2 rfl rfl ?_) | (refine hS.hd 2 rfl rfl ?_) | (refine hS.hd0 3 rfl rfl ?_) | (refine hS.hd 3 rfl rfl ?_) | (refine hS.hd0 4 rfl rfl ?_) | (refine hS.hd 4 rfl rfl ?_) | (refine hS.hd0 5 rfl rfl ?_) | (refine hS.hd 5 rfl rfl ?_) | (refine hS.hd0 6 rfl rfl ?_) | (refine hS.hd 6 rfl rfl ?_) | (refine hS.hd0 7 rfl rfl ?_) | (refine hS.hd 7 rfl rfl ?_) | (refine hS.st0 0 rfl rfl rfl ?_; clear hS; intro _ hS) | (refine hS.st 0 rfl rfl rfl ?_; clear hS; intro _ hS) | (refine hS.st0 1 rfl rfl rfl ?_; clear hS; intro _ hS) | (refine hS.st 1 rfl rfl rfl ?_; clear hS; intro _ hS) | (refine hS.st0 2 rfl rfl rfl ?_; clear hS; intro _ hS) | (refine hS.st 2 rfl rfl rfl ?_; clear hS; intro _ hS) | (refine hS.st0 3 rfl rfl rfl ?_; clear hS; intro _ hS) | (refine hS.st 3 rfl rfl rfl ?_; clear hS; intro _ hS) | (refine hS.st0 4 rfl rfl rfl ?_; clear hS; intro _ hS) | (refine hS.st 4 rfl rfl rfl ?_; clear hS; intro _ hS) | (refine hS.st0 5 rfl rfl rfl ?_; clear hS; intro _ hS) | (refine hS.st 5 rfl rfl rfl ?_; clear hS; intro _ hS) | (refine hS.st0 6 rfl rfl rfl ?_; clear hS; intro _ hS) | (refine hS.st 6 rfl rfl rfl ?_; clear hS; intro _ hS) | (refine hS.st0 7 rfl rfl rfl ?_; clear hS; intro _ hS) | (refine hS.st 7 rfl rfl rfl ?_; clear hS; intro _ hS) | (refine bnd_mk (by decide) (by decide) ?_) | (refine so_i rfl ?_))
  show cl Try.prog 24 #[.int .i64 s, b.v] w2 _
  refine cells_k ?_
  intro p c w3 hx3 hrow3
  have hS3 := hS.to hx3
  have h3 := h2.ext hx3 fun _ _ hf => hf
  refine asT_i rfl rfl (asS_i rfl (asI_i rfl (lv_i (cond_split (fun h0 => ?_) (fun h0 => ?_)))))
  · have hne : cellsE s b ≠ 0 := by simpa using h0
    exact lv_i (bad (by rw [hE]; exact hne) _ hE _ hS3.ext)
  · have h00 : cellsE s b = 0 := by simpa using h0
    have hl := @cells_len s b
    have hpF : ∀ a, p = some a → ¬ F a.block := fun a ha hf => by
      have := h2.lt _ hf
      have := (hrow3.at ha).1
      omega
    refine gdrop_k h3 (fun x => by have := hlen x; omega) ?_
    intro w4 C4 bb4 kb4 bc4 kc4 h4 hpl4 hx4
    have hkn := hS3.kn (r1, b.cells, 25) (List.mem_cons_of_mem _ List.mem_cons_self)
    have hr1F : ¬ F r1 := fun hf => by
      have := h.lt r1 hf
      have := hkn.2
      simp only at this
      omega
    have hb4 : w4.heap[r1]? = some (.cells b.cells.toArray 25 (0, 0)) := hx4.blk hkn.1 hr1F
    have c0 : w4.cell? ⟨r1, 0, none⟩ = some (.int .i64 b.x) := by rw [blk_cell hb4]; rfl
    have c1 : w4.cell? (Addr.add ⟨r1, 0, none⟩ 1) = some (.int .i64 b.y) := by rw [add_mk, blk_cell hb4]; rfl
    have c2 : w4.cell? (Addr.add ⟨r1, 0, none⟩ 2) = some (.int .i64 b.r) := by rw [add_mk, blk_cell hb4]; rfl
    refine ld_mk c0 (asI_i rfl (ld_mk c1 (asI_i rfl (ld_mk c2 (asI_i rfl ?_)))))
    show cl Try.prog 52 #[.pointer (some ⟨g, 0, none⟩), .int .i64 id, b.v, .slice p (cellsL' s b).length c] w4 _
    refine gput_k h4 (hrow3.reads.ext hx4 hpF) rfl (by omega) cells_okc hpF (fun x => ?_) ?_
    · rw [hpl4]
      have := dropL_len (l := cellsL' s (boxAt B id)) (id := id) (pl_nd h.nd) x
      have := hlen x
      omega
    intro w5 F' C' bb' kb' bc' kc' h5 hpl hx5 hF1 hF2
    have hE0 : gmoveE s B id b = 0 := by rw [hE, h00]
    have := hK w5 F' C' bb' kb' bc' kc' (by unfold gmoveB; rw [if_pos hE0]; exact h5) (by unfold gmoveD; rw [if_pos hE0, ← hpl4]; exact hpl) (((Ext.of_no hS3.ext).trans hx4).trans hx5) (fun k hk => by
      have := hS3.ext.size
      have := hx4.size
      rcases hF1 k hk with h | h
      · exact .inl h
      · exact .inr (by omega)) hF2
    rw [hE0] at this
    exact lv_i this

def gdropE (B : List (Int × Bx)) (id : Int) : Int := if (aget B id).isSome = true then 0 else 181
def gdropB (B : List (Int × Bx)) (id : Int) : List (Int × Bx) := if gdropE B id = 0 then adel B id else B
def gdropD (s : Int) (B : List (Int × Bx)) (D : List ((Int × Int) × List Int)) (id : Int) : List ((Int × Int) × List Int) :=
  if gdropE B id = 0 then dropL D (cellsL' s (boxAt B id)) id else D

theorem gDrop_k {w : World} {F : Nat → Prop} {g mb mc : Nat} {s : Int} {B : List (Int × Bx)} {C : List ((Int × Int) × CellV)} {bb : List Nat} {kb : Nat} {bc : List Nat} {kc : Nat}
    (h : Gr w F g mb mc s B C bb kb bc kc) {id : Int} (hlen : ∀ x, ((aget (pl C) x).getD []).length ≤ 1099511627776) {K : Value → World → Prop}
    (hK : ∀ w' C' bb' kb' bc' kc', Gr w' F g mb mc s (gdropB B id) C' bb' kb' bc' kc' → pl C' = gdropD s B (pl C) id → Ext F w w' → K (.int .i64 (gdropE B id)) w') :
    cl Try.prog 36 #[.pointer (some ⟨g, 0, none⟩), .int .i64 id] w K := by
  apply F36_calls
  unfold F36
  refine lv_i (dr_i (ld_mk h.ld1 (asM_i rfl ?_)))
  have hlk := h.bm.lookup_ok keyI und_mb zero_box id ⟨trivial, fun _ _ => trivial⟩
  have e1 : (Option.map Bx.v (aget B id)).getD (Bx.v ⟨0, 0, 0⟩) = (boxAt B id).v := by unfold boxAt; cases aget B id <;> rfl
  rw [e1] at hlk
  refine rq_mk hlk (asT_i (l := [(boxAt B id).v, .bool (aget B id).isSome]) rfl rfl (asA_i (l := (boxAt B id).cells) rfl rfl ?_))
  have hS := St.start w
  repeat (first | (refine asI_i rfl ?_) | (refine asB_i rfl ?_) | (refine asP_i rfl ?_) | (refine asS_i rfl ?_) | (refine asY_i rfl ?_) | (refine asM_i rfl ?_) | (refine asA_i rfl rfl ?_) | (refine asT_i rfl rfl ?_) | (refine lv_i ?_) | (refine St.nw hS ?_; clear hS; intro _ _ hS) | (refine St.dw hS ?_; clear hS; intro _ hS _) | (refine hS.ld0 0 rfl rfl ?_) | (refine hS.ld 0 rfl rfl ?_) | (refine hS.ld0 1 rfl rfl ?_) | (refine hS.ld 1 rfl rfl ?_) | (refine hS.ld0 2 rfl rfl ?_) | (refine hS.ld 2 rfl rfl ?_) | (refine hS.ld0 3 rfl rfl ?_) | (refine hS.ld 3 rfl rfl ?_) | (refine hS.ld0 4 rfl rfl ?_) | (refine hS.ld 4 rfl rfl ?_) | (refine hS.ld0 5 rfl rfl ?_) | (refine hS.ld 5 rfl rfl ?_) | (refine hS.ld0 6 rfl rfl ?_) | (refine hS.ld 6 rfl rfl ?_) | (refine hS.ld0 7 rfl rfl ?_) | (refine hS.ld 7 rfl rfl ?_) | (refine hS.hd0 0 rfl rfl ?_) | (refine hS.hd 0 rfl rfl ?_) | (refine hS.hd0 1 rfl rfl ?_) | (refine hS.hd 1 rfl rfl ?_) | (refine hS.hd0 2 rfl rfl ?_) | (refine hS.hd 2 rfl rfl ?_) | (refine hS.hd0 3 rfl rfl ?_) | (refine hS.hd 3 rfl rfl ?_) | (refine hS.hd0 4 rfl rfl ?_) | (refine hS.hd 4 rfl rfl ?_) | (refine hS.hd0 5 rfl rfl ?_) | (refine hS.hd 5 rfl rfl ?_) | (refine hS.hd0 6 rfl rfl ?_) | (refine hS.hd 6 rfl rfl ?_) | (refine hS.hd0 7 rfl rfl ?_) | (refine hS.hd 7 rfl rfl ?_) | (refine hS.st0 0 rfl rfl rfl ?_; clear hS; intro _ hS) | (refine hS.st 0 rfl rfl rfl ?_; clear hS; intro _ hS) | (refine hS.st0 1 rfl rfl rfl ?_; clear hS; intro _ hS) | (refine hS.st 1 rfl rfl rfl ?_; clear hS; intro _ hS) | (refine hS.st0 2 rfl rfl rfl ?_; clear hS; intro _ hS) | (refine hS.st 2 rfl rfl rfl ?_; clear hS; intro _ hS) | (refine hS.st0 3 rfl rfl rfl ?_; clear hS; intro _ hS) | (refine hS.st 3 rfl rfl rfl ?_; clear hS; intro _ hS) | (refine hS.st0 4 rfl rfl rfl ?_; clear hS; intro _ hS) | (refine hS.st 4 rfl rfl rfl ?_; clear hS; intro _ hS) | (refine hS.st0 5 rfl rfl rfl ?_; clear hS; intro _ hS) | (refine hS.st 5 rfl rfl rfl ?_; clear hS; intro _ hS) | (refine hS.st0 6 rfl rfl rfl ?_; clear hS; intro _ hS) | (refine hS.st 6 rfl rfl rfl ?_; clear hS; intro _ hS) | (refine hS.st0 7 rfl rfl rfl ?_; clear hS; intro _ hS) | (refine hS.st 7 rfl rfl rfl ?_; clear hS; intro _ hS) | (refine bnd_mk (by decide) (by decide) ?_) | (refine so_i rfl ?_))
  have h1 := h.ext hS.ext fun _ _ hf => hf
  refine cond_split (fun hs => ?_) (fun hs => ?_)
  · have hs' : ¬ (aget B id).isSome = true := by simpa using hs
    have e : gdropE B id = 181 := by unfold gdropE; rw [if_neg hs']
    have := hK _ C bb kb bc kc (by unfold gdropB; rw [if_neg (by rw [e]; decide)]; exact h1) (by unfold gdropD; rw [if_neg (by rw [e]; decide)]) (Ext.of_no hS.ext)
    rw [e] at this
    exact lv_i this
  · have hs' : (aget B id).isSome = true := by simpa using hs
    have e : gdropE B id = 0 := by unfold gdropE; rw [if_pos hs']
    refine gdrop_k h1 hlen ?_
    intro w2 C2 bb2 kb2 bc2 kc2 h2 hpl hx2
    have := hK w2 C2 bb2 kb2 bc2 kc2 (by unfold gdropB; rw [if_pos e]; exact h2) (by unfold gdropD; rw [if_pos e]; exact hpl) ((Ext.of_no hS.ext).trans hx2)
    rw [e] at this
    exact lv_i this
end Go.Proofs.Ytamobmjfdiecbaa

/- GrN: the grid's call Near, as a contract over lists of numbers and boxes. Conditions: those of each theorem, on its arguments. -/
namespace Go.Proofs.Ytamobmjfdiecbaa
open Go Go.Sx Go.Fp
attribute [local irreducible] jn lv ld st nw asI asB asP asS asY asM asF asA asT lp rn ru rq cl dw dr bnd bn2 nz nn hd hr so eqW
attribute [local irreducible] callOk

set_option maxRecDepth 100000 in
theorem und_mi : Try.prog.underlying 120 = some (.map 3 4) := rfl
def kb' (x : Bool) : Value := .bool x
theorem _root_.Go.Sx.St.toX {w0 w w' : World} {L : List (Nat × List Value × TypeId)} (h : St w0 w L) {M : Nat → Prop} (hx : Ext M w w') (hM : ∀ k, M k → w0.heap.size ≤ k) (hL : ∀ b ∈ L, ¬ M b.1) : St w0 w' L :=
  ⟨h.ext.then hx fun k hk hm => by have := hM k hm; omega, fun b hb => ⟨hx.blk (h.kn b hb).1 (hL b hb), (h.kn b hb).2⟩, h.nd⟩
theorem wfZ {n : Int} (h : I64 n) : (Lit.int .i64 n).wf = true := by
  obtain ⟨h1, h2⟩ := h
  simp only [Lit.wf, Bool.and_eq_true, decide_eq_true_eq, IntKind.min, IntKind.max, IntKind.bits, IntKind.signed]
  simp
  omega
def metC (B : List (Int × Bx)) (b : Bx) (ids : List Int) (A : List (Int × Bool)) : List (Int × Bool) := ids.foldl (fun A id => if (meetV (boxAt B id) b).1 = true then aset A id true else A) A
def metL (B : List (Int × Bx)) (D : List ((Int × Int) × List Int)) (b : Bx) (l : List (Int × Int)) : List (Int × Bool) := l.foldl (fun A c => metC B b ((aget D c).getD []) A) []
def gnearV (s : Int) (B : List (Int × Bx)) (D : List ((Int × Int) × List Int)) (b : Bx) : List Int := ((metL B D b (cellsL' s b)).map (·.1)).mergeSort leI

theorem nodup_metC {B : List (Int × Bx)} {b : Bx} : ∀ {ids : List Int} {A : List (Int × Bool)}, (A.map (·.1)).Nodup → ((metC B b ids A).map (·.1)).Nodup
  | [], _, h => h
  | id :: ids, A, h => by
    unfold metC
    rw [List.foldl_cons]
    split
    · exact nodup_metC (nodup_aset h)
    · exact nodup_metC h
theorem nodup_metL {B : List (Int × Bx)} {D : List ((Int × Int) × List Int)} {b : Bx} (l : List (Int × Int)) : ((metL B D b l).map (·.1)).Nodup := by
  have key : ∀ (l : List (Int × Int)) (A : List (Int × Bool)), (A.map (·.1)).Nodup → ((l.foldl (fun A c => metC B b ((aget D c).getD []) A) A).map (·.1)).Nodup := by
    intro l
    induction l with
    | nil => exact fun A h => h
    | cons c l ih => exact fun A h => ih _ (nodup_metC h)
  exact key l [] (by simp)

/-- a map of one's own, in the kit's words -/
theorem _root_.Go.Sx.Mp.own {w : World} {m : Nat} {A : List (Int × Bool)} {bs : List Nat} {clk : Nat} (h : Mp w m ki kb' A bs clk) (hn : (A.map (·.1)).Nodup) (hI : ∀ x ∈ A, I64 x.1) (hs : A.length ≤ maxLen) :
    ∃ D0 : DataW Unit, w.ownsMap Try.prog 3 (fun _ => some (.nil, [])) m A.length D0 ∧ (Go.intKeys D0).Perm (A.map (·.1)) ∧ Maps.size D0 = A.length := by
  have hl := ents_length ki kb' (A := A) (bs := bs) h.len
  have hk : ∀ (A : List (Int × Bool)) (bs : List Nat), A.length = bs.length → (ents ki kb' A bs).map (·.key) = A.map fun x => ki x.1 := by
    intro A
    induction A with
    | nil => intro bs _; rfl
    | cons x A ih =>
      intro bs hb
      cases bs with
      | nil => simp at hb
      | cons y bs => simp only [ents, List.map_cons]; rw [ih bs (by simpa using hb)]
  have hb : ∀ (A : List (Int × Bool)) (bs : List Nat), A.length = bs.length → (ents ki kb' A bs).map (·.born) = bs := by
    intro A
    induction A with
    | nil => intro bs hb; cases bs with | nil => rfl | cons y bs => simp at hb
    | cons x A ih =>
      intro bs hb
      cases bs with
      | nil => simp at hb
      | cons y bs => simp only [ents, List.map_cons]; rw [ih bs (by simpa using hb)]
  have hrd : ∀ x ∈ ents ki kb' A bs, ∃ z : Int, x.key = ki z ∧ I64 z := by
    intro x hx
    have h1 : x.key ∈ (ents ki kb' A bs).map (·.key) := List.mem_map.2 ⟨x, hx, rfl⟩
    rw [hk A bs h.len] at h1
    obtain ⟨y, hy, he⟩ := List.mem_map.1 h1
    exact ⟨y.1, he.symm, hI y hy⟩
  have hkey : ∀ z : Int, I64 z → keyOf Try.prog 3 (ki z) = some (.int .i64 z) := fun z hz => Maps.keyOf_int_mk und_i (wfZ hz)
  have hrd2 : ∀ x ∈ ents ki kb' A bs, ∃ z : Int, x.key = ki z ∧ WideElems.rd (H := Unit) Try.prog 3 (fun _ => some (.nil, [])) x = some (.int .i64 z, .nil) := by
    intro x hx
    obtain ⟨z, hz, hI⟩ := hrd x hx
    refine ⟨z, hz, ?_⟩
    unfold WideElems.rd
    rw [hz, hkey z hI]
    rfl
  have hfit : WideElems.Fit (H := Unit) Try.prog 3 (fun _ => some (.nil, [])) (ents ki kb' A bs).toArray clk := by
    refine ⟨by simpa [hl] using hs, ⟨fun x hx => ?_, ?_, ?_⟩, fun x hx => ?_⟩
    · have h1 : x.born ∈ (ents ki kb' A bs).map (·.born) := List.mem_map.2 ⟨x, by simpa using hx, rfl⟩
      rw [hb A bs h.len] at h1
      exact h.lt _ h1
    · show ((ents ki kb' A bs).map (·.born)).Nodup
      rw [hb A bs h.len]
      exact h.nd
    · show ((ents ki kb' A bs).map (·.key)).Nodup
      rw [hk A bs h.len]
      have : A.map (fun x => ki x.1) = (A.map (·.1)).map ki := by simp [List.map_map]
      rw [this]
      refine List.Pairwise.map _ (fun a b hab e => hab ?_) hn
      simpa [ki] using e
    · obtain ⟨z, _, hz⟩ := hrd2 x (by simpa using hx)
      exact ⟨_, hz⟩
  refine ⟨_, ⟨_, _, h.blk, hfit, by simp [hl], rfl⟩, ?_, ?_⟩
  · have hp := WideShapes.sorted_perm ((ents ki kb' A bs).map (WideElems.rg (H := Unit) Try.prog 3 (fun _ => some (.nil, []))))
    have hp2 := hp.map (fun p => _root_.Go.intOf p.1)
    change (List.map (fun p : Lit × DataW Unit => _root_.Go.intOf p.1) _).Perm _
    refine hp2.trans ?_
    rw [List.map_map]
    have : (ents ki kb' A bs).map ((fun p => _root_.Go.intOf p.1) ∘ WideElems.rg (H := Unit) Try.prog 3 (fun _ => some (.nil, []))) = A.map (·.1) := by
      have h1 : (ents ki kb' A bs).map ((fun p => _root_.Go.intOf p.1) ∘ WideElems.rg (H := Unit) Try.prog 3 (fun _ => some (.nil, []))) = ((ents ki kb' A bs).map (·.key)).map (fun v => match v with | .int _ z => z | _ => 0) := by
        rw [List.map_map]
        refine List.map_congr_left fun x hx => ?_
        obtain ⟨z, hz, hr⟩ := hrd2 x hx
        simp only [Function.comp]
        rw [hz, WideElems.rg_of hr]
        rfl
      rw [h1, hk A bs h.len, List.map_map]
      rfl
    rw [this]
  · have hp := WideShapes.sorted_perm ((ents ki kb' A bs).map (WideElems.rg (H := Unit) Try.prog 3 (fun _ => some (.nil, []))))
    have := hp.length_eq
    rw [List.length_map, hl] at this
    exact this

theorem asN_i {v : Value} {k : Nat} {fs cs : Array Value} {K : Nat → Array Value → Array Value → Prop} (e : v = .func (.func k) fs cs) (h : K k fs cs) : asN v K := ⟨k, fs, cs, e, h⟩
theorem row_of {w : World} {base : Nat} {v : Value} {xs : List Value} (h : w.ownsRow base 3 1 v xs.length xs) : ∃ p c, v = .slice p xs.length c ∧ Row w base 3 p c xs := by
  rcases h.2 with ⟨rfl, hn⟩ | ⟨g, cap, cur, rfl, rest⟩
  · refine ⟨none, 0, by rw [hn], ⟨?_⟩⟩
    rw [hn] at h ⊢
    exact h
  · exact ⟨some ⟨g, 0, none⟩, cap, rfl, ⟨h⟩⟩

set_option maxHeartbeats 2000000 in
theorem gNear_k {w : World} {F : Nat → Prop} {g mb mc : Nat} {s : Int} {B : List (Int × Bx)} {C : List ((Int × Int) × CellV)} {bb : List Nat} {kb : Nat} {bc : List Nat} {kc : Nat}
    (h : Gr w F g mb mc s B C bb kb bc kc) {b : Bx} (hI : ∀ x ∈ metL B (pl C) b (cellsL' s b), I64 x.1) (hM : (metL B (pl C) b (cellsL' s b)).length ≤ 1099511627776) (hlen : ∀ x, ((aget (pl C) x).getD []).length ≤ 1099511627776) {K : Value → World → Prop}
    (hK : ∀ p c w', Ext no w w' → Row w' w.heap.size 3 p c (iv .i64 (gnearV s B (pl C) b)) → K (.tuple #[.slice p (gnearV s B (pl C) b).length c, .int .i64 (cellsE s b)]) w') :
    cl Try.prog 31 #[.pointer (some ⟨g, 0, none⟩), b.v] w K := by
  apply F31_calls
  unfold F31
  have hS := St.start w
  (refine St.nw hS ?_; clear hS; intro r1 _ hS)
  refine lv_i (St.dw hS ?_)
  clear hS
  intro w1 hS _
  have h1 := h.ext hS.ext fun _ _ hf => hf
  refine dr_i (ld_mk h1.ld0 (asI_i rfl ?_))
  refine hS.ld0 0 rfl rfl (asI_i rfl (hS.ld 0 rfl rfl (asI_i rfl (hS.ld 0 rfl rfl (asI_i rfl ?_)))))
  show cl Try.prog 24 #[.int .i64 s, b.v] w1 _
  refine cells_k ?_
  intro p c w2 hx2 hrow2
  have h2 := h1.ext hx2 fun _ _ hf => hf
  replace hS := hS.to hx2
  refine asT_i rfl rfl (asS_i rfl (asI_i rfl (lv_i (cond_split (fun he => lv_i ?_) (fun he => ?_)))))
  · have he' : cellsE s b ≠ 0 := by simpa using he
    have e0 : cellsL' s b = [] := by unfold cellsL'; rw [if_neg he']
    have e1 : gnearV s B (pl C) b = [] := by unfold gnearV; rw [e0]; simp [metL]
    have := hK none 0 w2 hS.ext (by rw [e1]; exact Row.nil _ _ _)
    rw [e1] at this
    exact this
  have he' : cellsE s b = 0 := by simpa using he
  rw [he'] at hK
  generalize hlst : cellsL' s b = lst at *
  have hok : ∀ x ∈ lst, okc x := by rw [← hlst]; exact cells_okc
  have hll : lst.length ≤ 1024 := by rw [← hlst]; exact cells_len
  refine make_map (enc := ki) (val := kb') und_mi ?_
  intro w3 hm3 hx3 hz3
  refine asM_i rfl ?_
  generalize hmm : w2.heap.size = mm at *
  have h3 := h2.ext hx3 fun _ _ hf => hf
  have hS3 := hS.to hx3
  have hFm : ∀ k, F k → k ≠ mm := fun k hk e => by
    have := h2.lt k hk
    omega
  have hr1 : r1 ≠ mm := by
    have := blk_lt (hS.kn _ List.mem_cons_self).1
    simp only at this
    omega
  have hwm : w.heap.size ≤ mm := by have := hS.ext.size; omega
  have gG : ∀ w', Ext (onl mm) w3 w' → Gr w' F g mb mc s B C bb kb bc kc := fun w' hx => h3.ext hx fun k hk e => hFm k hk e
  have gS : ∀ w', Ext (onl mm) w3 w' → St w w' [(r1, b.cells, 25)] := fun w' hx => hS3.toX hx (fun k hk => by have : k = mm := hk; omega) (fun x hx e => by
    have e' : x.1 = mm := e
    rw [List.mem_singleton.1 hx] at e'
    exact hr1 e')
  have hpm : ∀ a, p = some a → a.block ≠ mm := fun a ha e => by
    have := (hrow2.at ha).2
    omega
  refine lp_mk (fun i : Nat => [.int .i64 (i : Int)])
    (fun m i w' => m = lst.length - i ∧ i ≤ lst.length ∧ Ext (onl mm) w3 w' ∧ ∃ bs clk, Mp w' mm ki kb' (metL B (pl C) b (lst.take i)) bs clk) lst.length 0 rfl
    ⟨rfl, Nat.zero_le _, Ext.refl _ _, _, _, hm3⟩ ?_
  rintro _ i w4 ⟨rfl, hi, hx4, bs, clk, hm4⟩ J hJ
  refine asI_i rfl (cond_split (fun hc => ?_) (fun hc => ?_))
  · have hil : i < lst.length := by
      have := of_decide_eq_true hc
      omega
    have ei : IntKind.wrap .i64 ((i : Int) + 1) = ((i + 1 : Nat) : Int) := by rw [wr64 (by omega) (by omega)]; omega
    have hr4 : Reads w4 p (lst.map cv) := (hrow2.reads.ext hx3 fun _ _ h => h).ext hx4 fun a ha e => hpm a ha e
    refine hr4.at (i := (i : Int)) (by omega) (v := cv lst[i]) (by simp [hil]) ?_ (by simp)
    have h4 := gG w4 hx4
    refine asC_i rfl (dr_i (ld_mk h4.ld2 (asM_i rfl ?_)))
    have hcok := hok lst[i] (List.getElem_mem hil)
    have htk : lst.take (i + 1) = lst.take i ++ [lst[i]] := by rw [List.take_add_one, List.getElem?_eq_getElem hil]; rfl
    generalize lst[i] = c0 at *
    have hlk := h4.cm.lookup keyC und_mc zero_ints c0 ⟨hcok, h4.ok⟩
    have e1 : (Option.map cval (aget C c0)).getD (cval nilV) = cval ((aget C c0).getD nilV) := by cases aget C c0 <;> rfl
    rw [e1] at hlk
    have hgd : (aget (pl C) c0).getD [] = ((aget C c0).getD nilV).2.2 := pl_get C c0
    have hids := hlen c0
    rw [hgd] at hids
    have hmetS : metL B (pl C) b (lst.take (i + 1)) = metC B b ((aget C c0).getD nilV).2.2 (metL B (pl C) b (lst.take i)) := by
      rw [htk]
      unfold metL
      rw [List.foldl_append, List.foldl_cons, List.foldl_nil, hgd]
    have grow : ∀ w', Ext (onl mm) w3 w' → Reads w' ((aget C c0).getD nilV).1 (iv .i64 ((aget C c0).getD nilV).2.2) := fun w' hx => ((gG w' hx).getRow c0).1.reads
    generalize (aget C c0).getD nilV = v at *
    refine rq_mk hlk (asS_i rfl ?_)
    refine lp_mk (fun j : Nat => [.int .i64 (j : Int)])
      (fun m j w' => m = v.2.2.length - j ∧ j ≤ v.2.2.length ∧ Ext (onl mm) w3 w' ∧ ∃ bs clk, Mp w' mm ki kb' (metC B b (v.2.2.take j) (metL B (pl C) b (lst.take i))) bs clk) v.2.2.length 0 rfl
      ⟨rfl, Nat.zero_le _, hx4, bs, clk, hm4⟩ ?_
    rintro _ j w5 ⟨rfl, hj, hx5, bs5, clk5, hm5⟩ J2 hJ2
    refine asI_i rfl (cond_split (fun hc => ?_) (fun hc => ?_))
    · have hjl : j < v.2.2.length := by
        have := of_decide_eq_true hc
        omega
      have ej : IntKind.wrap .i64 ((j : Int) + 1) = ((j + 1 : Nat) : Int) := by rw [wr64 (by omega) (by omega)]; omega
      refine jn_of (fun t w' => Ext (onl mm) w3 w' ∧ ∃ bs clk, Mp w' mm ki kb' (metC B b (v.2.2.take (j + 1)) (metL B (pl C) b (lst.take i))) bs clk) ?_ ?_
      · rintro _ w6 ⟨hx6, bs6, clk6, hm6⟩
        rw [ej]
        exact hJ2 (v.2.2.length - (j + 1)) (j + 1) w6 (by omega) ⟨rfl, by omega, hx6, bs6, clk6, hm6⟩
      · intro J3 hJ3
        have htj : v.2.2.take (j + 1) = v.2.2.take j ++ [v.2.2[j]] := by rw [List.take_add_one, List.getElem?_eq_getElem hjl]; rfl
        refine (grow w5 hx5).at (i := (j : Int)) (by omega) (v := .int .i64 v.2.2[j]) (by simp [iv, hjl]) ?_ (by simp [iv])
        generalize v.2.2[j] = id at *
        have hmj : metC B b (v.2.2.take (j + 1)) (metL B (pl C) b (lst.take i)) = if (meetV (boxAt B id) b).1 = true then aset (metC B b (v.2.2.take j) (metL B (pl C) b (lst.take i))) id true else metC B b (v.2.2.take j) (metL B (pl C) b (lst.take i)) := by
          rw [htj]
          unfold metC
          rw [List.foldl_append, List.foldl_cons, List.foldl_nil]
        refine asI_i rfl (lv_i (dw_mk ?_))
        have hx6 : Ext (onl mm) w3 w5.drew := hx5.then (Ext.drew w5) fun k _ hk => hk.elim
        have h6 := gG _ hx6
        have hS6 := gS _ hx6
        have hm6 : Mp w5.drew mm ki kb' _ bs5 clk5 := hm5.ext (Ext.drew w5) fun h => h
        refine dr_i (ld_mk h6.ld1 (asM_i rfl ?_))
        have hlk2 := h6.bm.lookup keyI und_mb zero_box id ⟨trivial, fun _ _ => trivial⟩
        have e2 : (Option.map Bx.v (aget B id)).getD (Bx.v ⟨0, 0, 0⟩) = (boxAt B id).v := by unfold boxAt; cases aget B id <;> rfl
        rw [e2] at hlk2
        refine rq_mk hlk2 (asA_i (l := (boxAt B id).cells) rfl rfl (asI_i rfl (asI_i rfl (asI_i rfl ?_))))
        refine hS6.ld0 0 rfl rfl (asI_i rfl (hS6.ld 0 rfl rfl (asI_i rfl (hS6.ld 0 rfl rfl (asI_i rfl ?_)))))
        show cl Try.prog 28 #[(boxAt B id).v, b.v] w5.drew _
        refine meet_k fun w7 hx7 => asT_i rfl rfl (asB_i rfl (asI_i rfl ?_))
        have hx7' : Ext (onl mm) w3 w7 := hx6.then hx7 fun k _ hk => hk.elim
        have h7 := gG _ hx7'
        have hm7 := hm6.ext hx7 fun h => h
        refine hd_i h7.ld1 (lv_i (cond_split (fun hmt => ?_) (fun hmt => ?_)))
        · have hmt' : (meetV (boxAt B id) b).1 = true := hmt
          rw [if_pos hmt'] at hmj
          refine hm7.update keyI und_mi id ⟨trivial, fun _ _ => trivial⟩ true fun w8 bs8 clk8 hm8 hx8 _ => hJ3 _ _ ⟨hx7'.trans hx8, bs8, clk8, ?_⟩
          rw [hmj]
          exact hm8
        · have hmt' : ¬ (meetV (boxAt B id) b).1 = true := by rw [show (meetV (boxAt B id) b).1 = false from hmt]; decide
          rw [if_neg hmt'] at hmj
          exact hJ3 _ _ ⟨hx7', bs5, clk5, by rw [hmj]; exact hm7⟩
    · have hjl : j = v.2.2.length := by
        have := of_decide_eq_false hc
        omega
      rw [ei]
      refine hJ (lst.length - (i + 1)) (i + 1) w5 (by omega) ⟨rfl, by omega, hx5, bs5, clk5, ?_⟩
      rw [hmetS]
      rw [hjl, List.take_length] at hm5
      exact hm5
  · have hil : i = lst.length := by
      have := of_decide_eq_false hc
      omega
    rw [hil, List.take_length] at hm4
    clear hJ hc
    have eN : gnearV s B (pl C) b = ((metL B (pl C) b lst).map (·.1)).mergeSort leI := by unfold gnearV; rw [hlst]
    have hnd := nodup_metL (B := B) (D := pl C) (b := b) lst
    obtain ⟨D0, hown, hperm, hsize⟩ := hm4.own hnd hI (le_maxLen (by omega))
    refine keys_cl (asN_i rfl ?_)
    refine sorted_cl mm _ D0 _ w4 hown (by rw [hsize]; exact le_maxLen (by omega)) (by omega) ?_
    intro v ss w5 hp hrow hx5
    have hss : ss.mergeSort (fun x y => decide (x ≤ y)) = gnearV s B (pl C) b := by
      rw [eN]
      exact Go.mergeSort_of_perm_i (hp.trans hperm)
    have hl5 : ss.length = (iv .i64 (gnearV s B (pl C) b)).length := by rw [iv_length, ← hss, List.length_mergeSort]
    rw [hss, hl5] at hrow
    obtain ⟨p5, c5, rfl, hr5⟩ := row_of hrow
    have hx : Ext no w w5 := (gS w4 hx4).ext.trans hx5
    refine asS_i rfl (lv_i ?_)
    rw [iv_length]
    exact hK p5 c5 w5 hx (hr5.mono (gS w4 hx4).ext.size)
end Go.Proofs.Ytamobmjfdiecbaa

/- GrA: a grid beside blocks of one's own; cells of points; the document's examples of grids come out (awake). Conditions: those of each theorem, on its arguments. -/
namespace Go.Proofs.Ytamobmjfdiecbaa
open Go Go.Sx Go.Fp
attribute [local irreducible] jn lv ld st nw asI asB asP asS asY asM asF asA asT lp rn ru rq cl dw dr bnd bn2 nz nn hd hr so eqW
attribute [local irreducible] callOk

/-! ### cells of points -/
def gcellE (s x y : Int) : Int := if sideOk s = true then if isCell (x / s) (y / s) = true then 0 else 40 else 1
def gcellP (s x y : Int) : Int × Int := if gcellE s x y = 0 then (x / s, y / s) else (0, 0)
theorem nat_div {x s : Int} (hx : I64 x) (hs : 1 ≤ s) : (x / s).natAbs < 18446744073709551616 := by
  obtain ⟨h1, h2⟩ := hx
  have d := div_bound (n := x) hs
  rcases Int.lt_or_le x 0 with h | h
  · have := d.2 h; omega
  · have := d.1 h; omega
theorem cv0 : cv (0, 0) = .complex .f64 0 0 := by
  have : F 0 = 0 := by decide
  unfold cv
  simp only [this]

theorem gCell_k {s x y : Int} (hx : I64 x) (hy : I64 y) {w : World} {K : Value → World → Prop} (hK : ∀ w', Ext no w w' → K (.tuple #[cv (gcellP s x y), .int .i64 (gcellE s x y)]) w') :
    cl Try.prog 23 #[.int .i64 s, .agg #[.int .i64 x, .int .i64 y]] w K := by
  apply F23_calls
  unfold F23
  have hS := St.start w
  (refine St.nw hS ?_; clear hS; intro r1 _ hS)
  refine lv_i (side_k (asB_i rfl ?_))
  refine cond_split (fun h => ?_) (fun h => ?_)
  · have hE : gcellE s x y = 1 := by unfold gcellE; rw [if_neg (by simpa using h)]
    have := hK _ hS.ext
    unfold gcellP at this
    rw [hE, if_neg (by decide), cv0] at this
    exact lv_i this
  have hs : sideOk s = true := by simpa using h
  have hs1 : 1 ≤ s ∧ s ≤ 1099511627776 := by simpa [sideOk] using hs
  refine hS.ld0 0 rfl rfl (asI_i rfl (hS.ld 0 rfl rfl (asI_i rfl ?_)))
  refine gcell_k hx hy hs1.1 (asC_i rfl (cellF_k (nat_div hx hs1.1) (nat_div hy hs1.1) (asB_i rfl ?_)))
  refine cond_split (fun h => ?_) (fun h => ?_)
  · have hE : gcellE s x y = 40 := by unfold gcellE; rw [if_pos hs, if_neg (by simpa using h)]
    have := hK _ hS.ext
    unfold gcellP at this
    rw [hE, if_neg (by decide), cv0] at this
    exact lv_i this
  · have hE : gcellE s x y = 0 := by unfold gcellE; rw [if_pos hs, if_pos (by simpa using h)]
    have := hK _ hS.ext
    unfold gcellP at this
    rw [hE, if_pos rfl] at this
    exact lv_i this

/-! ### a grid beside blocks of one's own -/
theorem putL_len' {l : List (Int × Int)} {id : Int} : ∀ {D : List ((Int × Int) × List Int)} (x : Int × Int), ((aget (putL D l id) x).getD []).length ≤ ((aget D x).getD []).length + l.length := by
  induction l with
  | nil => intro D x; exact Nat.le_refl _
  | cons c l ih =>
    intro D x
    have h1 := ih (D := addTo D c id) x
    have h2 := addTo_len (D := D) (c := c) (id := id) x
    have e : putL D (c :: l) id = putL (addTo D c id) l id := rfl
    rw [e, List.length_cons]
    omega
theorem gputD_len {s : Int} {B : List (Int × Bx)} {D : List ((Int × Int) × List Int)} {id : Int} {b : Bx} (x : Int × Int) : ((aget (gputD s B D id b) x).getD []).length ≤ ((aget D x).getD []).length + 1024 := by
  unfold gputD
  split
  · have := putL_len' (D := D) (l := cellsL' s b) (id := id) x
    have := cells_len (s := s) (b := b)
    omega
  · omega

structure Gw (W w : World) (L : List (Nat × List Value × TypeId)) (g : Nat) (s : Int) (B : List (Int × Bx)) (D : List ((Int × Int) × List Int)) (N : Nat) : Prop where
  st : St W w L
  gr : ∃ F mb mc C bb kb bc kc, Gr w F g mb mc s B C bb kb bc kc ∧ pl C = D ∧ (∀ x, ((aget D x).getD []).length ≤ N) ∧ ∀ k, F k → W.heap.size ≤ k ∧ ∀ b ∈ L, b.1 ≠ k

section
variable {W w : World} {L : List (Nat × List Value × TypeId)} {g : Nat} {s : Int} {B : List (Int × Bx)} {D : List ((Int × Int) × List Int)} {N : Nat}

theorem Gw.to (h : Gw W w L g s B D N) {w' : World} (hx : Ext no w w') : Gw W w' L g s B D N := by
  obtain ⟨F, mb, mc, C, bb, kb, bc, kc, h1, h2, h3, h4⟩ := h.gr
  exact ⟨h.st.to hx, F, mb, mc, C, bb, kb, bc, kc, h1.ext hx fun _ _ h => h, h2, h3, h4⟩

theorem Gw.start {w0 : World} (hs : St W w0 L) {F : Nat → Prop} {mb mc : Nat} (h : Gr w F g mb mc s [] [] [] 0 [] 0) (hx : Ext no w0 w) (hF : ∀ k, F k → w0.heap.size ≤ k) : Gw W w L g s [] [] 0 := by
  refine ⟨hs.to hx, F, mb, mc, [], [], 0, [], 0, h, rfl, fun x => Nat.zero_le _, fun k hk => ?_⟩
  have h1 := hF k hk
  have h2 := hs.ext.size
  refine ⟨by omega, fun b hb => ?_⟩
  have := blk_lt (hs.kn b hb).1
  omega

theorem Gw.put (h : Gw W w L g s B D N) (hN : N ≤ 549755813888) {id : Int} {b : Bx} {K : Value → World → Prop}
    (hK : ∀ w', Gw W w' L g s (gputB s B id b) (gputD s B D id b) (N + 1024) → K (.int .i64 (gputE s B id b)) w') :
    cl Try.prog 30 #[.pointer (some ⟨g, 0, none⟩), .int .i64 id, b.v] w K := by
  obtain ⟨F, mb, mc, C, bb, kb, bc, kc, h1, h2, h3, h4⟩ := h.gr
  refine gPut_k h1 (fun x => by rw [h2]; have := h3 x; omega) fun w' F' C' bb' kb' bc' kc' hg hp hx hF _ => hK w' ?_
  rw [h2] at hp
  refine ⟨h.st.toX hx (fun k hk => (h4 k hk).1) (fun b hb hk => (h4 _ hk).2 b hb rfl), F', mb, mc, C', bb', kb', bc', kc', hg, hp, fun x => ?_, fun k hk => ?_⟩
  · have := gputD_len (s := s) (B := B) (D := D) (id := id) (b := b) x
    have := h3 x
    omega
  · rcases hF k hk with hk | hk
    · exact h4 k hk
    · have := h.st.ext.size
      refine ⟨by omega, fun b hb => ?_⟩
      have := blk_lt (h.st.kn b hb).1
      omega

theorem Gw.move0 (h : Gw W w L g s B D N) (hN : N ≤ 549755813888) {id : Int} {b : Bx} (h0 : aget B id = none) {K : Value → World → Prop}
    (hK : ∀ w', Gw W w' L g s B D N → K (.int .i64 181) w') :
    cl Try.prog 35 #[.pointer (some ⟨g, 0, none⟩), .int .i64 id, b.v] w K := by
  obtain ⟨F, mb, mc, C, bb, kb, bc, kc, h1, h2, h3, h4⟩ := h.gr
  have hE : gmoveE s B id b = 181 := by unfold gmoveE; rw [h0]; rfl
  refine gMove_k h1 (fun x => by rw [h2]; have := h3 x; omega) fun w' F' C' bb' kb' bc' kc' hg hp hx hF _ => ?_
  rw [hE]
  rw [h2] at hp
  unfold gmoveB at hg
  unfold gmoveD at hp
  rw [hE, if_neg (by decide)] at hg hp
  refine hK w' ⟨h.st.toX hx (fun k hk => (h4 k hk).1) (fun b hb hk => (h4 _ hk).2 b hb rfl), F', mb, mc, C', bb', kb', bc', kc', hg, hp, h3, fun k hk => ?_⟩
  rcases hF k hk with hk | hk
  · exact h4 k hk
  · have := h.st.ext.size
    refine ⟨by omega, fun b hb => ?_⟩
    have := blk_lt (h.st.kn b hb).1
    omega

/-- a block laid since -/
theorem Gw.add (h : Gw W w L g s B D N) {w' : World} (hx : Ext no w w') {q : Nat} {cs : List Value} {t : TypeId} (hq : w.heap.size ≤ q) (hb : w'.heap[q]? = some (.cells cs.toArray t (0, 0))) : Gw W w' ((q, cs, t) :: L) g s B D N := by
  obtain ⟨F, mb, mc, C, bb, kb, bc, kc, h1, h2, h3, h4⟩ := h.gr
  have hs' := h.st.to hx
  have := h.st.ext.size
  refine ⟨⟨hs'.ext, fun b hb' => ?_, List.Pairwise.cons (fun b hb' => ?_) hs'.nd⟩, F, mb, mc, C, bb, kb, bc, kc, h1.ext hx fun _ _ h => h, h2, h3, fun k hk => ⟨(h4 k hk).1, fun b hb' => ?_⟩⟩
  · rcases List.mem_cons.1 hb' with rfl | hb'
    · exact ⟨hb, by simp only; omega⟩
    · exact hs'.kn b hb'
  · have := blk_lt (h.st.kn b hb').1
    simp only
    omega
  · rcases List.mem_cons.1 hb' with rfl | hb'
    · have := h1.lt k hk
      simp only
      omega
    · exact (h4 k hk).2 b hb'
theorem Gw.tail {x : Nat × List Value × TypeId} (h : Gw W w (x :: L) g s B D N) : Gw W w L g s B D N := by
  obtain ⟨F, mb, mc, C, bb, kb, bc, kc, h1, h2, h3, h4⟩ := h.gr
  exact ⟨h.st.tail, F, mb, mc, C, bb, kb, bc, kc, h1, h2, h3, fun k hk => ⟨(h4 k hk).1, fun b hb => (h4 k hk).2 b (List.mem_cons_of_mem _ hb)⟩⟩

def HoldsV (LL : List (Nat × List Value × TypeId)) (p : Option Addr) (vs : List Value) : Prop := ∀ w : World, (∀ b ∈ LL, w.heap[b.1]? = some (.cells b.2.1.toArray b.2.2 (0, 0))) → Reads w p vs
theorem Gw.reads {LL : List (Nat × List Value × TypeId)} {p : Option Addr} {vs : List Value} (h : Gw W w L g s B D N) (hH : HoldsV LL p vs) (hs : ∀ b ∈ LL, b ∈ L) : Reads w p vs := hH w fun b hb => (h.st.kn b (hs b hb)).1

theorem Gw.near (h : Gw W w L g s B D N) (hN : N ≤ 549755813888) {b : Bx} (hI : ∀ x ∈ metL B D b (cellsL' s b), I64 x.1) (hM : (metL B D b (cellsL' s b)).length ≤ 1099511627776) {K : Value → World → Prop}
    (hK : ∀ p c w' LL, Gw W w' (LL ++ L) g s B D N → HoldsV LL p (iv .i64 (gnearV s B D b)) → Row w' w.heap.size 3 p c (iv .i64 (gnearV s B D b)) → K (.tuple #[.slice p (gnearV s B D b).length c, .int .i64 (cellsE s b)]) w') :
    cl Try.prog 31 #[.pointer (some ⟨g, 0, none⟩), b.v] w K := by
  obtain ⟨F, mb, mc, C, bb, kb, bc, kc, h1, h2, h3, h4⟩ := h.gr
  rw [← h2] at hI hM hK
  refine gNear_k h1 hI hM (fun x => by rw [h2]; have := h3 x; omega) fun p c w' hx hr => ?_
  have hG : Gw W w L g s B (pl C) N := by rw [h2]; exact h
  rcases hr.cases with ⟨rfl, _, h0⟩ | ⟨q, cur, rfl, hq, hb, _, _, _, ht⟩
  · exact hK none c w' [] (hG.to hx) (fun _ _ => .inl h0) hr
  · refine hK _ c w' [(q, cur.toList, _)] (hG.add hx hq (by simpa using hb)) (fun w1 hw1 => .inr ⟨q, 0, rfl, fun i v hv => ?_⟩) hr
    have hb1 := hw1 _ List.mem_cons_self
    rw [blk_cell hb1, Nat.zero_add]
    rw [← ht, List.getElem?_take] at hv
    split at hv
    · simpa using hv
    · cases hv
end

/-! ### the document's examples -/
def aB1 : List (Int × Bx) := gputB 10 [] 7 ⟨0, 0, 2⟩
def aD1 : List ((Int × Int) × List Int) := gputD 10 [] [] 7 ⟨0, 0, 2⟩
def aB2 : List (Int × Bx) := gputB 10 aB1 3 ⟨3, 0, 2⟩
def aD2 : List ((Int × Int) × List Int) := gputD 10 aB1 aD1 3 ⟨3, 0, 2⟩
def aB3 : List (Int × Bx) := gputB 10 aB2 7 ⟨0, 0, 2⟩
theorem aMet : metL aB2 aD2 ⟨1, 0, 1⟩ (cellsL' 10 ⟨1, 0, 1⟩) = [(7, true), (3, true)] := by decide
theorem aNear : gnearV 10 aB2 aD2 ⟨1, 0, 1⟩ = [3, 7] := by
  unfold gnearV
  rw [aMet]
  have hp : ([7, 3] : List Int).Perm [3, 7] := List.Perm.swap _ _ _
  have h1 := Go.mergeSort_of_perm_i hp
  have h2 : ([3, 7] : List Int).mergeSort leI = [3, 7] := List.mergeSort_of_pairwise (by decide)
  rw [h2] at h1
  exact h1
theorem aCells : cellsL' 10 ⟨10, 0, 1⟩ = [(0, -1), (1, -1), (0, 0), (1, 0)] := by decide

set_option maxHeartbeats 1000000 in
theorem gawake_k {w : World} {K : Value → World → Prop} (hK : ∀ w', Ext no w w' → K (.bool true) w') : cl Try.prog 22 #[] w K := by
  apply F22_calls
  unfold F22
  have hS := St.start w
  refine gCell_k (by unfold I64; omega) (by unfold I64; omega) fun w1 hx1 => ?_
  replace hS := hS.to hx1
  have e1 : gcellE 10 (-1) 19 = 0 := by decide
  have e2 : gcellP 10 (-1) 19 = (-1, 1) := by decide
  rw [e1, e2]
  refine asT_i (l := [cv (-1, 1), .int .i64 0]) rfl rfl (asC_i rfl (asI_i rfl (lv_i ?_)))
  refine cells_k (b := ⟨10, 0, 1⟩) fun p c w2 hx2 hr2 => ?_
  replace hS := hS.to hx2
  rw [aCells] at hr2
  have e3 : cellsE 10 ⟨10, 0, 1⟩ = 0 := by decide
  rw [aCells, e3]
  refine asT_i rfl rfl (asS_i rfl (asI_i rfl (lv_i ?_)))
  refine gnew_k (fun h => absurd h (by decide)) fun w3 F g mb mc _ hg hx3 hF => ?_
  have hG := Gw.start hS hg hx3 hF
  have hr3 := hr2.reads.ext hx3 fun _ _ h => h
  refine asT_i rfl rfl (asP_i rfl (asI_i rfl (lv_i ?_)))
  refine gnew_k (fun _ => ?_) (fun _ _ _ _ _ h => absurd h (by decide))
  refine asT_i rfl rfl (asP_i rfl (asI_i rfl (lv_i ?_)))
  refine jn_of (fun t w' => t = [.bool false] ∧ w' = w3) ?_ ?_
  · rintro _ w3 ⟨rfl, rfl⟩
    refine asB_i rfl (cond_f rfl ?_)
    refine hG.put (by decide) (b := ⟨0, 0, 2⟩) fun w4 hG => ?_
    have e4 : gputE 10 [] 7 ⟨0, 0, 2⟩ = 0 := by decide
    rw [e4]
    refine asI_i rfl (lv_i ?_)
    replace hG : Gw w w4 [] g 10 aB1 aD1 _ := hG
    refine hG.put (by decide) (b := ⟨3, 0, 2⟩) fun w5 hG => ?_
    have e5 : gputE 10 aB1 3 ⟨3, 0, 2⟩ = 0 := by decide
    rw [e5]
    refine asI_i rfl (lv_i ?_)
    replace hG : Gw w w5 [] g 10 aB2 aD2 _ := hG
    refine hG.near (by decide) (b := ⟨1, 0, 1⟩) (by rw [aMet]; unfold I64; decide) (by rw [aMet]; decide) fun p5 c5 w6 LL hG hH _ => ?_
    have e6 : cellsE 10 ⟨1, 0, 1⟩ = 0 := by decide
    rw [aNear] at hH
    rw [aNear, e6]
    refine asT_i rfl rfl (asS_i rfl (asI_i rfl (lv_i ?_)))
    refine jn_of (fun t w' => t = [.bool true] ∧ Ext no w w') ?_ ?_
    · rintro _ w7 ⟨rfl, hx⟩
      exact asB_i rfl (hK w7 hx)
    · intro J hJ
      refine cond_t rfl (cond_t rfl ?_)
      refine hG.put (by decide) (b := ⟨0, 0, 2⟩) fun w7 hG => ?_
      have e7 : gputE 10 aB2 7 ⟨0, 0, 2⟩ = 180 := by decide
      rw [e7]
      refine asI_i rfl (cond_t rfl ?_)
      refine hG.move0 (by decide) (b := ⟨0, 0, 2⟩) (by decide) fun w8 hG => asI_i rfl (cond_t rfl (cond_t rfl (cond_t rfl ?_)))
      have hR := hG.reads hH fun b hb => List.mem_append_left _ hb
      refine hR.at (i := 0) (v := .int .i64 3) (by decide) rfl (asI_i rfl (cond_t rfl ?_)) (by decide)
      exact hR.at (i := 1) (v := .int .i64 7) (by decide) rfl (asI_i rfl (hJ _ _ ⟨rfl, hG.st.ext⟩)) (by decide)
  · intro J hJ
    refine cond_f rfl (cond_f ?_ (cond_f rfl (cond_f rfl ?_)))
    · decide
    · refine hr3.at (i := 0) (v := cv (0, -1)) (by decide) rfl (asC_i rfl (cond_f (by decide) ?_)) (by decide)
      refine hr3.at (i := 3) (v := cv (1, 0)) (by decide) rfl (asC_i rfl (cond_f (by decide) ?_)) (by decide)
      exact cond_f rfl (cond_f rfl (hJ _ _ ⟨rfl, rfl⟩))
end Go.Proofs.Ytamobmjfdiecbaa

/- GrM: the plain law of grids: what lies in the cells is what the boxes touch; who meets has a cell in common; Near finds just those that meet. Conditions: those of each theorem, on its arguments. -/
namespace Go.Proofs.Ytamobmjfdiecbaa
open Go Go.Sx Go.Fp

theorem meet_iff {a b : Bx} : (meetV a b).1 = true ↔ (a.right = true ∧ b.right = true) ∧ gap a b false < 0 ∧ gap a b true < 0 := by
  unfold meetV gapV
  split
  · rename_i h
    simp [h]
  · rename_i h
    simp [h]

theorem meet_common {s : Int} {a b : Bx} (ha : cellsE s a = 0) (hb : cellsE s b = 0) (h : (meetV a b).1 = true) : ∃ c, c ∈ cellsL' s a ∧ c ∈ cellsL' s b := by
  obtain ⟨⟨ra, rb⟩, hx, hy⟩ := meet_iff.1 h
  obtain ⟨hs, _⟩ := cellsE_zero ha
  have hs1 : 1 ≤ s ∧ s ≤ 1099511627776 := by simpa [sideOk] using hs
  have a1 := right_iff.1 ra
  have b1 := right_iff.1 rb
  simp only [gap, adiff, Bx.at] at hx hy
  have mono : ∀ {x y : Int}, x ≤ y → x / s ≤ y / s := fun h => Int.ediv_le_ediv (by omega) h
  have X1 : a.x - a.r ≤ b.x + b.r - 1 := by revert hx; simp; omega
  have X2 : b.x - b.r ≤ a.x + a.r - 1 := by revert hx; simp; omega
  have Y1 : a.y - a.r ≤ b.y + b.r - 1 := by revert hy; simp; omega
  have Y2 : b.y - b.r ≤ a.y + a.r - 1 := by revert hy; simp; omega
  have m1 := mono X1
  have m2 := mono X2
  have m3 := mono Y1
  have m4 := mono Y2
  have la := span_le hs1.1 ra
  have lb := span_le hs1.1 rb
  simp only [spanOf] at la lb
  refine ⟨(max ((a.x - a.r) / s) ((b.x - b.r) / s), max ((a.y - a.r) / s) ((b.y - b.r) / s)), mem_cells.2 ⟨ha, ?_, ?_⟩, mem_cells.2 ⟨hb, ?_, ?_⟩⟩ <;> simp only [spanOf] <;> omega

theorem key_aset {A : List (Int × Bool)} {a x : Int} : x ∈ (aset A a true).map (·.1) ↔ x = a ∨ x ∈ A.map (·.1) := by
  rw [aset_keys]
  split
  · rename_i h
    constructor
    · exact .inr
    · rintro (rfl | h')
      · exact h
      · exact h'
  · simp only [List.mem_append, List.mem_singleton]
    exact Or.comm

theorem mem_metC {B : List (Int × Bx)} {b : Bx} {x : Int} : ∀ {ids : List Int} {A : List (Int × Bool)}, x ∈ (metC B b ids A).map (·.1) ↔ x ∈ A.map (·.1) ∨ (x ∈ ids ∧ (meetV (boxAt B x) b).1 = true)
  | [], A => by simp [metC]
  | id :: ids, A => by
    have e : metC B b (id :: ids) A = metC B b ids (if (meetV (boxAt B id) b).1 = true then aset A id true else A) := rfl
    rw [e, mem_metC]
    split
    · rename_i h
      rw [key_aset]
      constructor
      · rintro ((rfl | h1) | ⟨h1, h2⟩)
        · exact .inr ⟨List.mem_cons_self, h⟩
        · exact .inl h1
        · exact .inr ⟨List.mem_cons_of_mem _ h1, h2⟩
      · rintro (h1 | ⟨h1, h2⟩)
        · exact .inl (.inr h1)
        · rcases List.mem_cons.1 h1 with rfl | h1
          · exact .inl (.inl rfl)
          · exact .inr ⟨h1, h2⟩
    · rename_i h
      constructor
      · rintro (h1 | ⟨h1, h2⟩)
        · exact .inl h1
        · exact .inr ⟨List.mem_cons_of_mem _ h1, h2⟩
      · rintro (h1 | ⟨h1, h2⟩)
        · exact .inl h1
        · rcases List.mem_cons.1 h1 with rfl | h1
          · exact absurd h2 h
          · exact .inr ⟨h1, h2⟩

theorem mem_metL {B : List (Int × Bx)} {D : List ((Int × Int) × List Int)} {b : Bx} {l : List (Int × Int)} {x : Int} : x ∈ (metL B D b l).map (·.1) ↔ (∃ c ∈ l, x ∈ (aget D c).getD []) ∧ (meetV (boxAt B x) b).1 = true := by
  have key : ∀ (l : List (Int × Int)) (A : List (Int × Bool)), x ∈ (l.foldl (fun A c => metC B b ((aget D c).getD []) A) A).map (·.1) ↔ x ∈ A.map (·.1) ∨ ((∃ c ∈ l, x ∈ (aget D c).getD []) ∧ (meetV (boxAt B x) b).1 = true) := by
    intro l
    induction l with
    | nil => intro A; simp
    | cons c l ih =>
      intro A
      rw [List.foldl_cons, ih, mem_metC]
      constructor
      · rintro ((h | ⟨h1, h2⟩) | ⟨⟨d, h1, h2⟩, h3⟩)
        · exact .inl h
        · exact .inr ⟨⟨c, List.mem_cons_self, h1⟩, h2⟩
        · exact .inr ⟨⟨d, List.mem_cons_of_mem _ h1, h2⟩, h3⟩
      · rintro (h | ⟨⟨d, h1, h2⟩, h3⟩)
        · exact .inl (.inl h)
        · rcases List.mem_cons.1 h1 with rfl | h1
          · exact .inl (.inr ⟨h2, h3⟩)
          · exact .inr ⟨⟨d, h1, h2⟩, h3⟩
  have := key l []
  simpa [metL] using this

theorem mem_putL {l : List (Int × Int)} {id x : Int} : ∀ {D : List ((Int × Int) × List Int)} (c : Int × Int), x ∈ (aget (putL D l id) c).getD [] ↔ x ∈ (aget D c).getD [] ∨ (x = id ∧ c ∈ l) := by
  induction l with
  | nil => intro D c; simp [putL]
  | cons d l ih =>
    intro D c
    have e : putL D (d :: l) id = putL (addTo D d id) l id := rfl
    rw [e, ih]
    unfold addTo
    rw [aget_aset]
    by_cases h : c = d
    · subst h
      rw [if_pos rfl]
      simp only [Option.getD_some, List.mem_append, List.mem_cons, List.not_mem_nil, or_false, true_or, and_true]
      constructor
      · rintro ((h | h) | ⟨h, _⟩)
        · exact .inl h
        · exact .inr h
        · exact .inr h
      · rintro (h | h)
        · exact .inl (.inl h)
        · exact .inl (.inr h)
    · rw [if_neg h]
      simp only [List.mem_cons, h, false_or]

/-- what lies in the cells is what the boxes touch -/
structure Cons (s : Int) (B : List (Int × Bx)) (D : List ((Int × Int) × List Int)) : Prop where
  cell : ∀ (c : Int × Int) (x : Int), x ∈ (aget D c).getD [] ↔ ∃ b, aget B x = some b ∧ c ∈ cellsL' s b
  ok : ∀ x b, aget B x = some b → cellsE s b = 0 ∧ 0 ≤ x

theorem Cons.nil (s : Int) : Cons s [] [] := ⟨fun c x => by simp [aget, afind], fun x b h => by simp [aget, afind] at h⟩

theorem Cons.put {s : Int} {B : List (Int × Bx)} {D : List ((Int × Int) × List Int)} (h : Cons s B D) (id : Int) (b : Bx) : Cons s (gputB s B id b) (gputD s B D id b) := by
  unfold gputB gputD
  by_cases h0 : gputE s B id b = 0
  · rw [if_pos h0, if_pos h0]
    unfold gputE at h0
    split at h0
    · cases h0
    · rename_i hid
      split at h0
      · cases h0
      · rename_i hn
        have hn' : aget B id = none := by simpa using hn
        refine ⟨fun c x => ?_, fun x b' hx => ?_⟩
        · rw [mem_putL, h.cell, aget_aset]
          by_cases hx : x = id
          · subst hx
            rw [if_pos rfl, hn']
            constructor
            · rintro (⟨b', h1, _⟩ | ⟨_, h1⟩)
              · cases h1
              · exact ⟨b, rfl, h1⟩
            · rintro ⟨b', h1, h2⟩
              cases h1
              exact .inr ⟨rfl, h2⟩
          · rw [if_neg hx]
            simp [hx]
        · rw [aget_aset] at hx
          split at hx
          · rename_i he
            cases hx
            exact ⟨h0, by omega⟩
          · exact h.ok x b' hx
  · rw [if_neg h0, if_neg h0]
    exact h

/-- Near finds just those that meet -/
theorem Cons.near {s : Int} {B : List (Int × Bx)} {D : List ((Int × Int) × List Int)} (h : Cons s B D) {b : Bx} (hb : cellsE s b = 0) (x : Int) : x ∈ (metL B D b (cellsL' s b)).map (·.1) ↔ ∃ a, aget B x = some a ∧ (meetV a b).1 = true := by
  rw [mem_metL]
  constructor
  · rintro ⟨⟨c, _, h2⟩, h3⟩
    obtain ⟨a, h4, _⟩ := (h.cell c x).1 h2
    refine ⟨a, h4, ?_⟩
    have : boxAt B x = a := by unfold boxAt; rw [h4]; rfl
    rwa [this] at h3
  · rintro ⟨a, h1, h2⟩
    obtain ⟨c, h3, h4⟩ := meet_common (h.ok x a h1).1 hb h2
    refine ⟨⟨c, h4, (h.cell c x).2 ⟨a, h1, h3⟩⟩, ?_⟩
    have : boxAt B x = a := by unfold boxAt; rw [h1]; rfl
    rw [this]
    exact h2
end Go.Proofs.Ytamobmjfdiecbaa

/- WoC: entities and their places: which may be; a world as a thing in memory. Conditions: those of each theorem, on its arguments. -/
namespace Go.Proofs.Ytamobmjfdiecbaa
open Go Go.Sx Go.Fp
attribute [local irreducible] jn lv ld st nw asI asB asP asS asY asM asF asA asT lp rn ru rq cl dw dr bnd bn2 nz nn hd hr so eqW
attribute [local irreducible] callOk

structure Ent where
  h : Int
  x : Int
  y : Int
  r : Int
  vx : Int
  vy : Int
  o : Int
  t : Int
deriving DecidableEq

def Ent.cells (e : Ent) : List Value := [.int .i64 e.h, .int .i64 e.x, .int .i64 e.y, .int .i64 e.r, .int .i64 e.vx, .int .i64 e.vy, .int .i64 e.o, .int .i64 e.t]
def Ent.v (e : Ent) : Value := .agg e.cells.toArray
def Ent.box (e : Ent) : Bx := ⟨e.x, e.y, e.r⟩

def inn (n m : Int) : Bool := decide (-m ≤ n) && decide (n ≤ m)
def Ent.boxOk (e : Ent) : Bool := inn e.x 4398046511104 && inn e.y 4398046511104 && decide (1 ≤ e.r) && decide (e.r ≤ 17179869184)
def Ent.argOk (e : Ent) : Bool := inn e.vx 17179869184 && inn e.vy 17179869184 && decide (0 ≤ e.o) && decide (e.o ≤ 8)
def Ent.rightE (e : Ent) : Int := if e.boxOk then if e.argOk then 0 else 1 else 60

theorem wwithin_k {n m : Int} (hm : 0 ≤ m ∧ m ≤ 9223372036854775807) {w : World} {K : Value → World → Prop} (hK : K (.bool (inn n m)) w) : cl Try.prog 42 #[.int .i64 n, .int .i64 m] w K := by
  apply F42_calls
  unfold F42
  have e : IntKind.wrap .i64 (0 - m) = -m := by rw [wr64 (by omega) (by omega)]; omega
  rw [e]
  refine jn_mk (cond_split (fun h => asB_i rfl ?_) (fun h => asB_i rfl ?_))
  · have : inn n m = decide (n ≤ m) := by unfold inn; rw [h]; rfl
    rw [← this]; exact hK
  · have : inn n m = false := by unfold inn; rw [h]; rfl
    rw [← this]; exact hK

theorem eright_k {e : Ent} {w : World} {K : Value → World → Prop} (hK : ∀ w', Ext no w w' → K (.int .i64 e.rightE) w') : cl Try.prog 15 #[e.v] w K := by
  apply F15_calls
  unfold F15
  have hS := St.start w
  (refine St.nw hS ?_; clear hS; intro r1 _ hS)
  refine lv_i (jn_of (fun s w' => ∃ ra rb, s = [.pointer (some ⟨ra, 0, none⟩), .pointer (some ⟨rb, 0, none⟩)] ∧ St w w' [(rb, [.int .i64 e.vx, .int .i64 e.vy], 23), (ra, [.int .i64 e.x, .int .i64 e.y], 23), (r1, e.cells, 27)]) ?_ ?_)
  · clear hS
    rintro _ w1 ⟨ra, rb, rfl, hS⟩
    repeat (first | (refine asI_i rfl ?_) | (refine asB_i rfl ?_) | (refine asP_i rfl ?_) | (refine asS_i rfl ?_) | (refine asY_i rfl ?_) | (refine asM_i rfl ?_) | (refine asA_i rfl rfl ?_) | (refine asT_i rfl rfl ?_) | (refine lv_i ?_))
    refine jn_of (fun s w' => s = [.bool (!e.boxOk)] ∧ St w w' [(rb, [.int .i64 e.vx, .int .i64 e.vy], 23), (ra, [.int .i64 e.x, .int .i64 e.y], 23), (r1, e.cells, 27)]) ?_ ?_
    · clear hS
      rintro _ w2 ⟨rfl, hS⟩
      refine asB_i rfl (cond_split (fun h => lv_i ?_) (fun h => ?_))
      · have hb : ¬ e.boxOk = true := by simpa using h
        have := hK w2 hS.ext
        unfold Ent.rightE at this
        rw [if_neg hb] at this
        exact this
      have hb : e.boxOk = true := by simpa using h
      refine jn_of (fun s w' => s = [.bool (!e.argOk)] ∧ St w w' [(rb, [.int .i64 e.vx, .int .i64 e.vy], 23), (ra, [.int .i64 e.x, .int .i64 e.y], 23), (r1, e.cells, 27)]) ?_ ?_
      · clear hS
        rintro _ w3 ⟨rfl, hS⟩
        have := hK w3 hS.ext
        unfold Ent.rightE at this
        rw [if_pos hb] at this
        refine asB_i rfl (cond_split (fun h => lv_i ?_) (fun h => lv_i ?_))
        · rw [if_neg (by simpa using h)] at this
          exact this
        · rw [if_pos (by simpa using h)] at this
          exact this
      · intro J hJ
        refine dr_i ?_
        repeat (first | (refine dr_i ?_) | (refine asI_i rfl ?_) | (refine asB_i rfl ?_) | (refine asP_i rfl ?_) | (refine asS_i rfl ?_) | (refine asY_i rfl ?_) | (refine asM_i rfl ?_) | (refine asA_i rfl rfl ?_) | (refine asT_i rfl rfl ?_) | (refine lv_i ?_) | (refine St.nw hS ?_; clear hS; intro _ _ hS) | (refine St.dw hS ?_; clear hS; intro _ hS _) | (refine hS.ld0 0 rfl rfl ?_) | (refine hS.ld 0 rfl rfl ?_) | (refine hS.ld0 1 rfl rfl ?_) | (refine hS.ld 1 rfl rfl ?_) | (refine hS.ld0 2 rfl rfl ?_) | (refine hS.ld 2 rfl rfl ?_) | (refine hS.ld0 3 rfl rfl ?_) | (refine hS.ld 3 rfl rfl ?_) | (refine hS.ld0 4 rfl rfl ?_) | (refine hS.ld 4 rfl rfl ?_) | (refine hS.ld0 5 rfl rfl ?_) | (refine hS.ld 5 rfl rfl ?_) | (refine hS.ldd 0 rfl rfl ?_) | (refine hS.ldd 1 rfl rfl ?_) | (refine hS.ldd 2 rfl rfl ?_) | (refine hS.ldd 3 rfl rfl ?_) | (refine hS.ldd 4 rfl rfl ?_) | (refine hS.ldd 5 rfl rfl ?_) | (refine hS.hd0 0 rfl rfl ?_) | (refine hS.hd 0 rfl rfl ?_) | (refine hS.hd0 1 rfl rfl ?_) | (refine hS.hd 1 rfl rfl ?_) | (refine hS.hd0 2 rfl rfl ?_) | (refine hS.hd 2 rfl rfl ?_) | (refine hS.hd0 3 rfl rfl ?_) | (refine hS.hd 3 rfl rfl ?_) | (refine hS.hd0 4 rfl rfl ?_) | (refine hS.hd 4 rfl rfl ?_) | (refine hS.hd0 5 rfl rfl ?_) | (refine hS.hd 5 rfl rfl ?_) | (refine hS.hdd 0 rfl rfl ?_) | (refine hS.hdd 1 rfl rfl ?_) | (refine hS.hdd 2 rfl rfl ?_) | (refine hS.hdd 3 rfl rfl ?_) | (refine hS.hdd 4 rfl rfl ?_) | (refine hS.hdd 5 rfl rfl ?_) | (refine hS.st0 0 rfl rfl rfl ?_; clear hS; intro _ hS) | (refine hS.st 0 rfl rfl rfl ?_; clear hS; intro _ hS) | (refine hS.st0 1 rfl rfl rfl ?_; clear hS; intro _ hS) | (refine hS.st 1 rfl rfl rfl ?_; clear hS; intro _ hS) | (refine hS.st0 2 rfl rfl rfl ?_; clear hS; intro _ hS) | (refine hS.st 2 rfl rfl rfl ?_; clear hS; intro _ hS) | (refine hS.st0 3 rfl rfl rfl ?_; clear hS; intro _ hS) | (refine hS.st 3 rfl rfl rfl ?_; clear hS; intro _ hS) | (refine hS.st0 4 rfl rfl rfl ?_; clear hS; intro _ hS) | (refine hS.st 4 rfl rfl rfl ?_; clear hS; intro _ hS) | (refine hS.st0 5 rfl rfl rfl ?_; clear hS; intro _ hS) | (refine hS.st 5 rfl rfl rfl ?_; clear hS; intro _ hS) | (refine hS.std 0 rfl rfl rfl ?_; clear hS; intro _ hS) | (refine hS.std 1 rfl rfl rfl ?_; clear hS; intro _ hS) | (refine hS.std 2 rfl rfl rfl ?_; clear hS; intro _ hS) | (refine hS.std 3 rfl rfl rfl ?_; clear hS; intro _ hS) | (refine hS.std 4 rfl rfl rfl ?_; clear hS; intro _ hS) | (refine hS.std 5 rfl rfl rfl ?_; clear hS; intro _ hS) | (refine bnd_mk (by decide) (by decide) ?_) | (refine so_i rfl ?_))
        refine wwithin_k (by decide) (asB_i rfl (cond_split (fun h => hJ _ _ ⟨?_, hS⟩) (fun h => dr_i ?_)))
        · have : inn e.vx 17179869184 = false := by simpa using h
          unfold Ent.argOk; rw [this]; rfl
        have h1 : inn e.vx 17179869184 = true := by simpa using h
        repeat (first | (refine dr_i ?_) | (refine asI_i rfl ?_) | (refine asB_i rfl ?_) | (refine asP_i rfl ?_) | (refine asS_i rfl ?_) | (refine asY_i rfl ?_) | (refine asM_i rfl ?_) | (refine asA_i rfl rfl ?_) | (refine asT_i rfl rfl ?_) | (refine lv_i ?_) | (refine St.nw hS ?_; clear hS; intro _ _ hS) | (refine St.dw hS ?_; clear hS; intro _ hS _) | (refine hS.ld0 0 rfl rfl ?_) | (refine hS.ld 0 rfl rfl ?_) | (refine hS.ld0 1 rfl rfl ?_) | (refine hS.ld 1 rfl rfl ?_) | (refine hS.ld0 2 rfl rfl ?_) | (refine hS.ld 2 rfl rfl ?_) | (refine hS.ld0 3 rfl rfl ?_) | (refine hS.ld 3 rfl rfl ?_) | (refine hS.ld0 4 rfl rfl ?_) | (refine hS.ld 4 rfl rfl ?_) | (refine hS.ld0 5 rfl rfl ?_) | (refine hS.ld 5 rfl rfl ?_) | (refine hS.ldd 0 rfl rfl ?_) | (refine hS.ldd 1 rfl rfl ?_) | (refine hS.ldd 2 rfl rfl ?_) | (refine hS.ldd 3 rfl rfl ?_) | (refine hS.ldd 4 rfl rfl ?_) | (refine hS.ldd 5 rfl rfl ?_) | (refine hS.hd0 0 rfl rfl ?_) | (refine hS.hd 0 rfl rfl ?_) | (refine hS.hd0 1 rfl rfl ?_) | (refine hS.hd 1 rfl rfl ?_) | (refine hS.hd0 2 rfl rfl ?_) | (refine hS.hd 2 rfl rfl ?_) | (refine hS.hd0 3 rfl rfl ?_) | (refine hS.hd 3 rfl rfl ?_) | (refine hS.hd0 4 rfl rfl ?_) | (refine hS.hd 4 rfl rfl ?_) | (refine hS.hd0 5 rfl rfl ?_) | (refine hS.hd 5 rfl rfl ?_) | (refine hS.hdd 0 rfl rfl ?_) | (refine hS.hdd 1 rfl rfl ?_) | (refine hS.hdd 2 rfl rfl ?_) | (refine hS.hdd 3 rfl rfl ?_) | (refine hS.hdd 4 rfl rfl ?_) | (refine hS.hdd 5 rfl rfl ?_) | (refine hS.st0 0 rfl rfl rfl ?_; clear hS; intro _ hS) | (refine hS.st 0 rfl rfl rfl ?_; clear hS; intro _ hS) | (refine hS.st0 1 rfl rfl rfl ?_; clear hS; intro _ hS) | (refine hS.st 1 rfl rfl rfl ?_; clear hS; intro _ hS) | (refine hS.st0 2 rfl rfl rfl ?_; clear hS; intro _ hS) | (refine hS.st 2 rfl rfl rfl ?_; clear hS; intro _ hS) | (refine hS.st0 3 rfl rfl rfl ?_; clear hS; intro _ hS) | (refine hS.st 3 rfl rfl rfl ?_; clear hS; intro _ hS) | (refine hS.st0 4 rfl rfl rfl ?_; clear hS; intro _ hS) | (refine hS.st 4 rfl rfl rfl ?_; clear hS; intro _ hS) | (refine hS.st0 5 rfl rfl rfl ?_; clear hS; intro _ hS) | (refine hS.st 5 rfl rfl rfl ?_; clear hS; intro _ hS) | (refine hS.std 0 rfl rfl rfl ?_; clear hS; intro _ hS) | (refine hS.std 1 rfl rfl rfl ?_; clear hS; intro _ hS) | (refine hS.std 2 rfl rfl rfl ?_; clear hS; intro _ hS) | (refine hS.std 3 rfl rfl rfl ?_; clear hS; intro _ hS) | (refine hS.std 4 rfl rfl rfl ?_; clear hS; intro _ hS) | (refine hS.std 5 rfl rfl rfl ?_; clear hS; intro _ hS) | (refine bnd_mk (by decide) (by decide) ?_) | (refine so_i rfl ?_))
        refine wwithin_k (by decide) (asB_i rfl (cond_split (fun h => hJ _ _ ⟨?_, hS⟩) (fun h => ?_)))
        · have : inn e.vy 17179869184 = false := by simpa using h
          unfold Ent.argOk; rw [this, h1]; rfl
        have h2 : inn e.vy 17179869184 = true := by simpa using h
        repeat (first | (refine dr_i ?_) | (refine asI_i rfl ?_) | (refine asB_i rfl ?_) | (refine asP_i rfl ?_) | (refine asS_i rfl ?_) | (refine asY_i rfl ?_) | (refine asM_i rfl ?_) | (refine asA_i rfl rfl ?_) | (refine asT_i rfl rfl ?_) | (refine lv_i ?_) | (refine St.nw hS ?_; clear hS; intro _ _ hS) | (refine St.dw hS ?_; clear hS; intro _ hS _) | (refine hS.ld0 0 rfl rfl ?_) | (refine hS.ld 0 rfl rfl ?_) | (refine hS.ld0 1 rfl rfl ?_) | (refine hS.ld 1 rfl rfl ?_) | (refine hS.ld0 2 rfl rfl ?_) | (refine hS.ld 2 rfl rfl ?_) | (refine hS.ld0 3 rfl rfl ?_) | (refine hS.ld 3 rfl rfl ?_) | (refine hS.ld0 4 rfl rfl ?_) | (refine hS.ld 4 rfl rfl ?_) | (refine hS.ld0 5 rfl rfl ?_) | (refine hS.ld 5 rfl rfl ?_) | (refine hS.ldd 0 rfl rfl ?_) | (refine hS.ldd 1 rfl rfl ?_) | (refine hS.ldd 2 rfl rfl ?_) | (refine hS.ldd 3 rfl rfl ?_) | (refine hS.ldd 4 rfl rfl ?_) | (refine hS.ldd 5 rfl rfl ?_) | (refine hS.hd0 0 rfl rfl ?_) | (refine hS.hd 0 rfl rfl ?_) | (refine hS.hd0 1 rfl rfl ?_) | (refine hS.hd 1 rfl rfl ?_) | (refine hS.hd0 2 rfl rfl ?_) | (refine hS.hd 2 rfl rfl ?_) | (refine hS.hd0 3 rfl rfl ?_) | (refine hS.hd 3 rfl rfl ?_) | (refine hS.hd0 4 rfl rfl ?_) | (refine hS.hd 4 rfl rfl ?_) | (refine hS.hd0 5 rfl rfl ?_) | (refine hS.hd 5 rfl rfl ?_) | (refine hS.hdd 0 rfl rfl ?_) | (refine hS.hdd 1 rfl rfl ?_) | (refine hS.hdd 2 rfl rfl ?_) | (refine hS.hdd 3 rfl rfl ?_) | (refine hS.hdd 4 rfl rfl ?_) | (refine hS.hdd 5 rfl rfl ?_) | (refine hS.st0 0 rfl rfl rfl ?_; clear hS; intro _ hS) | (refine hS.st 0 rfl rfl rfl ?_; clear hS; intro _ hS) | (refine hS.st0 1 rfl rfl rfl ?_; clear hS; intro _ hS) | (refine hS.st 1 rfl rfl rfl ?_; clear hS; intro _ hS) | (refine hS.st0 2 rfl rfl rfl ?_; clear hS; intro _ hS) | (refine hS.st 2 rfl rfl rfl ?_; clear hS; intro _ hS) | (refine hS.st0 3 rfl rfl rfl ?_; clear hS; intro _ hS) | (refine hS.st 3 rfl rfl rfl ?_; clear hS; intro _ hS) | (refine hS.st0 4 rfl rfl rfl ?_; clear hS; intro _ hS) | (refine hS.st 4 rfl rfl rfl ?_; clear hS; intro _ hS) | (refine hS.st0 5 rfl rfl rfl ?_; clear hS; intro _ hS) | (refine hS.st 5 rfl rfl rfl ?_; clear hS; intro _ hS) | (refine hS.std 0 rfl rfl rfl ?_; clear hS; intro _ hS) | (refine hS.std 1 rfl rfl rfl ?_; clear hS; intro _ hS) | (refine hS.std 2 rfl rfl rfl ?_; clear hS; intro _ hS) | (refine hS.std 3 rfl rfl rfl ?_; clear hS; intro _ hS) | (refine hS.std 4 rfl rfl rfl ?_; clear hS; intro _ hS) | (refine hS.std 5 rfl rfl rfl ?_; clear hS; intro _ hS) | (refine bnd_mk (by decide) (by decide) ?_) | (refine so_i rfl ?_))
        refine cond_split (fun h => hJ _ _ ⟨?_, hS⟩) (fun h => ?_)
        · have h3 := of_decide_eq_true h
          unfold Ent.argOk
          rw [h1, h2, h, decide_eq_false (show ¬ 0 ≤ e.o by omega)]; rfl
        have h3 := of_decide_eq_false h
        repeat (first | (refine dr_i ?_) | (refine asI_i rfl ?_) | (refine asB_i rfl ?_) | (refine asP_i rfl ?_) | (refine asS_i rfl ?_) | (refine asY_i rfl ?_) | (refine asM_i rfl ?_) | (refine asA_i rfl rfl ?_) | (refine asT_i rfl rfl ?_) | (refine lv_i ?_) | (refine St.nw hS ?_; clear hS; intro _ _ hS) | (refine St.dw hS ?_; clear hS; intro _ hS _) | (refine hS.ld0 0 rfl rfl ?_) | (refine hS.ld 0 rfl rfl ?_) | (refine hS.ld0 1 rfl rfl ?_) | (refine hS.ld 1 rfl rfl ?_) | (refine hS.ld0 2 rfl rfl ?_) | (refine hS.ld 2 rfl rfl ?_) | (refine hS.ld0 3 rfl rfl ?_) | (refine hS.ld 3 rfl rfl ?_) | (refine hS.ld0 4 rfl rfl ?_) | (refine hS.ld 4 rfl rfl ?_) | (refine hS.ld0 5 rfl rfl ?_) | (refine hS.ld 5 rfl rfl ?_) | (refine hS.ldd 0 rfl rfl ?_) | (refine hS.ldd 1 rfl rfl ?_) | (refine hS.ldd 2 rfl rfl ?_) | (refine hS.ldd 3 rfl rfl ?_) | (refine hS.ldd 4 rfl rfl ?_) | (refine hS.ldd 5 rfl rfl ?_) | (refine hS.hd0 0 rfl rfl ?_) | (refine hS.hd 0 rfl rfl ?_) | (refine hS.hd0 1 rfl rfl ?_) | (refine hS.hd 1 rfl rfl ?_) | (refine hS.hd0 2 rfl rfl ?_) | (refine hS.hd 2 rfl rfl ?_) | (refine hS.hd0 3 rfl rfl ?_) | (refine hS.hd 3 rfl rfl ?_) | (refine hS.hd0 4 rfl rfl ?_) | (refine hS.hd 4 rfl rfl ?_) | (refine hS.hd0 5 rfl rfl ?_) | (refine hS.hd 5 rfl rfl ?_) | (refine hS.hdd 0 rfl rfl ?_) | (refine hS.hdd 1 rfl rfl ?_) | (refine hS.hdd 2 rfl rfl ?_) | (refine hS.hdd 3 rfl rfl ?_) | (refine hS.hdd 4 rfl rfl ?_) | (refine hS.hdd 5 rfl rfl ?_) | (refine hS.st0 0 rfl rfl rfl ?_; clear hS; intro _ hS) | (refine hS.st 0 rfl rfl rfl ?_; clear hS; intro _ hS) | (refine hS.st0 1 rfl rfl rfl ?_; clear hS; intro _ hS) | (refine hS.st 1 rfl rfl rfl ?_; clear hS; intro _ hS) | (refine hS.st0 2 rfl rfl rfl ?_; clear hS; intro _ hS) | (refine hS.st 2 rfl rfl rfl ?_; clear hS; intro _ hS) | (refine hS.st0 3 rfl rfl rfl ?_; clear hS; intro _ hS) | (refine hS.st 3 rfl rfl rfl ?_; clear hS; intro _ hS) | (refine hS.st0 4 rfl rfl rfl ?_; clear hS; intro _ hS) | (refine hS.st 4 rfl rfl rfl ?_; clear hS; intro _ hS) | (refine hS.st0 5 rfl rfl rfl ?_; clear hS; intro _ hS) | (refine hS.st 5 rfl rfl rfl ?_; clear hS; intro _ hS) | (refine hS.std 0 rfl rfl rfl ?_; clear hS; intro _ hS) | (refine hS.std 1 rfl rfl rfl ?_; clear hS; intro _ hS) | (refine hS.std 2 rfl rfl rfl ?_; clear hS; intro _ hS) | (refine hS.std 3 rfl rfl rfl ?_; clear hS; intro _ hS) | (refine hS.std 4 rfl rfl rfl ?_; clear hS; intro _ hS) | (refine hS.std 5 rfl rfl rfl ?_; clear hS; intro _ hS) | (refine bnd_mk (by decide) (by decide) ?_) | (refine so_i rfl ?_))
        refine hJ _ _ ⟨?_, hS⟩
        unfold Ent.argOk
        rw [h1, h2, decide_eq_true (show 0 ≤ e.o by omega)]
        congr 2
        simp only [Bool.true_and]
        by_cases h4 : e.o ≤ 8
        · rw [decide_eq_true h4, decide_eq_false (by omega)]; rfl
        · rw [decide_eq_false h4, decide_eq_true (by omega)]; rfl
    · intro J hJ
      refine dr_i ?_
      repeat (first | (refine dr_i ?_) | (refine asI_i rfl ?_) | (refine asB_i rfl ?_) | (refine asP_i rfl ?_) | (refine asS_i rfl ?_) | (refine asY_i rfl ?_) | (refine asM_i rfl ?_) | (refine asA_i rfl rfl ?_) | (refine asT_i rfl rfl ?_) | (refine lv_i ?_) | (refine St.nw hS ?_; clear hS; intro _ _ hS) | (refine St.dw hS ?_; clear hS; intro _ hS _) | (refine hS.ld0 0 rfl rfl ?_) | (refine hS.ld 0 rfl rfl ?_) | (refine hS.ld0 1 rfl rfl ?_) | (refine hS.ld 1 rfl rfl ?_) | (refine hS.ld0 2 rfl rfl ?_) | (refine hS.ld 2 rfl rfl ?_) | (refine hS.ld0 3 rfl rfl ?_) | (refine hS.ld 3 rfl rfl ?_) | (refine hS.ld0 4 rfl rfl ?_) | (refine hS.ld 4 rfl rfl ?_) | (refine hS.ld0 5 rfl rfl ?_) | (refine hS.ld 5 rfl rfl ?_) | (refine hS.ldd 0 rfl rfl ?_) | (refine hS.ldd 1 rfl rfl ?_) | (refine hS.ldd 2 rfl rfl ?_) | (refine hS.ldd 3 rfl rfl ?_) | (refine hS.ldd 4 rfl rfl ?_) | (refine hS.ldd 5 rfl rfl ?_) | (refine hS.hd0 0 rfl rfl ?_) | (refine hS.hd 0 rfl rfl ?_) | (refine hS.hd0 1 rfl rfl ?_) | (refine hS.hd 1 rfl rfl ?_) | (refine hS.hd0 2 rfl rfl ?_) | (refine hS.hd 2 rfl rfl ?_) | (refine hS.hd0 3 rfl rfl ?_) | (refine hS.hd 3 rfl rfl ?_) | (refine hS.hd0 4 rfl rfl ?_) | (refine hS.hd 4 rfl rfl ?_) | (refine hS.hd0 5 rfl rfl ?_) | (refine hS.hd 5 rfl rfl ?_) | (refine hS.hdd 0 rfl rfl ?_) | (refine hS.hdd 1 rfl rfl ?_) | (refine hS.hdd 2 rfl rfl ?_) | (refine hS.hdd 3 rfl rfl ?_) | (refine hS.hdd 4 rfl rfl ?_) | (refine hS.hdd 5 rfl rfl ?_) | (refine hS.st0 0 rfl rfl rfl ?_; clear hS; intro _ hS) | (refine hS.st 0 rfl rfl rfl ?_; clear hS; intro _ hS) | (refine hS.st0 1 rfl rfl rfl ?_; clear hS; intro _ hS) | (refine hS.st 1 rfl rfl rfl ?_; clear hS; intro _ hS) | (refine hS.st0 2 rfl rfl rfl ?_; clear hS; intro _ hS) | (refine hS.st 2 rfl rfl rfl ?_; clear hS; intro _ hS) | (refine hS.st0 3 rfl rfl rfl ?_; clear hS; intro _ hS) | (refine hS.st 3 rfl rfl rfl ?_; clear hS; intro _ hS) | (refine hS.st0 4 rfl rfl rfl ?_; clear hS; intro _ hS) | (refine hS.st 4 rfl rfl rfl ?_; clear hS; intro _ hS) | (refine hS.st0 5 rfl rfl rfl ?_; clear hS; intro _ hS) | (refine hS.st 5 rfl rfl rfl ?_; clear hS; intro _ hS) | (refine hS.std 0 rfl rfl rfl ?_; clear hS; intro _ hS) | (refine hS.std 1 rfl rfl rfl ?_; clear hS; intro _ hS) | (refine hS.std 2 rfl rfl rfl ?_; clear hS; intro _ hS) | (refine hS.std 3 rfl rfl rfl ?_; clear hS; intro _ hS) | (refine hS.std 4 rfl rfl rfl ?_; clear hS; intro _ hS) | (refine hS.std 5 rfl rfl rfl ?_; clear hS; intro _ hS) | (refine bnd_mk (by decide) (by decide) ?_) | (refine so_i rfl ?_))
      refine wwithin_k (by decide) (asB_i rfl (cond_split (fun h => hJ _ _ ⟨?_, hS⟩) (fun h => dr_i ?_)))
      · have : inn e.x 4398046511104 = false := by simpa using h
        unfold Ent.boxOk; rw [this]; rfl
      have h1 : inn e.x 4398046511104 = true := by simpa using h
      repeat (first | (refine dr_i ?_) | (refine asI_i rfl ?_) | (refine asB_i rfl ?_) | (refine asP_i rfl ?_) | (refine asS_i rfl ?_) | (refine asY_i rfl ?_) | (refine asM_i rfl ?_) | (refine asA_i rfl rfl ?_) | (refine asT_i rfl rfl ?_) | (refine lv_i ?_) | (refine St.nw hS ?_; clear hS; intro _ _ hS) | (refine St.dw hS ?_; clear hS; intro _ hS _) | (refine hS.ld0 0 rfl rfl ?_) | (refine hS.ld 0 rfl rfl ?_) | (refine hS.ld0 1 rfl rfl ?_) | (refine hS.ld 1 rfl rfl ?_) | (refine hS.ld0 2 rfl rfl ?_) | (refine hS.ld 2 rfl rfl ?_) | (refine hS.ld0 3 rfl rfl ?_) | (refine hS.ld 3 rfl rfl ?_) | (refine hS.ld0 4 rfl rfl ?_) | (refine hS.ld 4 rfl rfl ?_) | (refine hS.ld0 5 rfl rfl ?_) | (refine hS.ld 5 rfl rfl ?_) | (refine hS.ldd 0 rfl rfl ?_) | (refine hS.ldd 1 rfl rfl ?_) | (refine hS.ldd 2 rfl rfl ?_) | (refine hS.ldd 3 rfl rfl ?_) | (refine hS.ldd 4 rfl rfl ?_) | (refine hS.ldd 5 rfl rfl ?_) | (refine hS.hd0 0 rfl rfl ?_) | (refine hS.hd 0 rfl rfl ?_) | (refine hS.hd0 1 rfl rfl ?_) | (refine hS.hd 1 rfl rfl ?_) | (refine hS.hd0 2 rfl rfl ?_) | (refine hS.hd 2 rfl rfl ?_) | (refine hS.hd0 3 rfl rfl ?_) | (refine hS.hd 3 rfl rfl ?_) | (refine hS.hd0 4 rfl rfl ?_) | (refine hS.hd 4 rfl rfl ?_) | (refine hS.hd0 5 rfl rfl ?_) | (refine hS.hd 5 rfl rfl ?_) | (refine hS.hdd 0 rfl rfl ?_) | (refine hS.hdd 1 rfl rfl ?_) | (refine hS.hdd 2 rfl rfl ?_) | (refine hS.hdd 3 rfl rfl ?_) | (refine hS.hdd 4 rfl rfl ?_) | (refine hS.hdd 5 rfl rfl ?_) | (refine hS.st0 0 rfl rfl rfl ?_; clear hS; intro _ hS) | (refine hS.st 0 rfl rfl rfl ?_; clear hS; intro _ hS) | (refine hS.st0 1 rfl rfl rfl ?_; clear hS; intro _ hS) | (refine hS.st 1 rfl rfl rfl ?_; clear hS; intro _ hS) | (refine hS.st0 2 rfl rfl rfl ?_; clear hS; intro _ hS) | (refine hS.st 2 rfl rfl rfl ?_; clear hS; intro _ hS) | (refine hS.st0 3 rfl rfl rfl ?_; clear hS; intro _ hS) | (refine hS.st 3 rfl rfl rfl ?_; clear hS; intro _ hS) | (refine hS.st0 4 rfl rfl rfl ?_; clear hS; intro _ hS) | (refine hS.st 4 rfl rfl rfl ?_; clear hS; intro _ hS) | (refine hS.st0 5 rfl rfl rfl ?_; clear hS; intro _ hS) | (refine hS.st 5 rfl rfl rfl ?_; clear hS; intro _ hS) | (refine hS.std 0 rfl rfl rfl ?_; clear hS; intro _ hS) | (refine hS.std 1 rfl rfl rfl ?_; clear hS; intro _ hS) | (refine hS.std 2 rfl rfl rfl ?_; clear hS; intro _ hS) | (refine hS.std 3 rfl rfl rfl ?_; clear hS; intro _ hS) | (refine hS.std 4 rfl rfl rfl ?_; clear hS; intro _ hS) | (refine hS.std 5 rfl rfl rfl ?_; clear hS; intro _ hS) | (refine bnd_mk (by decide) (by decide) ?_) | (refine so_i rfl ?_))
      refine wwithin_k (by decide) (asB_i rfl (cond_split (fun h => hJ _ _ ⟨?_, hS⟩) (fun h => ?_)))
      · have : inn e.y 4398046511104 = false := by simpa using h
        unfold Ent.boxOk; rw [this, h1]; rfl
      have h2 : inn e.y 4398046511104 = true := by simpa using h
      repeat (first | (refine dr_i ?_) | (refine asI_i rfl ?_) | (refine asB_i rfl ?_) | (refine asP_i rfl ?_) | (refine asS_i rfl ?_) | (refine asY_i rfl ?_) | (refine asM_i rfl ?_) | (refine asA_i rfl rfl ?_) | (refine asT_i rfl rfl ?_) | (refine lv_i ?_) | (refine St.nw hS ?_; clear hS; intro _ _ hS) | (refine St.dw hS ?_; clear hS; intro _ hS _) | (refine hS.ld0 0 rfl rfl ?_) | (refine hS.ld 0 rfl rfl ?_) | (refine hS.ld0 1 rfl rfl ?_) | (refine hS.ld 1 rfl rfl ?_) | (refine hS.ld0 2 rfl rfl ?_) | (refine hS.ld 2 rfl rfl ?_) | (refine hS.ld0 3 rfl rfl ?_) | (refine hS.ld 3 rfl rfl ?_) | (refine hS.ld0 4 rfl rfl ?_) | (refine hS.ld 4 rfl rfl ?_) | (refine hS.ld0 5 rfl rfl ?_) | (refine hS.ld 5 rfl rfl ?_) | (refine hS.ldd 0 rfl rfl ?_) | (refine hS.ldd 1 rfl rfl ?_) | (refine hS.ldd 2 rfl rfl ?_) | (refine hS.ldd 3 rfl rfl ?_) | (refine hS.ldd 4 rfl rfl ?_) | (refine hS.ldd 5 rfl rfl ?_) | (refine hS.hd0 0 rfl rfl ?_) | (refine hS.hd 0 rfl rfl ?_) | (refine hS.hd0 1 rfl rfl ?_) | (refine hS.hd 1 rfl rfl ?_) | (refine hS.hd0 2 rfl rfl ?_) | (refine hS.hd 2 rfl rfl ?_) | (refine hS.hd0 3 rfl rfl ?_) | (refine hS.hd 3 rfl rfl ?_) | (refine hS.hd0 4 rfl rfl ?_) | (refine hS.hd 4 rfl rfl ?_) | (refine hS.hd0 5 rfl rfl ?_) | (refine hS.hd 5 rfl rfl ?_) | (refine hS.hdd 0 rfl rfl ?_) | (refine hS.hdd 1 rfl rfl ?_) | (refine hS.hdd 2 rfl rfl ?_) | (refine hS.hdd 3 rfl rfl ?_) | (refine hS.hdd 4 rfl rfl ?_) | (refine hS.hdd 5 rfl rfl ?_) | (refine hS.st0 0 rfl rfl rfl ?_; clear hS; intro _ hS) | (refine hS.st 0 rfl rfl rfl ?_; clear hS; intro _ hS) | (refine hS.st0 1 rfl rfl rfl ?_; clear hS; intro _ hS) | (refine hS.st 1 rfl rfl rfl ?_; clear hS; intro _ hS) | (refine hS.st0 2 rfl rfl rfl ?_; clear hS; intro _ hS) | (refine hS.st 2 rfl rfl rfl ?_; clear hS; intro _ hS) | (refine hS.st0 3 rfl rfl rfl ?_; clear hS; intro _ hS) | (refine hS.st 3 rfl rfl rfl ?_; clear hS; intro _ hS) | (refine hS.st0 4 rfl rfl rfl ?_; clear hS; intro _ hS) | (refine hS.st 4 rfl rfl rfl ?_; clear hS; intro _ hS) | (refine hS.st0 5 rfl rfl rfl ?_; clear hS; intro _ hS) | (refine hS.st 5 rfl rfl rfl ?_; clear hS; intro _ hS) | (refine hS.std 0 rfl rfl rfl ?_; clear hS; intro _ hS) | (refine hS.std 1 rfl rfl rfl ?_; clear hS; intro _ hS) | (refine hS.std 2 rfl rfl rfl ?_; clear hS; intro _ hS) | (refine hS.std 3 rfl rfl rfl ?_; clear hS; intro _ hS) | (refine hS.std 4 rfl rfl rfl ?_; clear hS; intro _ hS) | (refine hS.std 5 rfl rfl rfl ?_; clear hS; intro _ hS) | (refine bnd_mk (by decide) (by decide) ?_) | (refine so_i rfl ?_))
      refine cond_split (fun h => hJ _ _ ⟨?_, hS⟩) (fun h => ?_)
      · have h3 := of_decide_eq_true h
        unfold Ent.boxOk
        rw [h1, h2, h, decide_eq_false (show ¬ 1 ≤ e.r by omega)]; rfl
      have h3 := of_decide_eq_false h
      repeat (first | (refine dr_i ?_) | (refine asI_i rfl ?_) | (refine asB_i rfl ?_) | (refine asP_i rfl ?_) | (refine asS_i rfl ?_) | (refine asY_i rfl ?_) | (refine asM_i rfl ?_) | (refine asA_i rfl rfl ?_) | (refine asT_i rfl rfl ?_) | (refine lv_i ?_) | (refine St.nw hS ?_; clear hS; intro _ _ hS) | (refine St.dw hS ?_; clear hS; intro _ hS _) | (refine hS.ld0 0 rfl rfl ?_) | (refine hS.ld 0 rfl rfl ?_) | (refine hS.ld0 1 rfl rfl ?_) | (refine hS.ld 1 rfl rfl ?_) | (refine hS.ld0 2 rfl rfl ?_) | (refine hS.ld 2 rfl rfl ?_) | (refine hS.ld0 3 rfl rfl ?_) | (refine hS.ld 3 rfl rfl ?_) | (refine hS.ld0 4 rfl rfl ?_) | (refine hS.ld 4 rfl rfl ?_) | (refine hS.ld0 5 rfl rfl ?_) | (refine hS.ld 5 rfl rfl ?_) | (refine hS.ldd 0 rfl rfl ?_) | (refine hS.ldd 1 rfl rfl ?_) | (refine hS.ldd 2 rfl rfl ?_) | (refine hS.ldd 3 rfl rfl ?_) | (refine hS.ldd 4 rfl rfl ?_) | (refine hS.ldd 5 rfl rfl ?_) | (refine hS.hd0 0 rfl rfl ?_) | (refine hS.hd 0 rfl rfl ?_) | (refine hS.hd0 1 rfl rfl ?_) | (refine hS.hd 1 rfl rfl ?_) | (refine hS.hd0 2 rfl rfl ?_) | (refine hS.hd 2 rfl rfl ?_) | (refine hS.hd0 3 rfl rfl ?_) | (refine hS.hd 3 rfl rfl ?_) | (refine hS.hd0 4 rfl rfl ?_) | (refine hS.hd 4 rfl rfl ?_) | (refine hS.hd0 5 rfl rfl ?_) | (refine hS.hd 5 rfl rfl ?_) | (refine hS.hdd 0 rfl rfl ?_) | (refine hS.hdd 1 rfl rfl ?_) | (refine hS.hdd 2 rfl rfl ?_) | (refine hS.hdd 3 rfl rfl ?_) | (refine hS.hdd 4 rfl rfl ?_) | (refine hS.hdd 5 rfl rfl ?_) | (refine hS.st0 0 rfl rfl rfl ?_; clear hS; intro _ hS) | (refine hS.st 0 rfl rfl rfl ?_; clear hS; intro _ hS) | (refine hS.st0 1 rfl rfl rfl ?_; clear hS; intro _ hS) | (refine hS.st 1 rfl rfl rfl ?_; clear hS; intro _ hS) | (refine hS.st0 2 rfl rfl rfl ?_; clear hS; intro _ hS) | (refine hS.st 2 rfl rfl rfl ?_; clear hS; intro _ hS) | (refine hS.st0 3 rfl rfl rfl ?_; clear hS; intro _ hS) | (refine hS.st 3 rfl rfl rfl ?_; clear hS; intro _ hS) | (refine hS.st0 4 rfl rfl rfl ?_; clear hS; intro _ hS) | (refine hS.st 4 rfl rfl rfl ?_; clear hS; intro _ hS) | (refine hS.st0 5 rfl rfl rfl ?_; clear hS; intro _ hS) | (refine hS.st 5 rfl rfl rfl ?_; clear hS; intro _ hS) | (refine hS.std 0 rfl rfl rfl ?_; clear hS; intro _ hS) | (refine hS.std 1 rfl rfl rfl ?_; clear hS; intro _ hS) | (refine hS.std 2 rfl rfl rfl ?_; clear hS; intro _ hS) | (refine hS.std 3 rfl rfl rfl ?_; clear hS; intro _ hS) | (refine hS.std 4 rfl rfl rfl ?_; clear hS; intro _ hS) | (refine hS.std 5 rfl rfl rfl ?_; clear hS; intro _ hS) | (refine bnd_mk (by decide) (by decide) ?_) | (refine so_i rfl ?_))
      refine hJ _ _ ⟨?_, hS⟩
      unfold Ent.boxOk
      rw [h1, h2, decide_eq_true (show 1 ≤ e.r by omega)]
      congr 2
      simp only [Bool.true_and]
      by_cases h4 : e.r ≤ 17179869184
      · rw [decide_eq_true h4, decide_eq_false (by omega)]; rfl
      · rw [decide_eq_false h4, decide_eq_true (by omega)]; rfl
  · intro J hJ
    repeat' (first | (refine dr_i ?_) | (refine asI_i rfl ?_) | (refine asB_i rfl ?_) | (refine asP_i rfl ?_) | (refine asS_i rfl ?_) | (refine asY_i rfl ?_) | (refine asM_i rfl ?_) | (refine asA_i rfl rfl ?_) | (refine asT_i rfl rfl ?_) | (refine lv_i ?_) | (refine St.nw hS ?_; clear hS; intro _ _ hS) | (refine St.dw hS ?_; clear hS; intro _ hS _) | (refine hS.ld0 0 rfl rfl ?_) | (refine hS.ld 0 rfl rfl ?_) | (refine hS.ld0 1 rfl rfl ?_) | (refine hS.ld 1 rfl rfl ?_) | (refine hS.ld0 2 rfl rfl ?_) | (refine hS.ld 2 rfl rfl ?_) | (refine hS.ld0 3 rfl rfl ?_) | (refine hS.ld 3 rfl rfl ?_) | (refine hS.ld0 4 rfl rfl ?_) | (refine hS.ld 4 rfl rfl ?_) | (refine hS.ld0 5 rfl rfl ?_) | (refine hS.ld 5 rfl rfl ?_) | (refine hS.ldd 0 rfl rfl ?_) | (refine hS.ldd 1 rfl rfl ?_) | (refine hS.ldd 2 rfl rfl ?_) | (refine hS.ldd 3 rfl rfl ?_) | (refine hS.ldd 4 rfl rfl ?_) | (refine hS.ldd 5 rfl rfl ?_) | (refine hS.hd0 0 rfl rfl ?_) | (refine hS.hd 0 rfl rfl ?_) | (refine hS.hd0 1 rfl rfl ?_) | (refine hS.hd 1 rfl rfl ?_) | (refine hS.hd0 2 rfl rfl ?_) | (refine hS.hd 2 rfl rfl ?_) | (refine hS.hd0 3 rfl rfl ?_) | (refine hS.hd 3 rfl rfl ?_) | (refine hS.hd0 4 rfl rfl ?_) | (refine hS.hd 4 rfl rfl ?_) | (refine hS.hd0 5 rfl rfl ?_) | (refine hS.hd 5 rfl rfl ?_) | (refine hS.hdd 0 rfl rfl ?_) | (refine hS.hdd 1 rfl rfl ?_) | (refine hS.hdd 2 rfl rfl ?_) | (refine hS.hdd 3 rfl rfl ?_) | (refine hS.hdd 4 rfl rfl ?_) | (refine hS.hdd 5 rfl rfl ?_) | (refine hS.st0 0 rfl rfl rfl ?_; clear hS; intro _ hS) | (refine hS.st 0 rfl rfl rfl ?_; clear hS; intro _ hS) | (refine hS.st0 1 rfl rfl rfl ?_; clear hS; intro _ hS) | (refine hS.st 1 rfl rfl rfl ?_; clear hS; intro _ hS) | (refine hS.st0 2 rfl rfl rfl ?_; clear hS; intro _ hS) | (refine hS.st 2 rfl rfl rfl ?_; clear hS; intro _ hS) | (refine hS.st0 3 rfl rfl rfl ?_; clear hS; intro _ hS) | (refine hS.st 3 rfl rfl rfl ?_; clear hS; intro _ hS) | (refine hS.st0 4 rfl rfl rfl ?_; clear hS; intro _ hS) | (refine hS.st 4 rfl rfl rfl ?_; clear hS; intro _ hS) | (refine hS.st0 5 rfl rfl rfl ?_; clear hS; intro _ hS) | (refine hS.st 5 rfl rfl rfl ?_; clear hS; intro _ hS) | (refine hS.std 0 rfl rfl rfl ?_; clear hS; intro _ hS) | (refine hS.std 1 rfl rfl rfl ?_; clear hS; intro _ hS) | (refine hS.std 2 rfl rfl rfl ?_; clear hS; intro _ hS) | (refine hS.std 3 rfl rfl rfl ?_; clear hS; intro _ hS) | (refine hS.std 4 rfl rfl rfl ?_; clear hS; intro _ hS) | (refine hS.std 5 rfl rfl rfl ?_; clear hS; intro _ hS) | (refine bnd_mk (by decide) (by decide) ?_) | (refine so_i rfl ?_) | (refine And.intro ?_ ?_))
    all_goals first | exact hJ _ _ ⟨_, _, rfl, hS⟩ | exact hJ _ _ ⟨_, _, rfl, hS.swap⟩
end Go.Proofs.Ytamobmjfdiecbaa

/- WoD: a world as a thing in memory: its places are read and written; New and at. Conditions: those of each theorem, on its arguments. -/
namespace Go.Proofs.Ytamobmjfdiecbaa
open Go Go.Sx Go.Fp
attribute [local irreducible] jn lv ld st nw asI asB asP asS asY asM asF asA asT lp rn ru rq cl dw dr bnd bn2 nz nn hd hr so eqW
attribute [local irreducible] callOk

structure Spot where
  gen : Int
  there : Bool
  e : Ent

def Ent.zero : Ent := ⟨0, 0, 0, 0, 0, 0, 0, 0⟩
def Spot.zero : Spot := ⟨0, false, Ent.zero⟩
def Spot.cells (s : Spot) : List Value := [.int .i64 s.gen, .bool s.there] ++ s.e.cells
theorem Spot.cells_length (s : Spot) : s.cells.length = 10 := rfl
def wc (g : Nat) (S : List Spot) : List Value := .pointer (some ⟨g, 0, none⟩) :: S.flatMap Spot.cells

theorem wc_length (g : Nat) (S : List Spot) : (wc g S).length = 1 + S.length * 10 := by
  unfold wc
  rw [List.length_cons, fl_lenN (f := Spot.cells) Spot.cells_length]
  omega

theorem wc_get {g : Nat} {S : List Spot} {i : Nat} {s : Spot} (hi : S[i]? = some s) {k : Nat} (hk : k < 10) : (wc g S)[1 + (i * 10 + k)]? = s.cells[k]? := by
  unfold wc
  rw [Nat.add_comm 1, List.getElem?_cons_succ]
  exact fl_getN (f := Spot.cells) Spot.cells_length hi k hk

theorem fl_setN {α : Type} {f : α → List Value} {n : Nat} (hf : ∀ x, (f x).length = n) : ∀ {l : List α} {i : Nat} {x y : α} {k : Nat} {v : Value}, l[i]? = some x → k < n → (f x).set k v = f y → (l.flatMap f).set (i * n + k) v = (l.set i y).flatMap f
  | [], _, _, _, _, _, h, _, _ => by simp at h
  | z :: l, 0, x, y, k, v, h, hk, hs => by
    simp only [List.getElem?_cons_zero, Option.some.injEq] at h
    subst h
    rw [List.flatMap_cons, Nat.zero_mul, Nat.zero_add, List.set_append_left _ _ (by rw [hf]; exact hk), hs]
    simp
  | z :: l, i + 1, x, y, k, v, h, hk, hs => by
    rw [List.flatMap_cons, List.set_append_right _ _ (by rw [hf, Nat.add_mul]; omega), hf]
    have e : (i + 1) * n + k - n = i * n + k := by rw [Nat.add_mul]; omega
    rw [e, fl_setN hf (by simpa using h) hk hs]
    simp

theorem wc_set {g : Nat} {S : List Spot} {i : Nat} {s s' : Spot} (hi : S[i]? = some s) {k : Nat} (hk : k < 10) {v : Value} (hs : s.cells.set k v = s'.cells) : (wc g S).set (1 + (i * 10 + k)) v = wc g (S.set i s') := by
  unfold wc
  rw [Nat.add_comm 1, List.set_cons_succ, fl_setN (f := Spot.cells) Spot.cells_length hi hk hs]

/-- the block of a world -/
structure WS (w : World) (r g : Nat) (S : List Spot) : Prop where
  blk : w.heap[r]? = some (.cells (wc g S).toArray 103 (0, 0))
  len : S.length = 64

theorem WS.ext {w w' : World} {M : Nat → Prop} {r g : Nat} {S : List Spot} (h : WS w r g S) (hx : Ext M w w') (hm : ¬ M r) : WS w' r g S := ⟨hx.blk h.blk hm, h.len⟩
theorem WS.cell0 {w : World} {r g : Nat} {S : List Spot} (h : WS w r g S) : w.cell? ⟨r, 0, none⟩ = some (.pointer (some ⟨g, 0, none⟩)) := by rw [blk_cell h.blk]; rfl
theorem WS.cell {w : World} {r g : Nat} {S : List Spot} (h : WS w r g S) {i : Nat} {s : Spot} (hi : S[i]? = some s) {k : Nat} {v : Value} (hv : s.cells[k]? = some v) : w.cell? ⟨r, 1 + (i * 10 + k), none⟩ = some v := by
  have hk : k < 10 := by
    have := (List.getElem?_eq_some_iff.1 hv).1
    simpa [Spot.cells_length] using this
  rw [blk_cell h.blk]
  have := wc_get (g := g) hi hk
  simpa [this] using hv

/-- one write to a place -/
theorem WS.st {w : World} {r g : Nat} {S : List Spot} (h : WS w r g S) {i : Nat} {s : Spot} (s' : Spot) (hi : S[i]? = some s) {k : Nat} (hk : k < 10) {v : Value} (hs : s.cells.set k v = s'.cells) (h1 : Sx.one v = true) {K : World → Prop}
    (hK : ∀ w', WS w' r g (S.set i s') → Ext (onl r) w w' → w'.heap.size = w.heap.size → K w') : Sx.st w ⟨r, 1 + (i * 10 + k), none⟩ v K := by
  have hil := (List.getElem?_eq_some_iff.1 hi).1
  have hlen := wc_length g S
  have hsz : 1 + (i * 10 + k) < (wc g S).toArray.size := by
    simp only [List.size_toArray, hlen]
    omega
  refine st_mk h.blk hsz h1 (hK _ ⟨?_, by simpa using h.len⟩ (Ext.set w ⟨r, 1 + (i * 10 + k), none⟩ v) (by simp [World.setCell]))
  rw [blk_set h.blk]
  have : (wc g S).toArray.setIfInBounds (1 + (i * 10 + k)) v = (wc g (S.set i s')).toArray := by
    rw [← wc_set hi hk hs]
    simp
  rw [this]

theorem asI8 {e : Ent} {P : (Nat → Value) → Prop} (h : P fun i => e.cells.getD i undef) : asA 8 e.v P := asA_i (l := e.cells) rfl rfl h

/-- an entity that is read, cell by cell -/
theorem ld8 {w : World} {A : Addr} {e : Ent} (h0 : w.cell? A = some (.int .i64 e.h)) (h1 : w.cell? (Addr.add A 1) = some (.int .i64 e.x)) (h2 : w.cell? (Addr.add A 2) = some (.int .i64 e.y)) (h3 : w.cell? (Addr.add A 3) = some (.int .i64 e.r))
    (h4 : w.cell? (Addr.add A 4) = some (.int .i64 e.vx)) (h5 : w.cell? (Addr.add A 5) = some (.int .i64 e.vy)) (h6 : w.cell? (Addr.add A 6) = some (.int .i64 e.o)) (h7 : w.cell? (Addr.add A 7) = some (.int .i64 e.t))
    {K : Int → Int → Int → Int → Int → Int → Int → Int → Prop} (hK : K e.h e.x e.y e.r e.vx e.vy e.o e.t) :
    ld w A fun v1 => asI .i64 v1 fun x0 => ld w (Addr.add A 1) fun v2 => asI .i64 v2 fun x1 => ld w (Addr.add A 2) fun v3 => asI .i64 v3 fun x2 => ld w (Addr.add A 3) fun v4 => asI .i64 v4 fun x3 =>
      ld w (Addr.add A 4) fun v5 => asI .i64 v5 fun x4 => ld w (Addr.add A 5) fun v6 => asI .i64 v6 fun x5 => ld w (Addr.add A 6) fun v7 => asI .i64 v7 fun x6 => ld w (Addr.add A 7) fun v8 => asI .i64 v8 fun x7 => K x0 x1 x2 x3 x4 x5 x6 x7 :=
  ld_mk h0 (asI_i rfl (ld_mk h1 (asI_i rfl (ld_mk h2 (asI_i rfl (ld_mk h3 (asI_i rfl (ld_mk h4 (asI_i rfl (ld_mk h5 (asI_i rfl (ld_mk h6 (asI_i rfl (ld_mk h7 (asI_i rfl hK)))))))))))))))

theorem ld8b {w : World} {b o : Nat} {cs : Array Value} {t : TypeId} {fr : Nat × Nat} {e : Ent} (hb : w.heap[b]? = some (.cells cs t fr)) (hc : ∀ k, k < 8 → cs[o + k]? = e.cells[k]?)
    {K : Int → Int → Int → Int → Int → Int → Int → Int → Prop} (hK : K e.h e.x e.y e.r e.vx e.vy e.o e.t) {A : Addr} (hA : A = ⟨b, o, none⟩) :
    ld w A fun v1 => asI .i64 v1 fun x0 => ld w (Addr.add A 1) fun v2 => asI .i64 v2 fun x1 => ld w (Addr.add A 2) fun v3 => asI .i64 v3 fun x2 => ld w (Addr.add A 3) fun v4 => asI .i64 v4 fun x3 =>
      ld w (Addr.add A 4) fun v5 => asI .i64 v5 fun x4 => ld w (Addr.add A 5) fun v6 => asI .i64 v6 fun x5 => ld w (Addr.add A 6) fun v7 => asI .i64 v7 fun x6 => ld w (Addr.add A 7) fun v8 => asI .i64 v8 fun x7 => K x0 x1 x2 x3 x4 x5 x6 x7 := by
  subst hA
  have key : ∀ k, k < 8 → w.cell? (Addr.add ⟨b, o, none⟩ k) = e.cells[k]? := fun k hk => by rw [add_mk, blk_cell hb, hc k hk]
  exact ld8 (by have := key 0 (by decide); rwa [Sx.add_zero'] at this) (key 1 (by decide)) (key 2 (by decide)) (key 3 (by decide)) (key 4 (by decide)) (key 5 (by decide)) (key 6 (by decide)) (key 7 (by decide)) hK

/-- an entity that is written to a place, cell by cell -/
theorem WS.st8 {w : World} {r g : Nat} {S : List Spot} (h : WS w r g S) {i : Nat} {s : Spot} (hi : S[i]? = some s) (e : Ent) {A : Addr} (hA : A = ⟨r, 1 + (i * 10 + 2), none⟩) {K : World → Prop}
    (hK : ∀ w', WS w' r g (S.set i ⟨s.gen, s.there, e⟩) → Ext (onl r) w w' → w'.heap.size = w.heap.size → K w') :
    Sx.st w A (.int .i64 e.h) fun w1 => Sx.st w1 (Addr.add A 1) (.int .i64 e.x) fun w2 => Sx.st w2 (Addr.add A 2) (.int .i64 e.y) fun w3 => Sx.st w3 (Addr.add A 3) (.int .i64 e.r) fun w4 =>
      Sx.st w4 (Addr.add A 4) (.int .i64 e.vx) fun w5 => Sx.st w5 (Addr.add A 5) (.int .i64 e.vy) fun w6 => Sx.st w6 (Addr.add A 6) (.int .i64 e.o) fun w7 => Sx.st w7 (Addr.add A 7) (.int .i64 e.t) fun w8 => K w8 := by
  subst hA
  have hil := (List.getElem?_eq_some_iff.1 hi).1
  have ea : ∀ k, Addr.add ⟨r, 1 + (i * 10 + 2), none⟩ k = ⟨r, 1 + (i * 10 + (2 + k)), none⟩ := fun k => by rw [add_mk]; congr 1; omega
  simp only [ea, Nat.reduceAdd]
  refine h.st ⟨s.gen, s.there, { s.e with h := e.h }⟩ hi (by decide) rfl rfl fun w1 h1 x1 z1 => ?_
  have g1 : ∀ q : Spot, (S.set i q)[i]? = some q := fun q => List.getElem?_set_self hil
  refine h1.st ⟨s.gen, s.there, { s.e with h := e.h, x := e.x }⟩ (g1 _) (by decide) rfl rfl fun w2 h2 x2 z2 => ?_
  rw [List.set_set] at h2
  refine h2.st ⟨s.gen, s.there, { s.e with h := e.h, x := e.x, y := e.y }⟩ (g1 _) (by decide) rfl rfl fun w3 h3 x3 z3 => ?_
  rw [List.set_set] at h3
  refine h3.st ⟨s.gen, s.there, { s.e with h := e.h, x := e.x, y := e.y, r := e.r }⟩ (g1 _) (by decide) rfl rfl fun w4 h4 x4 z4 => ?_
  rw [List.set_set] at h4
  refine h4.st ⟨s.gen, s.there, { s.e with h := e.h, x := e.x, y := e.y, r := e.r, vx := e.vx }⟩ (g1 _) (by decide) rfl rfl fun w5 h5 x5 z5 => ?_
  rw [List.set_set] at h5
  refine h5.st ⟨s.gen, s.there, { s.e with h := e.h, x := e.x, y := e.y, r := e.r, vx := e.vx, vy := e.vy }⟩ (g1 _) (by decide) rfl rfl fun w6 h6 x6 z6 => ?_
  rw [List.set_set] at h6
  refine h6.st ⟨s.gen, s.there, { s.e with h := e.h, x := e.x, y := e.y, r := e.r, vx := e.vx, vy := e.vy, o := e.o }⟩ (g1 _) (by decide) rfl rfl fun w7 h7 x7 z7 => ?_
  rw [List.set_set] at h7
  refine h7.st ⟨s.gen, s.there, e⟩ (g1 _) (by decide) rfl rfl fun w8 h8 x8 z8 => ?_
  rw [List.set_set] at h8
  exact hK w8 h8 (((((((x1.trans x2).trans x3).trans x4).trans x5).trans x6).trans x7).trans x8) (by omega)

/-! ### the world -/
def wside : Int := 34359738368
structure Wd (w : World) (F : Nat → Prop) (r g : Nat) (S : List Spot) (B : List (Int × Bx)) (D : List ((Int × Int) × List Int)) (N : Nat) : Prop where
  ws : WS w r g S
  gr : ∃ mb mc C bb kb bc kc, Gr w F g mb mc wside B C bb kb bc kc ∧ pl C = D
  nr : ¬ F r
  bd : ∀ x, ((aget D x).getD []).length ≤ N
  gen : ∀ s ∈ S, 0 ≤ s.gen ∧ s.gen ≤ 1099511627776

theorem Wd.ext {w w' : World} {F M : Nat → Prop} {r g : Nat} {S : List Spot} {B : List (Int × Bx)} {D : List ((Int × Int) × List Int)} {N : Nat} (h : Wd w F r g S B D N) (hx : Ext M w w') (hm : ∀ k, (F k ∨ k = r) → ¬ M k) : Wd w' F r g S B D N := by
  obtain ⟨mb, mc, C, bb, kb, bc, kc, hg, hp⟩ := h.gr
  exact ⟨h.ws.ext hx (hm _ (.inr rfl)), ⟨mb, mc, C, bb, kb, bc, kc, hg.ext hx fun k hk => hm _ (.inl hk), hp⟩, h.nr, h.bd, h.gen⟩

theorem Wd.mono {w : World} {F : Nat → Prop} {r g : Nat} {S : List Spot} {B : List (Int × Bx)} {D : List ((Int × Int) × List Int)} {N N' : Nat} (h : Wd w F r g S B D N) (hN : N ≤ N') : Wd w F r g S B D N' :=
  ⟨h.ws, h.gr, h.nr, fun x => Nat.le_trans (h.bd x) hN, h.gen⟩

theorem Wd.r_lt {w : World} {F : Nat → Prop} {r g : Nat} {S : List Spot} {B : List (Int × Bx)} {D : List ((Int × Int) × List Int)} {N : Nat} (h : Wd w F r g S B D N) : r < w.heap.size := blk_lt h.ws.blk
theorem Wd.f_lt {w : World} {F : Nat → Prop} {r g : Nat} {S : List Spot} {B : List (Int × Bx)} {D : List ((Int × Int) × List Int)} {N : Nat} (h : Wd w F r g S B D N) : ∀ k, F k → k < w.heap.size := by
  obtain ⟨mb, mc, C, bb, kb, bc, kc, hg, hp⟩ := h.gr
  exact hg.lt

set_option maxRecDepth 100000 in
theorem wnew_k {w : World} {K : Value → World → Prop} (hK : ∀ w' F r g, Wd w' F r g (List.replicate 64 Spot.zero) [] [] 0 → Ext no w w' → (∀ k, F k → w.heap.size ≤ k) → w.heap.size ≤ r → K (.pointer (some ⟨r, 0, none⟩)) w') :
    cl Try.prog 14 #[] w K := by
  apply F14_calls
  unfold F14
  refine gnew_k (fun h => absurd h (by decide)) ?_
  intro w1 F g mb mc _ hg hx1 hF
  refine asT_i rfl rfl (asP_i rfl (asI_i rfl (lv_i (nw_mk ?_))))
  have hx2 := Ext.alloc w1 (.cells (wc g (List.replicate 64 Spot.zero)).toArray 103)
  refine hK _ F w1.heap.size g ⟨⟨new_blk w1 _, by simp⟩, ⟨mb, mc, [], [], 0, [], 0, hg.ext hx2 fun _ _ h => h, rfl⟩, fun hf => ?_, fun x => by simp [aget_nil], ?_⟩ (hx1.trans hx2) hF hx1.size
  · have := hg.lt _ hf
    omega
  · intro s hs
    rw [List.eq_of_mem_replicate hs]
    simp [Spot.zero]

/-- where the entity of a handle stands -/
def atI (S : List Spot) (h : Int) : Option Nat :=
  if h < 64 then none else match S[h.toNat % 64]? with
    | some s => if s.there = true ∧ s.e.h = h then some (h.toNat % 64) else none
    | none => none

theorem at_k {w : World} {r g : Nat} {S : List Spot} (hw : WS w r g S) {h : Int} {K : Value → World → Prop}
    (hnone : atI S h = none → K (.pointer none) w) (hsome : ∀ i s, atI S h = some i → h = h.toNat → i = h.toNat % 64 → S[i]? = some s → s.there = true → s.e.h = h → K (.pointer (some ⟨r, 1 + i * 10, none⟩)) w) :
    cl Try.prog 43 #[.pointer (some ⟨r, 0, none⟩), .int .i64 h] w K := by
  apply F43_calls
  unfold F43
  refine cond_split (fun hc => hnone ?_) (fun hc => ?_)
  · unfold atI
    rw [if_pos (of_decide_eq_true hc)]
  have h64 : ¬ h < 64 := of_decide_eq_false hc
  obtain ⟨n, rfl⟩ : ∃ n : Nat, h = (n : Int) := ⟨h.toNat, by omega⟩
  have em : Int.tmod (n : Int) 64 = ((n % 64 : Nat) : Int) := rfl
  have hlt : n % 64 < S.length := by rw [hw.len]; exact Nat.mod_lt _ (by decide)
  have hi : S[n % 64]? = some S[n % 64] := List.getElem?_eq_getElem hlt
  generalize S[n % 64] = s at hi
  rw [em]
  refine dr_i (bnd_mk (by omega) (by omega) ?_)
  simp only [add_mk, Int.toNat_natCast, Nat.zero_add, Nat.add_assoc]
  have hat : atI S n = if s.there = true ∧ s.e.h = n then some (n % 64) else none := by
    unfold atI
    rw [if_neg h64]
    simp only [Int.toNat_natCast, hi]
  refine jn_of (fun t w' => t = [.bool (decide (s.there = true ∧ s.e.h = n))] ∧ w = w') ?_ ?_
  · rintro _ _ ⟨rfl, rfl⟩
    refine asB_i rfl (cond_split (fun hb => ?_) (fun hb => hnone ?_))
    · have hb' := of_decide_eq_true hb
      refine hsome (n % 64) s ?_ (by simp) (by simp) hi hb'.1 hb'.2
      rw [hat, if_pos hb']
    · rw [hat, if_neg (of_decide_eq_false hb)]
  · intro J hJ
    have c1 : w.cell? ⟨r, 1 + (n % 64 * 10 + 1), none⟩ = some (.bool s.there) := hw.cell hi rfl
    have c2 : w.cell? ⟨r, 1 + (n % 64 * 10 + 2), none⟩ = some (.int .i64 s.e.h) := hw.cell hi rfl
    refine ld_mk c1 (asB_i rfl (cond_split (fun hb => ld_mk c2 (asI_i rfl (hJ _ _ ⟨?_, rfl⟩))) (fun hb => hJ _ _ ⟨?_, rfl⟩)))
    · congr 2
      rw [hb, Bool.eq_iff_iff]
      simp
    · congr 2
      rw [hb]
      simp
end Go.Proofs.Ytamobmjfdiecbaa

/- WoE: what a world's calls Spawn, Kill, Get, Set, List do, as contracts over lists of places. Conditions: those of each theorem, on its arguments. -/
namespace Go.Proofs.Ytamobmjfdiecbaa
open Go Go.Sx Go.Fp
attribute [local irreducible] jn lv ld st nw asI asB asP asS asY asM asF asA asT lp rn ru rq cl dw dr bnd bn2 nz nn hd hr so eqW
attribute [local irreducible] callOk

def free (s : Spot) : Bool := !s.there && !(s.gen == 1099511627776)
/-- the first place that is free -/
def IsFree (S : List Spot) (i : Nat) (s : Spot) : Prop := S[i]? = some s ∧ free s = true ∧ ∀ j s', j < i → S[j]? = some s' → free s' = false
def spn (s : Spot) (i : Nat) (e : Ent) : Spot := ⟨s.gen + 1, true, { e with h := (s.gen + 1) * 64 + (i : Int) }⟩

theorem putL_len {l : List (Int × Int)} {id : Int} : ∀ {D : List ((Int × Int) × List Int)} (x : Int × Int), ((aget (putL D l id) x).getD []).length ≤ ((aget D x).getD []).length + l.length := by
  induction l with
  | nil => intro D x; exact Nat.le_refl _
  | cons c l ih =>
    intro D x
    have h1 := ih (D := addTo D c id) x
    have h2 := addTo_len (D := D) (c := c) (id := id) x
    have e : putL D (c :: l) id = putL (addTo D c id) l id := rfl
    rw [e, List.length_cons]
    omega

def wF (F : Nat → Prop) (r : Nat) : Nat → Prop := fun k => F k ∨ k = r

theorem Wd.nd {w : World} {F : Nat → Prop} {r g : Nat} {S : List Spot} {B : List (Int × Bx)} {D : List ((Int × Int) × List Int)} {N : Nat} (h : Wd w F r g S B D N) : (D.map (·.1)).Nodup := by
  obtain ⟨mb, mc, C, bb, kb, bc, kc, hg, hp⟩ := h.gr
  rw [← hp]
  exact pl_nd hg.nd

theorem spawn_k {w : World} {F : Nat → Prop} {r g : Nat} {S : List Spot} {B : List (Int × Bx)} {D : List ((Int × Int) × List Int)} {N : Nat} (h : Wd w F r g S B D N) (hN : N ≤ 549755813888) {e : Ent} {K : Value → World → Prop}
    (hbad : ∀ w', Ext no w w' → e.rightE ≠ 0 → K (.tuple #[.int .i64 0, .int .i64 e.rightE]) w')
    (hfull : ∀ w', Ext no w w' → e.rightE = 0 → (∀ (j : Nat) s, S[j]? = some s → free s = false) → K (.tuple #[.int .i64 0, .int .i64 2]) w')
    (hok : ∀ w' F' i s, e.rightE = 0 → IsFree S i s → Wd w' F' r g (S.set i (spn s i e)) (gputB wside B i e.box) (gputD wside B D i e.box) (N + 1024) → Ext (wF F r) w w' → (∀ k, F' k → F k ∨ w.heap.size ≤ k) → (∀ k, F k → F' k) →
      K (.tuple #[.int .i64 ((s.gen + 1) * 64 + (i : Int)), .int .i64 0]) w') :
    cl Try.prog 16 #[.pointer (some ⟨r, 0, none⟩), e.v] w K := by
  apply F16_calls
  unfold F16
  have hS := St.start w
  (refine St.nw hS ?_; clear hS; intro r1 _ hS)
  refine lv_i (lv_i ?_)
  repeat (first | (refine asI_i rfl ?_) | (refine asB_i rfl ?_) | (refine asP_i rfl ?_) | (refine asS_i rfl ?_) | (refine asY_i rfl ?_) | (refine asM_i rfl ?_) | (refine asA_i rfl rfl ?_) | (refine asT_i rfl rfl ?_) | (refine lv_i ?_) | (refine St.nw hS ?_; clear hS; intro _ _ hS) | (refine St.dw hS ?_; clear hS; intro _ hS _) | (refine hS.ld0 0 rfl rfl ?_) | (refine hS.ld 0 rfl rfl ?_) | (refine hS.ld0 1 rfl rfl ?_) | (refine hS.ld 1 rfl rfl ?_) | (refine hS.ld0 2 rfl rfl ?_) | (refine hS.ld 2 rfl rfl ?_) | (refine hS.ld0 3 rfl rfl ?_) | (refine hS.ld 3 rfl rfl ?_) | (refine hS.ld0 4 rfl rfl ?_) | (refine hS.ld 4 rfl rfl ?_) | (refine hS.ld0 5 rfl rfl ?_) | (refine hS.ld 5 rfl rfl ?_) | (refine hS.ld0 6 rfl rfl ?_) | (refine hS.ld 6 rfl rfl ?_) | (refine hS.ld0 7 rfl rfl ?_) | (refine hS.ld 7 rfl rfl ?_) | (refine hS.hd0 0 rfl rfl ?_) | (refine hS.hd 0 rfl rfl ?_) | (refine hS.hd0 1 rfl rfl ?_) | (refine hS.hd 1 rfl rfl ?_) | (refine hS.hd0 2 rfl rfl ?_) | (refine hS.hd 2 rfl rfl ?_) | (refine hS.hd0 3 rfl rfl ?_) | (refine hS.hd 3 rfl rfl ?_) | (refine hS.hd0 4 rfl rfl ?_) | (refine hS.hd 4 rfl rfl ?_) | (refine hS.hd0 5 rfl rfl ?_) | (refine hS.hd 5 rfl rfl ?_) | (refine hS.hd0 6 rfl rfl ?_) | (refine hS.hd 6 rfl rfl ?_) | (refine hS.hd0 7 rfl rfl ?_) | (refine hS.hd 7 rfl rfl ?_) | (refine hS.st0 0 rfl rfl rfl ?_; clear hS; intro _ hS) | (refine hS.st 0 rfl rfl rfl ?_; clear hS; intro _ hS) | (refine hS.st0 1 rfl rfl rfl ?_; clear hS; intro _ hS) | (refine hS.st 1 rfl rfl rfl ?_; clear hS; intro _ hS) | (refine hS.st0 2 rfl rfl rfl ?_; clear hS; intro _ hS) | (refine hS.st 2 rfl rfl rfl ?_; clear hS; intro _ hS) | (refine hS.st0 3 rfl rfl rfl ?_; clear hS; intro _ hS) | (refine hS.st 3 rfl rfl rfl ?_; clear hS; intro _ hS) | (refine hS.st0 4 rfl rfl rfl ?_; clear hS; intro _ hS) | (refine hS.st 4 rfl rfl rfl ?_; clear hS; intro _ hS) | (refine hS.st0 5 rfl rfl rfl ?_; clear hS; intro _ hS) | (refine hS.st 5 rfl rfl rfl ?_; clear hS; intro _ hS) | (refine hS.st0 6 rfl rfl rfl ?_; clear hS; intro _ hS) | (refine hS.st 6 rfl rfl rfl ?_; clear hS; intro _ hS) | (refine hS.st0 7 rfl rfl rfl ?_; clear hS; intro _ hS) | (refine hS.st 7 rfl rfl rfl ?_; clear hS; intro _ hS) | (refine bnd_mk (by decide) (by decide) ?_) | (refine so_i rfl ?_))
  show cl Try.prog 15 #[e.v] _ _
  refine eright_k ?_
  intro w1 hx1
  replace hS := hS.to hx1
  clear hx1
  refine asI_i rfl (lv_i (cond_split (fun h0 => ?_) (fun h0 => ?_)))
  · exact lv_i (lv_i (hbad _ hS.ext (by simpa using h0)))
  have hE : e.rightE = 0 := by simpa using h0
  have hr1 : r < w.heap.size := h.r_lt
  refine lp_mk (fun i : Nat => [.int .i64 (i : Int)]) (fun m i w' => m = 64 - i ∧ i ≤ 64 ∧ St w w' [(r1, e.cells, 27)] ∧ ∀ (j : Nat) s, j < i → S[j]? = some s → free s = false) 64 0 rfl ⟨rfl, Nat.zero_le _, hS, fun j s hj => by omega⟩ ?_
  clear hS
  rintro _ i w2 ⟨rfl, hi, hS, hall⟩ J hJ
  refine asI_i rfl (cond_split (fun hc => ?_) (fun hc => ?_))
  · have hil : i < S.length := by
      rw [h.ws.len]
      have := of_decide_eq_true hc
      omega
    have hs : S[i]? = some S[i] := List.getElem?_eq_getElem hil
    have hgm := h.gen S[i] (List.getElem_mem hil)
    generalize S[i] = s at hs hgm
    have h2 := h.ext hS.ext fun _ _ hf => hf
    have hi64 : i < 64 := by rw [h.ws.len] at hil; exact hil
    refine lv_i (dr_i (bnd_mk (by omega) (by omega) ?_))
    have ea : Addr.add (Addr.add ⟨r, 0, none⟩ 1) (Int.toNat (i : Int) * 10) = ⟨r, 1 + (i * 10 + 0), none⟩ := by rw [add_mk, add_mk, Int.toNat_natCast]; congr 1 <;> omega
    rw [ea]
    have ea1 : Addr.add ⟨r, 1 + (i * 10 + 0), none⟩ 1 = ⟨r, 1 + (i * 10 + 1), none⟩ := by rw [add_mk]; congr 1
    have ea2 : Addr.add ⟨r, 1 + (i * 10 + 0), none⟩ 2 = ⟨r, 1 + (i * 10 + 2), none⟩ := by rw [add_mk]; congr 1
    rw [ea1, ea2]
    refine jn_of (fun t w' => t = [.bool (!free s)] ∧ w2 = w') ?_ ?_
    · rintro _ _ ⟨rfl, rfl⟩
      refine asB_i rfl (cond_split (fun hb => ?_) (fun hb => ?_))
      · have ei : IntKind.wrap .i64 ((i : Int) + 1) = ((i + 1 : Nat) : Int) := by rw [wr64 (by omega) (by omega)]; omega
        rw [ei]
        refine hJ (64 - (i + 1)) (i + 1) w2 (by omega) ⟨rfl, by omega, hS, fun j s' hj hs' => ?_⟩
        by_cases hji : j = i
        · subst hji
          rw [hs] at hs'
          cases hs'
          simpa using hb
        · exact hall j s' (by omega) hs'
      have hfr : free s = true := by simpa using hb
      have hgen : s.gen + 1 ≤ 1099511627776 := by
        have : s.gen ≠ 1099511627776 := by
          intro hg
          unfold free at hfr
          rw [hg] at hfr
          simp at hfr
        omega
      refine ld_mk (h2.ws.cell hs (k := 0) rfl) (asI_i rfl ?_)
      rw [wr64 (n := s.gen + 1) (by omega) (by omega)]
      refine h2.ws.st (k := 0) ⟨s.gen + 1, s.there, s.e⟩ hs (by decide) rfl rfl ?_
      intro w3 hw3 hx3 hz3
      have g1 : ∀ q : Spot, (S.set i q)[i]? = some q := fun q => List.getElem?_set_self hil
      refine hw3.st (k := 1) ⟨s.gen + 1, true, s.e⟩ (g1 _) (by decide) rfl rfl ?_
      intro w4 hw4 hx4 hz4
      rw [List.set_set] at hw4
      have hkn := hS.kn (r1, e.cells, 27) List.mem_cons_self
      have hne : r1 ≠ r := by
        have := hkn.2
        simp only at this
        omega
      have hb4 : w4.heap[r1]? = some (.cells e.cells.toArray 27 (0, 0)) := hx4.blk (hx3.blk hkn.1 hne) hne
      refine ld8b hb4 (o := 0) (e := e) (fun k _ => by simp) ?_ rfl
      refine hw4.st8 (g1 _) e rfl ?_
      intro w5 hw5 hx5 hz5
      rw [List.set_set] at hw5
      refine ld_mk (hw5.cell (g1 _) (k := 0) rfl) (asI_i rfl ?_)
      have ew : IntKind.wrap .i64 (IntKind.wrap .i64 ((s.gen + 1) * 64) + (i : Int)) = (s.gen + 1) * 64 + (i : Int) := by rw [wr64 (n := (s.gen + 1) * 64) (by omega) (by omega), wr64 (by omega) (by omega)]
      simp only
      rw [ew]
      refine hw5.st (k := 2) (spn s i e) (g1 _) (by decide) rfl rfl ?_
      intro w6 hw6 hx6 hz6
      rw [List.set_set] at hw6
      refine dw_mk ?_
      have hX26 : Ext (onl r) w2 w6.drew := ((((hx3.trans hx4).trans hx5).trans hx6).trans (Ext.of_no (Ext.drew w6)))
      have hw7 := hw6.ext (Ext.drew w6) fun h => h
      have hb7 : w6.drew.heap[r1]? = some (.cells e.cells.toArray 27 (0, 0)) := hX26.blk hkn.1 hne
      refine dr_i (ld_mk hw7.cell0 (asP_i rfl ?_))
      have c1 : w6.drew.cell? (Addr.add ⟨r1, 0, none⟩ 1) = some (.int .i64 e.x) := by rw [add_mk, blk_cell hb7]; rfl
      have c2 : w6.drew.cell? (Addr.add (Addr.add ⟨r1, 0, none⟩ 1) 1) = some (.int .i64 e.y) := by rw [add_mk, add_mk, blk_cell hb7]; rfl
      have c3 : w6.drew.cell? (Addr.add (Addr.add ⟨r1, 0, none⟩ 1) 2) = some (.int .i64 e.r) := by rw [add_mk, add_mk, blk_cell hb7]; rfl
      refine ld_mk c1 (asI_i rfl (ld_mk c2 (asI_i rfl (ld_mk c3 (asI_i rfl ?_)))))
      obtain ⟨mb, mc, C, bb, kb, bc, kc, hg, hp⟩ := h2.gr
      have hg7 := hg.ext hX26 fun k hk e => h.nr (by
        have : k = r := e
        rw [← this]; exact hk)
      show cl Try.prog 30 #[.pointer (some ⟨g, 0, none⟩), .int .i64 (i : Int), e.box.v] w6.drew _
      refine gPut_k hg7 (fun x => ?_) ?_
      · rw [hp]
        have := h.bd x
        omega
      intro w8 F' C' bb' kb' bc' kc' hg8 hpl hx8 hF1 hF2
      have hw8 := hw7.ext hx8 h.nr
      refine asI_i rfl (ld_mk (hw8.cell (g1 _) (k := 2) rfl) (asI_i rfl (lv_i (lv_i ?_))))
      have hX : Ext (wF F r) w w8 := by
        have a1 : Ext (wF F r) w w2 := Ext.of_no hS.ext
        have a2 : Ext (wF F r) w w6.drew := a1.then hX26 fun k _ hk => .inr hk
        exact a2.then hx8 fun k _ hk => .inl hk
      have hsz := hS.ext.size
      have hsz2 := hX26.size
      have hG : ∀ k, F' k → F k ∨ w.heap.size ≤ k := fun k hk => by
        rcases hF1 k hk with h | h
        · exact .inl h
        · exact .inr (by omega)
      refine hok w8 F' i s hE ⟨hs, hfr, fun j s' hj hs' => hall j s' hj hs'⟩ ⟨hw8, ⟨mb, mc, C', bb', kb', bc', kc', hg8, by rw [hpl, hp]⟩, fun hf => ?_, fun x => ?_, fun q hq => ?_⟩ hX hG hF2
      · rcases hG r hf with h' | h'
        · exact h.nr h'
        · omega
      · unfold gputD
        split
        · have := putL_len (l := cellsL' wside e.box) (id := (i : Int)) (D := D) x
          have := h.bd x
          have := @cells_len wside e.box
          omega
        · have := h.bd x
          omega
      · rcases List.mem_or_eq_of_mem_set hq with hq | rfl
        · exact h.gen q hq
        · simp only [spn]; omega
    · intro J2 hJ2
      refine ld_mk (h2.ws.cell hs (k := 1) rfl) (asB_i rfl (cond_split (fun hb => hJ2 _ _ ⟨?_, rfl⟩) (fun hb => ld_mk (h2.ws.cell hs (k := 0) rfl) (asI_i rfl (hJ2 _ _ ⟨?_, rfl⟩)))))
      · unfold free
        rw [hb]; rfl
      · unfold free
        rw [hb]
        simp
  · have hi64 : i = 64 := by
      have := of_decide_eq_false hc
      omega
    subst hi64
    refine lv_i (lv_i (hfull _ hS.ext hE fun j s hs => hall j s ?_ hs))
    have := (List.getElem?_eq_some_iff.1 hs).1
    rw [h.ws.len] at this
    exact this

/-- an entity that is written to a block of one's own -/
theorem _root_.Go.Sx.St.st8 {w0 w : World} {L : List (Nat × List Value × TypeId)} (h : St w0 w L) (i : Nat) {r : Nat} {cs : List Value} {t : TypeId} (hL : L[i]? = some (r, cs, t)) (hc : cs.length = 8) (e : Ent) {K : World → Prop}
    (hK : ∀ w', St w0 w' (L.set i (r, e.cells, t)) → K w') :
    Sx.st w ⟨r, 0, none⟩ (.int .i64 e.h) fun w1 => Sx.st w1 (Addr.add ⟨r, 0, none⟩ 1) (.int .i64 e.x) fun w2 => Sx.st w2 (Addr.add ⟨r, 0, none⟩ 2) (.int .i64 e.y) fun w3 => Sx.st w3 (Addr.add ⟨r, 0, none⟩ 3) (.int .i64 e.r) fun w4 =>
      Sx.st w4 (Addr.add ⟨r, 0, none⟩ 4) (.int .i64 e.vx) fun w5 => Sx.st w5 (Addr.add ⟨r, 0, none⟩ 5) (.int .i64 e.vy) fun w6 => Sx.st w6 (Addr.add ⟨r, 0, none⟩ 6) (.int .i64 e.o) fun w7 => Sx.st w7 (Addr.add ⟨r, 0, none⟩ 7) (.int .i64 e.t) fun w8 => K w8 := by
  match cs, hc with
  | [a0, a1, a2, a3, a4, a5, a6, a7], _ =>
    have hil := (List.getElem?_eq_some_iff.1 hL).1
    have g1 : ∀ q : Nat × List Value × TypeId, (L.set i q)[i]? = some q := fun q => List.getElem?_set_self hil
    refine h.st0 i hL rfl rfl fun w1 h1 => ?_
    refine h1.st i (g1 _) rfl rfl fun w2 h2 => ?_
    rw [List.set_set] at h2
    refine h2.st i (g1 _) rfl rfl fun w3 h3 => ?_
    rw [List.set_set] at h3
    refine h3.st i (g1 _) rfl rfl fun w4 h4 => ?_
    rw [List.set_set] at h4
    refine h4.st i (g1 _) rfl rfl fun w5 h5 => ?_
    rw [List.set_set] at h5
    refine h5.st i (g1 _) rfl rfl fun w6 h6 => ?_
    rw [List.set_set] at h6
    refine h6.st i (g1 _) rfl rfl fun w7 h7 => ?_
    rw [List.set_set] at h7
    refine h7.st i (g1 _) rfl rfl fun w8 h8 => ?_
    rw [List.set_set] at h8
    exact hK w8 h8

theorem kill_k {w : World} {F : Nat → Prop} {r g : Nat} {S : List Spot} {B : List (Int × Bx)} {D : List ((Int × Int) × List Int)} {N : Nat} (h : Wd w F r g S B D N) (hN : N ≤ 549755813888) {hh : Int} {K : Value → World → Prop}
    (hnone : atI S hh = none → K (.int .i64 190) w)
    (hok : ∀ w' i s, atI S hh = some i → i = hh.toNat % 64 → hh = hh.toNat → S[i]? = some s → s.there = true → s.e.h = hh → Wd w' F r g (S.set i ⟨s.gen, false, s.e⟩) (gdropB B i) (gdropD wside B D i) N → Ext (wF F r) w w' → K (.int .i64 0) w') :
    cl Try.prog 17 #[.pointer (some ⟨r, 0, none⟩), .int .i64 hh] w K := by
  apply F17_calls
  unfold F17
  refine lv_i (at_k h.ws (fun hn => asP_i rfl (cond_t rfl (lv_i (hnone hn)))) ?_)
  intro i s hat hhn hi hs ht he
  refine asP_i rfl (cond_f rfl (dr_i ?_))
  have ea1 : Addr.add ⟨r, 1 + i * 10, none⟩ 1 = ⟨r, 1 + (i * 10 + 1), none⟩ := by rw [add_mk]; congr 1
  rw [ea1]
  refine h.ws.st (k := 1) ⟨s.gen, false, s.e⟩ hs (by decide) rfl rfl ?_
  intro w1 hw1 hx1 hz1
  refine dr_i (ld_mk hw1.cell0 (asP_i rfl ?_))
  have em : Int.tmod hh 64 = (i : Int) := by
    rw [hi]
    conv => lhs; rw [hhn]
    rfl
  rw [em]
  obtain ⟨mb, mc, C, bb, kb, bc, kc, hg, hp⟩ := h.gr
  have hg1 := hg.ext hx1 fun k hk e => h.nr (by
    have : k = r := e
    rw [← this]; exact hk)
  refine gDrop_k hg1 (fun x => ?_) ?_
  · rw [hp]
    have := h.bd x
    omega
  intro w2 C' bb' kb' bc' kc' hg2 hpl hx2
  refine asI_i rfl (lv_i (hok w2 i s hat hi hhn hs ht he ⟨hw1.ext hx2 h.nr, ⟨mb, mc, C', bb', kb', bc', kc', hg2, by rw [hpl, hp]⟩, h.nr, fun x => ?_, fun q hq => ?_⟩ ?_))
  · unfold gdropD
    split
    · exact Nat.le_trans (dropL_len h.nd x) (h.bd x)
    · exact h.bd x
  · rcases List.mem_or_eq_of_mem_set hq with hq | rfl
    · exact h.gen q hq
    · exact h.gen s (List.mem_of_getElem? hs)
  · have a1 : Ext (wF F r) w w1 := hx1.mono fun k _ hk => .inr hk
    exact a1.then hx2 fun k _ hk => .inl hk

def getE (S : List Spot) (h : Int) : Ent := match atI S h with
  | some i => match S[i]? with | some s => s.e | none => Ent.zero
  | none => Ent.zero
def getC (S : List Spot) (h : Int) : Int := if (atI S h).isSome = true then 0 else 190

theorem get_k {w : World} {r g : Nat} {S : List Spot} (hw : WS w r g S) {hh : Int} {K : Value → World → Prop}
    (hK : ∀ w', Ext no w w' → K (.tuple #[(getE S hh).v, .int .i64 (getC S hh)]) w') :
    cl Try.prog 18 #[.pointer (some ⟨r, 0, none⟩), .int .i64 hh] w K := by
  apply F18_calls
  unfold F18
  have hS := St.start w
  (refine St.nw hS ?_; clear hS; intro r1 _ hS)
  have hw1 := hw.ext hS.ext fun h => h
  refine lv_i (at_k hw1 (fun hn => ?_) (fun i s hat hhn hi hs ht he => ?_))
  · refine asP_i rfl (cond_t rfl ?_)
    refine hS.st8 0 rfl rfl Ent.zero ?_
    intro w2 hS2
    refine lv_i (ld8b (e := Ent.zero) (o := 0) (hS2.kn _ List.mem_cons_self).1 (fun k _ => by simp) ?_ rfl)
    have e1 : getE S hh = Ent.zero := by unfold getE; rw [hn]
    have e2 : getC S hh = 190 := by unfold getC; rw [hn]; rfl
    have := hK _ hS2.ext
    rw [e1, e2] at this
    exact this
  · refine asP_i rfl (cond_f rfl (dr_i ?_))
    have ea2 : Addr.add ⟨r, 1 + i * 10, none⟩ 2 = ⟨r, 1 + (i * 10 + 2), none⟩ := by rw [add_mk]; congr 1
    rw [ea2]
    refine ld8b (e := s.e) hw1.blk (fun k hk => ?_) ?_ rfl
    · have := wc_get (g := g) hs (k := 2 + k) (by omega)
      rw [show 1 + (i * 10 + 2) + k = 1 + (i * 10 + (2 + k)) by omega]
      simp only [List.getElem?_toArray, this]
      rw [Nat.add_comm 2 k]
      rfl
    refine hS.st8 0 rfl rfl s.e ?_
    intro w2 hS2
    refine lv_i (ld8b (e := s.e) (o := 0) (hS2.kn _ List.mem_cons_self).1 (fun k _ => by simp) ?_ rfl)
    have e1 : getE S hh = s.e := by unfold getE; rw [hat]; simp only [hs]
    have e2 : getC S hh = 0 := by unfold getC; rw [hat]; rfl
    have := hK _ hS2.ext
    rw [e1, e2] at this
    exact this
end Go.Proofs.Ytamobmjfdiecbaa

/- WoG: what a world's calls Set and List do, as contracts over lists of places. Conditions: those of each theorem, on its arguments. -/
namespace Go.Proofs.Ytamobmjfdiecbaa
open Go Go.Sx Go.Fp
attribute [local irreducible] jn lv ld st nw asI asB asP asS asY asM asF asA asT lp rn ru rq cl dw dr bnd bn2 nz nn hd hr so eqW
attribute [local irreducible] callOk

def setE (S : List Spot) (h : Int) (e : Ent) : Int := if (atI S h).isSome = true then e.rightE else 190

theorem set_k {w : World} {F : Nat → Prop} {r g : Nat} {S : List Spot} {B : List (Int × Bx)} {D : List ((Int × Int) × List Int)} {N : Nat} (h : Wd w F r g S B D N) (hN : N ≤ 549755813888) {hh : Int} {e : Ent} {K : Value → World → Prop}
    (hbad : ∀ w', Ext no w w' → setE S hh e ≠ 0 → K (.int .i64 (setE S hh e)) w')
    (hok : ∀ w' F' i s, setE S hh e = 0 → e.rightE = 0 → atI S hh = some i → i = hh.toNat % 64 → hh = hh.toNat → S[i]? = some s → s.there = true → s.e.h = hh → Wd w' F' r g (S.set i ⟨s.gen, s.there, { e with h := hh }⟩) (gmoveB wside B i e.box) (gmoveD wside B D i e.box) (N + 1024) →
      Ext (wF F r) w w' → (∀ k, F' k → F k ∨ w.heap.size ≤ k) → (∀ k, F k → F' k) → K (.int .i64 0) w') :
    cl Try.prog 20 #[.pointer (some ⟨r, 0, none⟩), .int .i64 hh, e.v] w K := by
  apply F20_calls
  unfold F20
  have hS := St.start w
  (refine St.nw hS ?_; clear hS; intro r1 _ hS)
  have hw1 := h.ws.ext hS.ext fun h => h
  refine lv_i (at_k hw1 (fun hn => ?_) (fun i s hat hhn hi hs ht he => ?_))
  · have e1 : setE S hh e = 190 := by unfold setE; rw [hn]; rfl
    have := hbad _ hS.ext (by rw [e1]; decide)
    rw [e1] at this
    exact asP_i rfl (cond_t rfl (lv_i this))
  refine asP_i rfl (cond_f rfl ?_)
  have e1 : setE S hh e = e.rightE := by unfold setE; rw [hat]; rfl
  repeat (first | (refine asI_i rfl ?_) | (refine asB_i rfl ?_) | (refine asP_i rfl ?_) | (refine asS_i rfl ?_) | (refine asY_i rfl ?_) | (refine asM_i rfl ?_) | (refine asA_i rfl rfl ?_) | (refine asT_i rfl rfl ?_) | (refine lv_i ?_) | (refine St.nw hS ?_; clear hS; intro _ _ hS) | (refine St.dw hS ?_; clear hS; intro _ hS _) | (refine hS.ld0 0 rfl rfl ?_) | (refine hS.ld 0 rfl rfl ?_) | (refine hS.ld0 1 rfl rfl ?_) | (refine hS.ld 1 rfl rfl ?_) | (refine hS.ld0 2 rfl rfl ?_) | (refine hS.ld 2 rfl rfl ?_) | (refine hS.ld0 3 rfl rfl ?_) | (refine hS.ld 3 rfl rfl ?_) | (refine hS.ld0 4 rfl rfl ?_) | (refine hS.ld 4 rfl rfl ?_) | (refine hS.ld0 5 rfl rfl ?_) | (refine hS.ld 5 rfl rfl ?_) | (refine hS.ld0 6 rfl rfl ?_) | (refine hS.ld 6 rfl rfl ?_) | (refine hS.ld0 7 rfl rfl ?_) | (refine hS.ld 7 rfl rfl ?_) | (refine hS.hd0 0 rfl rfl ?_) | (refine hS.hd 0 rfl rfl ?_) | (refine hS.hd0 1 rfl rfl ?_) | (refine hS.hd 1 rfl rfl ?_) | (refine hS.hd0 2 rfl rfl ?_) | (refine hS.hd 2 rfl rfl ?_) | (refine hS.hd0 3 rfl rfl ?_) | (refine hS.hd 3 rfl rfl ?_) | (refine hS.hd0 4 rfl rfl ?_) | (refine hS.hd 4 rfl rfl ?_) | (refine hS.hd0 5 rfl rfl ?_) | (refine hS.hd 5 rfl rfl ?_) | (refine hS.hd0 6 rfl rfl ?_) | (refine hS.hd 6 rfl rfl ?_) | (refine hS.hd0 7 rfl rfl ?_) | (refine hS.hd 7 rfl rfl ?_) | (refine hS.st0 0 rfl rfl rfl ?_; clear hS; intro _ hS) | (refine hS.st 0 rfl rfl rfl ?_; clear hS; intro _ hS) | (refine hS.st0 1 rfl rfl rfl ?_; clear hS; intro _ hS) | (refine hS.st 1 rfl rfl rfl ?_; clear hS; intro _ hS) | (refine hS.st0 2 rfl rfl rfl ?_; clear hS; intro _ hS) | (refine hS.st 2 rfl rfl rfl ?_; clear hS; intro _ hS) | (refine hS.st0 3 rfl rfl rfl ?_; clear hS; intro _ hS) | (refine hS.st 3 rfl rfl rfl ?_; clear hS; intro _ hS) | (refine hS.st0 4 rfl rfl rfl ?_; clear hS; intro _ hS) | (refine hS.st 4 rfl rfl rfl ?_; clear hS; intro _ hS) | (refine hS.st0 5 rfl rfl rfl ?_; clear hS; intro _ hS) | (refine hS.st 5 rfl rfl rfl ?_; clear hS; intro _ hS) | (refine hS.st0 6 rfl rfl rfl ?_; clear hS; intro _ hS) | (refine hS.st 6 rfl rfl rfl ?_; clear hS; intro _ hS) | (refine hS.st0 7 rfl rfl rfl ?_; clear hS; intro _ hS) | (refine hS.st 7 rfl rfl rfl ?_; clear hS; intro _ hS) | (refine bnd_mk (by decide) (by decide) ?_) | (refine so_i rfl ?_))
  show cl Try.prog 15 #[e.v] _ _
  refine eright_k ?_
  intro w1 hx1
  replace hS := hS.to hx1
  clear hx1
  refine asI_i rfl (lv_i (cond_split (fun h0 => ?_) (fun h0 => ?_)))
  · have hne : e.rightE ≠ 0 := by simpa using h0
    have := hbad _ hS.ext (by rw [e1]; exact hne)
    rw [e1] at this
    exact lv_i this
  have hE : e.rightE = 0 := by simpa using h0
  have h1 := h.ext hS.ext fun _ _ hf => hf
  have hil := (List.getElem?_eq_some_iff.1 hs).1
  have hkn := hS.kn (r1, e.cells, 27) List.mem_cons_self
  have hr1 : r < w.heap.size := h.r_lt
  have hne : r1 ≠ r := by
    have := hkn.2
    simp only at this
    omega
  refine ld8b hkn.1 (o := 0) (e := e) (fun k _ => by simp) (dr_i ?_) rfl
  have ea2 : Addr.add ⟨r, 1 + i * 10, none⟩ 2 = ⟨r, 1 + (i * 10 + 2), none⟩ := by rw [add_mk]; congr 1
  rw [ea2]
  refine h1.ws.st8 hs e rfl ?_
  intro w2 hw2 hx2 hz2
  have g1 : ∀ q : Spot, (S.set i q)[i]? = some q := fun q => List.getElem?_set_self hil
  refine dr_i ?_
  rw [ea2]
  refine hw2.st (k := 2) ⟨s.gen, s.there, { e with h := hh }⟩ (g1 _) (by decide) rfl rfl ?_
  intro w3 hw3 hx3 hz3
  rw [List.set_set] at hw3
  refine dw_mk ?_
  have hX : Ext (onl r) w1 w3.drew := (hx2.trans hx3).trans (Ext.of_no (Ext.drew w3))
  have hw4 := hw3.ext (Ext.drew w3) fun h => h
  have hb4 : w3.drew.heap[r1]? = some (.cells e.cells.toArray 27 (0, 0)) := hX.blk hkn.1 hne
  refine dr_i (ld_mk hw4.cell0 (asP_i rfl ?_))
  have c1 : w3.drew.cell? (Addr.add ⟨r1, 0, none⟩ 1) = some (.int .i64 e.x) := by rw [add_mk, blk_cell hb4]; rfl
  have c2 : w3.drew.cell? (Addr.add (Addr.add ⟨r1, 0, none⟩ 1) 1) = some (.int .i64 e.y) := by rw [add_mk, add_mk, blk_cell hb4]; rfl
  have c3 : w3.drew.cell? (Addr.add (Addr.add ⟨r1, 0, none⟩ 1) 2) = some (.int .i64 e.r) := by rw [add_mk, add_mk, blk_cell hb4]; rfl
  refine ld_mk c1 (asI_i rfl (ld_mk c2 (asI_i rfl (ld_mk c3 (asI_i rfl ?_)))))
  have em : Int.tmod hh 64 = (i : Int) := by
    rw [hi]
    conv => lhs; rw [hhn]
    rfl
  rw [em]
  obtain ⟨mb, mc, C, bb, kb, bc, kc, hg, hp⟩ := h1.gr
  have hg4 := hg.ext hX fun k hk e => h.nr (by
    have : k = r := e
    rw [← this]; exact hk)
  show cl Try.prog 35 #[.pointer (some ⟨g, 0, none⟩), .int .i64 (i : Int), e.box.v] w3.drew _
  refine gMove_k hg4 (fun x => ?_) ?_
  · rw [hp]
    have := h.bd x
    omega
  intro w5 F' C' bb' kb' bc' kc' hg5 hpl hx5 hF1 hF2
  have hXX : Ext (wF F r) w w5 := by
    have a1 : Ext (wF F r) w w1 := Ext.of_no hS.ext
    have a2 : Ext (wF F r) w w3.drew := a1.then hX fun k _ hk => .inr hk
    exact a2.then hx5 fun k _ hk => .inl hk
  have hsz := hS.ext.size
  have hsz2 := hX.size
  have hG : ∀ k, F' k → F k ∨ w.heap.size ≤ k := fun k hk => by
    rcases hF1 k hk with h | h
    · exact .inl h
    · exact .inr (by omega)
  refine asI_i rfl (lv_i (hok w5 F' i s (by rw [e1]; exact hE) hE hat hi hhn hs ht he ⟨hw4.ext hx5 h.nr, ⟨mb, mc, C', bb', kb', bc', kc', hg5, by rw [hpl, hp]⟩, fun hf => ?_, fun x => ?_, fun q hq => ?_⟩ hXX hG hF2))
  · rcases hG r hf with h' | h'
    · exact h.nr h'
    · omega
  · unfold gmoveD
    split
    · have := putL_len (l := cellsL' wside e.box) (id := (i : Int)) (D := dropL D (cellsL' wside (boxAt B (i : Int))) (i : Int)) x
      have := dropL_len (l := cellsL' wside (boxAt B (i : Int))) (id := (i : Int)) h.nd x
      have := h.bd x
      have := @cells_len wside e.box
      omega
    · have := h.bd x
      omega
  · rcases List.mem_or_eq_of_mem_set hq with hq | rfl
    · exact h.gen q hq
    · exact h.gen s (List.mem_of_getElem? hs)

/-! ### List -/
def listS (S : List Spot) : List Ent := (S.filter fun s => s.there).map fun s => s.e

theorem hold_of {P : Program} {w : World} {a : Addr} : ∀ (vs : List Value) (i : Nat), (∀ j v, vs[j]? = some v → w.cell? (a.add (i + j)) = some v) → Hold P w (factsOf a i vs)
  | [], _, _ => fun x hx => by simp [factsOf] at hx
  | v :: vs, i, h => by
    intro x hx
    simp only [factsOf, List.mem_cons] at hx
    rcases hx with rfl | hx
    · exact h 0 v rfl
    · exact hold_of vs (i + 1) (fun j u hj => by have := h (j + 1) u (by simpa using hj); rwa [show i + (j + 1) = i + 1 + j by omega] at this) x hx

theorem extract_spot {S : List Spot} {i : Nat} {s : Spot} (hi : S[i]? = some s) : ((S.flatMap Spot.cells).toArray.extract (i * 10) (i * 10 + 10)) = s.cells.toArray := by
  apply Array.ext_getElem?
  intro j
  have hl := fl_lenN (f := Spot.cells) Spot.cells_length S
  have hil := (List.getElem?_eq_some_iff.1 hi).1
  by_cases hj : j < 10
  · have := fl_getN (f := Spot.cells) Spot.cells_length hi j hj
    rw [Array.getElem?_extract]
    simp only [List.size_toArray, hl]
    rw [if_pos (by omega)]
    simpa using this
  · rw [Array.getElem?_extract]
    simp only [List.size_toArray, hl]
    rw [if_neg (by omega)]
    have : s.cells.length ≤ j := by rw [Spot.cells_length]; omega
    simp [this]

set_option maxRecDepth 100000 in
theorem sE : SlN Try.prog 43 27 8 64 := ⟨rfl, ⟨_, _, rfl, rfl, rfl, rfl, rfl⟩, by decide⟩
theorem Ent.cells_length (e : Ent) : e.cells.length = 8 := rfl
theorem Ent.one (e : Ent) : ∀ u ∈ e.cells, Sx.one u = true := by
  intro u hu
  simp only [Ent.cells, List.mem_cons, List.not_mem_nil, or_false] at hu
  rcases hu with rfl | rfl | rfl | rfl | rfl | rfl | rfl | rfl <;> rfl

theorem listS_take (S : List Spot) (i : Nat) {s : Spot} (hs : S[i]? = some s) : listS (S.take (i + 1)) = listS (S.take i) ++ (if s.there = true then [s.e] else []) := by
  unfold listS
  rw [List.take_add_one, hs, List.filter_append, List.map_append]
  congr 1
  simp only [Option.toList_some, List.filter_cons, List.filter_nil]
  split <;> simp

theorem listS_len (S : List Spot) : (listS S).length ≤ S.length := by
  unfold listS
  rw [List.length_map]
  exact List.length_filter_le _ _

theorem list_k {w : World} {r g : Nat} {S : List Spot} (hw : WS w r g S) {K : Value → World → Prop}
    (hK : ∀ p c w', Ext no w w' → RowN w' w.heap.size 27 8 p c (listS S).length ((listS S).flatMap Ent.cells) → K (.slice p (listS S).length c) w') :
    cl Try.prog 19 #[.pointer (some ⟨r, 0, none⟩)] w K := by
  apply F19_calls
  unfold F19
  have hl := fl_lenN (f := Spot.cells) Spot.cells_length S
  have h64 := hw.len
  refine dr_i ⟨S.flatMap Spot.cells, by rw [hl, h64], ?_, ?_⟩
  · refine hold_of _ 0 fun j v hj => ?_
    rw [Nat.zero_add, add_mk, add_mk, blk_cell hw.blk]
    unfold wc
    rw [List.getElem?_toArray, Nat.zero_add, Nat.add_comm 1, List.getElem?_cons_succ]
    exact hj
  refine lp_mk (fun t : (Option Addr × Nat × Nat) × Nat => [.slice t.1.1 t.1.2.1 t.1.2.2, .int .i64 (t.2 : Int)])
    (fun m t w' => m = 64 - t.2 ∧ t.2 ≤ 64 ∧ Ext no w w' ∧ t.1.2.1 = (listS (S.take t.2)).length ∧ RowN w' w.heap.size 27 8 t.1.1 t.1.2.2 t.1.2.1 ((listS (S.take t.2)).flatMap Ent.cells)) 64 ((none, 0, 0), 0) rfl
    ⟨rfl, Nat.zero_le _, Ext.refl _ _, rfl, RowN.nil _ _ _ _⟩ ?_
  rintro _ ⟨⟨p, n, c⟩, i⟩ w1 ⟨rfl, hi, hx1, hn, hr1⟩ J hJ
  simp only at hi hn hr1 hJ ⊢
  refine asS_i rfl (asI_i rfl (cond_split (fun hc => ?_) (fun hc => ?_)))
  · have hil : i < S.length := by
      have := of_decide_eq_true hc
      omega
    have hs : S[i]? = some S[i] := List.getElem?_eq_getElem hil
    generalize S[i] = s at hs
    have ei : IntKind.wrap .i64 ((i : Int) + 1) = ((i + 1 : Nat) : Int) := by rw [wr64 (by omega) (by omega)]; omega
    refine jn_of (fun t w' => ∃ p' c', t = [.slice p' (listS (S.take (i + 1))).length c'] ∧ Ext no w w' ∧ RowN w' w.heap.size 27 8 p' c' (listS (S.take (i + 1))).length ((listS (S.take (i + 1))).flatMap Ent.cells)) ?_ ?_
    · rintro _ w2 ⟨p', c', rfl, hx2, hr2⟩
      refine asS_i rfl ?_
      rw [ei]
      exact hJ (64 - (i + 1)) ((p', _, c'), i + 1) w2 (by omega) ⟨rfl, by simp only; omega, hx2, rfl, hr2⟩
    · intro J2 hJ2
      refine bnd_mk (by omega) (by omega) ?_
      rw [Int.toNat_natCast, extract_spot hs]
      refine asA_i (l := s.cells) rfl rfl (asI_i rfl (asB_i rfl (asI_i rfl (asI_i rfl (asI_i rfl (asI_i rfl (asI_i rfl (asI_i rfl (asI_i rfl (asI_i rfl ?_))))))))))
      have hS := St.start w1
      (refine St.nw hS ?_; clear hS; intro r2 _ hS)
      refine hS.st0 0 rfl rfl rfl fun w2 h2 => h2.st 0 rfl rfl rfl fun w3 h3 => h3.st 0 rfl rfl rfl fun w4 h4 => h4.st 0 rfl rfl rfl fun w5 h5 => h5.st 0 rfl rfl rfl fun w6 h6 => ?_
      refine h6.st 0 rfl rfl rfl fun w7 h7 => h7.st 0 rfl rfl rfl fun w8 h8 => h8.st 0 rfl rfl rfl fun w9 h9 => h9.st 0 rfl rfl rfl fun w10 h10 => h10.st 0 rfl rfl rfl fun w11 h11 => ?_
      have hb : w11.heap[r2]? = some (.cells s.cells.toArray 100 (0, 0)) := (h11.kn _ List.mem_cons_self).1
      have c1 : w11.cell? (Addr.add ⟨r2, 0, none⟩ 1) = some (.bool s.there) := by rw [add_mk, blk_cell hb]; rfl
      have hxx : Ext no w w11 := hx1.trans h11.ext
      refine ld_mk c1 (asB_i rfl (cond_split (fun ht => ?_) (fun ht => hJ2 _ _ ⟨p, c, ?_, hxx, ?_⟩)))
      · refine ld8b (o := 2) (e := s.e) hb (fun k hk => ?_) ?_ (by rw [add_mk])
        · simp only [List.getElem?_toArray]
          rw [Nat.add_comm]
          rfl
        have hlen := listS_len (S.take i)
        rw [List.length_take] at hlen
        refine sE.app1 (vs := s.e.cells) (hr1.ext h11.ext fun _ _ h => h) hxx.size rfl s.e.one (le_maxLen (by omega)) (by omega) ?_
        intro p' c' w12 hr12 hE12 hM12
        have hx12 : Ext no w w12 := hxx.then hE12 fun k hk ⟨a, ha, hab⟩ => by
          have := ((hr1.ext h11.ext fun _ _ h => h).at ha).1
          omega
        have el : listS (S.take (i + 1)) = listS (S.take i) ++ [s.e] := by rw [listS_take S i hs, if_pos ht]
        have el2 : n + 1 = (listS (S.take (i + 1))).length := by rw [el, List.length_append, ← hn]; rfl
        refine asS_i rfl (hJ2 _ _ ⟨p', c', by rw [el2], hx12, ?_⟩)
        rw [← el2, el, List.flatMap_append]
        simpa using hr12
      · have el : listS (S.take (i + 1)) = listS (S.take i) := by rw [listS_take S i hs, if_neg (by rw [ht]; decide)]; simp
        rw [el, ← hn]
      · have el : listS (S.take (i + 1)) = listS (S.take i) := by rw [listS_take S i hs, if_neg (by rw [ht]; decide)]; simp
        rw [el, ← hn]
        exact hr1.ext h11.ext fun _ _ h => h
  · have hi64 : i = 64 := by
      have := of_decide_eq_false hc
      omega
    subst hi64
    have et : S.take 64 = S := List.take_of_length_le (by omega)
    rw [et] at hn hr1
    subst hn
    exact hK p c w1 hx1 hr1
end Go.Proofs.Ytamobmjfdiecbaa

/- WoH: a world beside blocks of one's own: its calls again, told so; the document's examples of worlds come out (awake). Conditions: those of each theorem, on its arguments. -/
namespace Go.Proofs.Ytamobmjfdiecbaa
open Go Go.Sx Go.Fp
attribute [local irreducible] jn lv ld st nw asI asB asP asS asY asM asF asA asT lp rn ru rq cl dw dr bnd bn2 nz nn hd hr so eqW
attribute [local irreducible] callOk

theorem _root_.Go.Sx.St.toM {w0 w w' : World} {L : List (Nat × List Value × TypeId)} (h : St w0 w L) {M : Nat → Prop} (hx : Ext M w w') (hM : ∀ k, M k → w0.heap.size ≤ k) (hL : ∀ b ∈ L, ¬ M b.1) : St w0 w' L :=
  ⟨h.ext.then hx fun k hk hm => by have := hM k hm; omega, fun b hb => ⟨hx.blk (h.kn b hb).1 (hL b hb), (h.kn b hb).2⟩, h.nd⟩

structure Pw (W w : World) (L : List (Nat × List Value × TypeId)) (F : Nat → Prop) (r g : Nat) (S : List Spot) (B : List (Int × Bx)) (D : List ((Int × Int) × List Int)) (N : Nat) : Prop where
  st : St W w L
  wd : Wd w F r g S B D N
  fr : ∀ k, wF F r k → W.heap.size ≤ k ∧ ∀ b ∈ L, b.1 ≠ k

section
variable {W w : World} {L : List (Nat × List Value × TypeId)} {F : Nat → Prop} {r g : Nat} {S : List Spot} {B : List (Int × Bx)} {D : List ((Int × Int) × List Int)} {N : Nat}

theorem Pw.to (h : Pw W w L F r g S B D N) {w' : World} (hx : Ext no w w') : Pw W w' L F r g S B D N := ⟨h.st.to hx, h.wd.ext hx fun _ _ hf => hf, h.fr⟩

theorem Pw.lt (h : Pw W w L F r g S B D N) : ∀ k, wF F r k → k < w.heap.size := by
  rintro k (hk | rfl)
  · exact h.wd.f_lt k hk
  · exact h.wd.r_lt

theorem Pw.nw (h : Pw W w L F r g S B D N) {cs : List Value} {t : TypeId} {K : Nat → World → Prop} (hK : ∀ q w', Pw W w' ((q, cs, t) :: L) F r g S B D N → K q w') : nw w (.cells cs.toArray t) K := by
  have hx := Ext.alloc w (.cells cs.toArray t)
  refine nw_mk (hK _ _ ⟨h.st.alloc cs t, h.wd.ext hx fun _ _ hf => hf, fun k hk => ⟨(h.fr k hk).1, fun b hb => ?_⟩⟩)
  · rcases List.mem_cons.1 hb with rfl | hb
    · have := h.lt k hk
      simp only
      omega
    · exact (h.fr k hk).2 b hb

/-- behind a step of the world -/
theorem Pw.step (h : Pw W w L F r g S B D N) {w' : World} {F' : Nat → Prop} {S' : List Spot} {B' : List (Int × Bx)} {D' : List ((Int × Int) × List Int)} {N' : Nat} (hw : Wd w' F' r g S' B' D' N') (hx : Ext (wF F r) w w') (hG : ∀ k, F' k → F k ∨ w.heap.size ≤ k) : Pw W w' L F' r g S' B' D' N' := by
  refine ⟨h.st.toM hx (fun k hk => (h.fr k hk).1) (fun b hb hk => (h.fr _ hk).2 b hb rfl), hw, ?_⟩
  have key : ∀ k, wF F' r k → wF F r k ∨ w.heap.size ≤ k := by
    rintro k (hk | rfl)
    · rcases hG k hk with h | h
      · exact .inl (.inl h)
      · exact .inr h
    · exact .inl (.inr rfl)
  intro k hk
  rcases key k hk with h' | h'
  · exact h.fr k h'
  · have := h.st.ext.size
    refine ⟨by omega, fun b hb => ?_⟩
    have := blk_lt (h.st.kn b hb).1
    omega

theorem Pw.start {F : Nat → Prop} {r g : Nat} {W w : World} (hs : St W w L) {w' : World} (hx : Ext no w w') (hw : Wd w' F r g S B D N) (hF : ∀ k, F k → w.heap.size ≤ k) (hr : w.heap.size ≤ r) : Pw W w' L F r g S B D N := by
  refine ⟨hs.to hx, hw, ?_⟩
  have := hs.ext.size
  rintro k (hk | rfl)
  · have := hF k hk
    refine ⟨by omega, fun b hb => ?_⟩
    have := blk_lt (hs.kn b hb).1
    omega
  · refine ⟨by omega, fun b hb => ?_⟩
    have := blk_lt (hs.kn b hb).1
    omega

theorem Pw.spawn (h : Pw W w L F r g S B D N) (hN : N ≤ 549755813888) {e : Ent} {K : Value → World → Prop}
    (hbad : ∀ w', Pw W w' L F r g S B D N → e.rightE ≠ 0 → K (.tuple #[.int .i64 0, .int .i64 e.rightE]) w')
    (hfull : ∀ w', Pw W w' L F r g S B D N → e.rightE = 0 → (∀ (j : Nat) s, S[j]? = some s → free s = false) → K (.tuple #[.int .i64 0, .int .i64 2]) w')
    (hok : ∀ w' F' i s, e.rightE = 0 → IsFree S i s → Pw W w' L F' r g (S.set i (spn s i e)) (gputB wside B i e.box) (gputD wside B D i e.box) (N + 1024) → K (.tuple #[.int .i64 ((s.gen + 1) * 64 + (i : Int)), .int .i64 0]) w') :
    cl Try.prog 16 #[.pointer (some ⟨r, 0, none⟩), e.v] w K :=
  spawn_k h.wd hN (fun w' hx he => hbad w' (h.to hx) he) (fun w' hx he hf => hfull w' (h.to hx) he hf) fun w' F' i s he hf hw hx hG _ => hok w' F' i s he hf (h.step hw hx hG)

theorem Pw.kill (h : Pw W w L F r g S B D N) (hN : N ≤ 549755813888) {hh : Int} {K : Value → World → Prop}
    (hnone : atI S hh = none → K (.int .i64 190) w)
    (hok : ∀ w' i s, atI S hh = some i → i = hh.toNat % 64 → hh = hh.toNat → S[i]? = some s → s.there = true → s.e.h = hh → Pw W w' L F r g (S.set i ⟨s.gen, false, s.e⟩) (gdropB B i) (gdropD wside B D i) N → K (.int .i64 0) w') :
    cl Try.prog 17 #[.pointer (some ⟨r, 0, none⟩), .int .i64 hh] w K :=
  kill_k h.wd hN hnone fun w' i s h1 h2 h3 h4 h5 h6 hw hx => hok w' i s h1 h2 h3 h4 h5 h6 (h.step hw hx fun k hk => .inl hk)

theorem Pw.get (h : Pw W w L F r g S B D N) {hh : Int} {K : Value → World → Prop} (hK : ∀ w', Pw W w' L F r g S B D N → K (.tuple #[(getE S hh).v, .int .i64 (getC S hh)]) w') :
    cl Try.prog 18 #[.pointer (some ⟨r, 0, none⟩), .int .i64 hh] w K := get_k h.wd.ws fun w' hx => hK w' (h.to hx)

theorem Pw.set (h : Pw W w L F r g S B D N) (hN : N ≤ 549755813888) {hh : Int} {e : Ent} {K : Value → World → Prop}
    (hbad : ∀ w', Pw W w' L F r g S B D N → setE S hh e ≠ 0 → K (.int .i64 (setE S hh e)) w')
    (hok : ∀ w' F' i s, setE S hh e = 0 → e.rightE = 0 → atI S hh = some i → i = hh.toNat % 64 → hh = hh.toNat → S[i]? = some s → s.there = true → s.e.h = hh → Pw W w' L F' r g (S.set i ⟨s.gen, s.there, { e with h := hh }⟩) (gmoveB wside B i e.box) (gmoveD wside B D i e.box) (N + 1024) → K (.int .i64 0) w') :
    cl Try.prog 20 #[.pointer (some ⟨r, 0, none⟩), .int .i64 hh, e.v] w K :=
  set_k h.wd hN (fun w' hx he => hbad w' (h.to hx) he) fun w' F' i s h0 h1 h2 h3 h4 h5 h6 h7 hw hx hG _ => hok w' F' i s h0 h1 h2 h3 h4 h5 h6 h7 (h.step hw hx hG)

theorem Pw.right (h : Pw W w L F r g S B D N) {e : Ent} {K : Value → World → Prop} (hK : ∀ w', Pw W w' L F r g S B D N → K (.int .i64 e.rightE) w') : cl Try.prog 15 #[e.v] w K := eright_k fun w' hx => hK w' (h.to hx)

theorem Pw.drew (h : Pw W w L F r g S B D N) {K : World → Prop} (hK : Pw W w.drew L F r g S B D N → K w.drew) : dw w K := dw_mk (hK (h.to (Ext.drew w)))

/-- an entity in a block of one's own, read -/
theorem Pw.ld8 (h : Pw W w L F r g S B D N) (i : Nat) {q : Nat} {e : Ent} (hL : L[i]? = some (q, e.cells, 27)) {K : Int → Int → Int → Int → Int → Int → Int → Int → Prop} (hK : K e.h e.x e.y e.r e.vx e.vy e.o e.t) :
    ld w ⟨q, 0, none⟩ fun v1 => asI .i64 v1 fun x0 => ld w (Addr.add ⟨q, 0, none⟩ 1) fun v2 => asI .i64 v2 fun x1 => ld w (Addr.add ⟨q, 0, none⟩ 2) fun v3 => asI .i64 v3 fun x2 => ld w (Addr.add ⟨q, 0, none⟩ 3) fun v4 => asI .i64 v4 fun x3 =>
      ld w (Addr.add ⟨q, 0, none⟩ 4) fun v5 => asI .i64 v5 fun x4 => ld w (Addr.add ⟨q, 0, none⟩ 5) fun v6 => asI .i64 v6 fun x5 => ld w (Addr.add ⟨q, 0, none⟩ 6) fun v7 => asI .i64 v7 fun x6 => ld w (Addr.add ⟨q, 0, none⟩ 7) fun v8 => asI .i64 v8 fun x7 => K x0 x1 x2 x3 x4 x5 x6 x7 :=
  ld8b (o := 0) (e := e) (h.st.kn _ (List.mem_of_getElem? hL)).1 (fun k _ => by simp) hK rfl

/-- an entity into the newest block of one's own -/
theorem Pw.st8 {q : Nat} {cs : List Value} {t : TypeId} (h : Pw W w ((q, cs, t) :: L) F r g S B D N) (hc : cs.length = 8) (e : Ent) {K : World → Prop} (hK : ∀ w', Pw W w' ((q, e.cells, t) :: L) F r g S B D N → K w') :
    Sx.st w ⟨q, 0, none⟩ (.int .i64 e.h) fun w1 => Sx.st w1 (Addr.add ⟨q, 0, none⟩ 1) (.int .i64 e.x) fun w2 => Sx.st w2 (Addr.add ⟨q, 0, none⟩ 2) (.int .i64 e.y) fun w3 => Sx.st w3 (Addr.add ⟨q, 0, none⟩ 3) (.int .i64 e.r) fun w4 =>
      Sx.st w4 (Addr.add ⟨q, 0, none⟩ 4) (.int .i64 e.vx) fun w5 => Sx.st w5 (Addr.add ⟨q, 0, none⟩ 5) (.int .i64 e.vy) fun w6 => Sx.st w6 (Addr.add ⟨q, 0, none⟩ 6) (.int .i64 e.o) fun w7 => Sx.st w7 (Addr.add ⟨q, 0, none⟩ 7) (.int .i64 e.t) fun w8 => K w8 := by
  have one : ∀ {w : World} {cs : List Value} {j : Nat} {v u : Value} {K : World → Prop}, Pw W w ((q, cs, t) :: L) F r g S B D N → cs[j]? = some u → Sx.one v = true → (∀ w', Pw W w' ((q, cs.set j v, t) :: L) F r g S B D N → K w') → Sx.st w ⟨q, j, none⟩ v K := by
    intro w cs j v u K h hj h1 hK
    refine h.st.stj 0 rfl hj h1 fun w' hs hx => hK w' ⟨hs, h.wd.ext hx fun k hk e => ?_, fun k hk => ⟨(h.fr k hk).1, fun b hb => ?_⟩⟩
    · have e' : k = q := e
      exact (h.fr k hk).2 (q, cs, t) List.mem_cons_self e'.symm
    · rcases List.mem_cons.1 hb with rfl | hb
      · exact (h.fr k hk).2 (q, cs, t) List.mem_cons_self
      · exact (h.fr k hk).2 b (List.mem_cons_of_mem _ hb)
  match cs, hc with
  | [a0, a1, a2, a3, a4, a5, a6, a7], _ =>
    simp only [add_mk, Nat.zero_add]
    exact one h rfl rfl fun w1 h1 => one h1 rfl rfl fun w2 h2 => one h2 rfl rfl fun w3 h3 => one h3 rfl rfl fun w4 h4 => one h4 rfl rfl fun w5 h5 => one h5 rfl rfl fun w6 h6 => one h6 rfl rfl fun w7 h7 => one h7 rfl rfl fun w8 h8 => hK w8 h8
end

theorem IsFree.unique {S : List Spot} {i j : Nat} {s t : Spot} (h : IsFree S i s) (h' : IsFree S j t) : i = j ∧ s = t := by
  have key : ∀ {i j : Nat} {s t : Spot}, IsFree S i s → IsFree S j t → ¬ i < j := fun h h' hlt => by
    have := h'.2.2 _ _ hlt h.1
    rw [h.2.1] at this
    cases this
  have h1 := key h h'
  have h2 := key h' h
  have e : i = j := by omega
  subst e
  have := h.1.symm.trans h'.1
  exact ⟨rfl, by simpa using this⟩

def one1 : Ent := ⟨0, 0, 0, 1, 0, 0, 0, 0⟩
def aS0 : List Spot := List.replicate 64 Spot.zero
def aS1 : List Spot := aS0.set 0 (spn Spot.zero 0 one1)
def aS2 : List Spot := aS1.set 1 (spn Spot.zero 1 one1)
def aS3 : List Spot := aS2.set 0 ⟨1, false, { one1 with h := 64 }⟩
def aS4 : List Spot := aS3.set 0 (spn ⟨1, false, { one1 with h := 64 }⟩ 0 one1)

theorem wawake_k {w : World} {K : Value → World → Prop} (hK : ∀ w', Ext no w w' → K (.bool true) w') : cl Try.prog 13 #[] w K := by
  apply F13_calls
  unfold F13
  refine wnew_k ?_
  intro w1 F r g hw hx1 hF hr
  refine asP_i rfl (cond_f rfl ?_)
  have hP := Pw.start (St.start w) hx1 hw hF hr
  refine hP.nw (cs := Ent.zero.cells) fun q w2 hP => ?_
  refine hP.st8 rfl one1 fun w3 hP => ?_
  have h1 : one1.rightE = 0 := by decide
  have f0 : IsFree aS0 0 Spot.zero := ⟨rfl, rfl, fun j s hj => absurd hj (by omega)⟩
  refine hP.ld8 0 rfl (hP.spawn (e := one1) (by decide) (fun w' _ he => absurd h1 he) (fun w' _ _ hf => absurd (hf 0 _ f0.1) (by decide)) ?_)
  intro w4 F4 i s _ hf hP
  obtain ⟨rfl, rfl⟩ := hf.unique f0
  refine asT_i rfl rfl (asI_i rfl (asI_i rfl (lv_i (lv_i ?_))))
  replace hP : Pw w w4 _ F4 r g aS1 _ _ _ := hP
  have f1 : IsFree aS1 1 Spot.zero := ⟨rfl, rfl, fun j s hj hs => by
    have : j = 0 := by omega
    subst this
    cases hs
    rfl⟩
  refine hP.ld8 0 rfl (hP.spawn (e := one1) (by decide) (fun w' _ he => absurd h1 he) (fun w' _ _ hf => absurd (hf 1 _ f1.1) (by decide)) ?_)
  intro w5 F5 i s _ hf hP
  obtain ⟨rfl, rfl⟩ := hf.unique f1
  refine asT_i rfl rfl (asI_i rfl (asI_i rfl (lv_i (lv_i ?_))))
  replace hP : Pw w w5 _ F5 r g aS2 _ _ _ := hP
  have hat : atI aS2 64 = some 0 := by decide
  refine hP.kill (by decide) (fun hn => ?_) ?_
  · have : atI aS2 64 = none := hn
    rw [hat] at this
    cases this
  intro w6 i s ha _ _ hs _ _ hP
  have : atI aS2 64 = some i := ha
  rw [hat] at this
  cases this
  have hs' : aS2[0]? = some s := hs
  have hs2 : aS2[0]? = some ⟨1, true, { one1 with h := 64 }⟩ := rfl
  rw [hs2] at hs'
  cases hs'
  refine asI_i rfl (lv_i ?_)
  replace hP : Pw w w6 _ F5 r g aS3 _ _ _ := hP
  have f3 : IsFree aS3 0 ⟨1, false, { one1 with h := 64 }⟩ := ⟨rfl, rfl, fun j s hj => absurd hj (by omega)⟩
  refine hP.ld8 0 rfl (hP.spawn (e := one1) (by decide) (fun w' _ he => absurd h1 he) (fun w' _ _ hf => absurd (hf 0 _ f3.1) (by decide)) ?_)
  intro w7 F7 i s _ hf hP
  obtain ⟨rfl, rfl⟩ := hf.unique f3
  refine asT_i rfl rfl (asI_i rfl (asI_i rfl (lv_i (lv_i ?_))))
  replace hP : Pw w w7 _ F7 r g aS4 _ _ _ := hP
  have hat4 : atI aS4 64 = none := by decide
  refine hP.get fun w8 hP => ?_
  have eC : getC aS4 64 = 190 := by unfold getC; rw [hat4]; rfl
  rw [eC]
  refine asT_i (l := [(getE _ 64).v, .int .i64 190]) rfl rfl (asI8 ?_)
  generalize getE _ 64 = z
  refine asI_i rfl (asI_i rfl (asI_i rfl (asI_i rfl (asI_i rfl (asI_i rfl (asI_i rfl (asI_i rfl (asI_i rfl ?_))))))))
  refine hP.nw (cs := Ent.zero.cells) fun q2 w9 hP => ?_
  refine hP.st8 rfl z fun w10 hP => lv_i ?_
  have hz : Ent.zero.rightE = 60 := by decide
  refine hP.spawn (e := Ent.zero) (by decide) ?_ (fun w' _ he => absurd he (by decide)) (fun w' F' i s he => absurd he (by decide))
  intro w11 hP _
  rw [hz]
  refine asT_i rfl rfl (asI_i rfl (asI_i rfl (lv_i (lv_i ?_))))
  have h9 : (⟨0, 0, 0, 1, 0, 0, 9, 0⟩ : Ent).rightE = 1 := by decide
  refine hP.spawn (e := ⟨0, 0, 0, 1, 0, 0, 9, 0⟩) (by decide) ?_ (fun w' _ he => absurd he (by decide)) (fun w' F' i s he => absurd he (by decide))
  intro w12 hP _
  rw [h9]
  refine asT_i rfl rfl (asI_i rfl (asI_i rfl (lv_i (lv_i (jn_mk ?_)))))
  refine cond_t rfl (cond_t rfl (cond_t rfl (cond_t rfl (cond_t rfl (cond_t rfl (cond_t rfl (cond_t rfl (cond_t rfl (cond_t rfl ?_)))))))))
  refine hP.ld8 1 rfl (hP.right (e := one1) fun w13 hP => ?_)
  rw [h1]
  exact asI_i rfl (asB_i rfl (hK w13 hP.st.ext))
end Go.Proofs.Ytamobmjfdiecbaa

/- Op: arguments laid open: what a reading of a slice of numbers, or of bools, says of its places and its length. No condition. -/
namespace Go.Sx
open Go Go.ChangeShapes Go.WideShapes Go.ChangeAt Go.RowKit

section
variable {H : Type} {enc : TypeId × Value → H} {P : Program} {W : World} {base : Nat} {t e : TypeId} {k : IntKind} {a : Option Addr} {len cap : Nat} {d : DataW H} {ps : List MemPlace} {ts : List TypeId} {ds : List (DataW H)} {j : Nat}

theorem reads_of {W : World} {x : Addr} {vs : List Value} (h : ∀ (i : Nat) (v : Value), vs[i]? = some v → W.cell? (x.add i) = some v) : Reads W (some x) vs := by
  cases vs with
  | nil => exact .inl rfl
  | cons u us =>
    have h0 := h 0 u rfl
    have hs : x.spot = none := by
      cases hsp : x.spot with
      | none => rfl
      | some s =>
        have : x.add 0 = x := by simp [Addr.add]
        rw [this] at h0
        unfold World.cell? at h0
        split at h0
        · simp [hsp] at h0
        · cases h0
    obtain ⟨b, o, sp⟩ := x
    simp only at hs
    subst hs
    exact .inr ⟨b, o, rfl, fun i v hv => by have := h i v hv; rwa [add_mk] at this⟩

theorem op_ints (hsz : (DataW.weightsEach P ts ds).all (· ≤ reachBytes) = true) (ht : ts[j]? = some t) (hd : ds[j]? = some d) (hu : P.underlying t = some (.slice e)) (he : P.underlying e = some (.int k)) (hc : P.cellsOf e = 1) {B : Nat} (hB : P.bytesOf e = B)
    (h : DataW.Trod enc P W base (fun _ => true) true t (.slice a len cap) d ps) :
    ∃ zs : List Int, Reads W a (iv k zs) ∧ zs.length = len ∧ (∀ n ∈ zs, (Lit.int k n).wf = true) ∧ len * B ≤ 140737488351232 := by
  obtain ⟨fuel, hf⟩ := h
  rcases open_ints hu he hc hf with ⟨hcs, _⟩ | ⟨x, l, c, zs, hcs, _, hl, _, hz, hx, hcell, hwf⟩
  · simp [Value.cells] at hcs
    obtain ⟨rfl, rfl, rfl⟩ := hcs
    exact ⟨[], .inl rfl, rfl, by simp, by simp⟩
  · simp [Value.cells] at hcs
    obtain ⟨rfl, rfl, rfl⟩ := hcs
    obtain ⟨hx, _⟩ := Prod.mk.inj hx
    subst hx
    simp only [if_true] at hz
    have hl2 : len ≤ zs.length := by omega
    refine ⟨zs.take len, reads_of fun i v hv => ?_, by simp; omega, fun n hn => hwf n (List.mem_of_mem_take hn), ?_⟩
    · have hi : i < len := by
        have := (List.getElem?_eq_some_iff.1 hv).1
        simp [iv] at this
        omega
      rw [hcell i (by omega)]
      rw [iv_get (by simp; omega)] at hv
      rw [← hv]
      congr 2
      simp [hi]
    · have z := sized_slice hsz ht hd hu
      rw [hB] at z
      have h1 : (lits (H := H) k (zs.take len)).length + (lits (H := H) k (zs.drop len)).length = zs.length := by
        simp [lits]
        omega
      rw [h1] at z
      exact Nat.le_trans (Nat.mul_le_mul_right _ hl2) z

theorem op_bools (hsz : (DataW.weightsEach P ts ds).all (· ≤ reachBytes) = true) (ht : ts[j]? = some t) (hd : ds[j]? = some d) (hu : P.underlying t = some (.slice e)) (he : P.underlying e = some .bool) (hc : P.cellsOf e = 1) {B : Nat} (hB : P.bytesOf e = B)
    (h : DataW.Trod enc P W base (fun _ => true) true t (.slice a len cap) d ps) :
    ∃ zs : List Bool, Reads W a (tv zs) ∧ zs.length = len ∧ len * B ≤ 140737488351232 := by
  obtain ⟨fuel, hf⟩ := h
  rcases Deep.open_bools hu he hc hf with ⟨hcs, _⟩ | ⟨x, l, c, Bo, hcs, _, hl, _, hx, hcell⟩
  · simp [Value.cells] at hcs
    obtain ⟨rfl, rfl, rfl⟩ := hcs
    exact ⟨[], .inl rfl, rfl, by simp⟩
  · simp [Value.cells] at hcs
    obtain ⟨rfl, rfl, rfl⟩ := hcs
    obtain ⟨hx, _⟩ := Prod.mk.inj hx
    refine ⟨(List.range len).map Bo, reads_of fun i v hv => ?_, by simp, ?_⟩
    · have hi : i < len := by
        have := (List.getElem?_eq_some_iff.1 hv).1
        simp [tv] at this
        omega
      rw [hcell i (by omega)]
      simp [tv, hi] at hv
      rw [← hv]
    · have hx' := hx
      unfold Deep.boolRow at hx'
      subst hx'
      have z := sized_slice hsz ht hd hu
      rw [hB] at z
      refine Nat.le_trans (Nat.mul_le_mul_right _ ?_) z
      simp

/-- how many places a reading of a slice holds -/
def dlen : DataW H → Nat
  | .slice es rs => es.length + rs.length
  | _ => 0

theorem op_dlen (hu : P.underlying t = some (.slice e)) (h : DataW.Trod enc P W base (fun _ => true) true t (.slice a len cap) d ps) : len ≤ dlen d := by
  obtain ⟨fuel, hf⟩ := h
  rcases DataW.trod_slice hu hf with ⟨hcs, _⟩ | ⟨x, l, c, elems, rest, n, _, hcs, hx, _, _, _, hl, _⟩
  · simp [Value.cells] at hcs
    obtain ⟨rfl, rfl, rfl⟩ := hcs
    exact Nat.zero_le _
  · simp [Value.cells] at hcs
    obtain ⟨rfl, rfl, rfl⟩ := hcs
    obtain ⟨hx, _⟩ := Prod.mk.inj hx
    subst hx
    simp [dlen]
    omega

/-- numbers of one byte as natural numbers -/
theorem bytes_of {zs : List Int} (h : ∀ n ∈ zs, (Lit.int .u8 n).wf = true) : ∃ bs : List Nat, iv .u8 zs = bv bs ∧ bs.length = zs.length ∧ ∀ b ∈ bs, b < 256 := by
  refine ⟨zs.map Int.toNat, ?_, by simp, ?_⟩
  · simp only [iv, bv, List.map_map]
    apply List.map_congr_left
    intro n hn
    have := h n hn
    simp only [Lit.wf, Bool.and_eq_true, IntKind.min, IntKind.max, IntKind.bits, IntKind.signed] at this
    simp at this ⊢
    omega
  · intro b hb
    simp only [List.mem_map] at hb
    obtain ⟨n, hn, rfl⟩ := hb
    have := h n hn
    simp only [Lit.wf, Bool.and_eq_true, IntKind.min, IntKind.max, IntKind.bits, IntKind.signed] at this
    simp at this
    omega

theorem i64_of {n : Int} (h : (Lit.int .i64 n).wf = true) : -9223372036854775808 ≤ n ∧ n ≤ 9223372036854775807 := by
  simp only [Lit.wf, Bool.and_eq_true, IntKind.min, IntKind.max, IntKind.bits, IntKind.signed] at h
  simp at h
  omega
end

theorem calls_of_cl {P : Program} {f : FuncId} {args : Array Value} {w : World} (h : cl P f args w fun v w' => v = .bool true ∧ Ext no w w') :
    Calls P f args w fun e w' => e = .returned (.bool true) ∧ Below w.heap.size w w' :=
  Calls.mono h fun e w' ⟨v, he, hv, hx⟩ => ⟨by rw [he, hv], hx.below fun _ _ h => h⟩
end Go.Sx

/- OpS: arguments laid open whose types are made of numbers, bools and strings alone, structs in structs too: what a reading says of their cells; slices of them. No condition. -/
namespace Go.Sx
open Go Go.ChangeShapes Go.WideShapes Go.ChangeAt Go.RowKit

inductive Lf where
  | int (k : IntKind)
  | bool
  | str

def Fits : Lf → Value → Prop
  | .int k, v => ∃ n, v = .int k n ∧ (Lit.int k n).wf = true
  | .bool, v => ∃ b, v = .bool b
  | .str, v => ∃ s, v = .string s ∧ s.size ≤ maxLen

def FitsAll : List Lf → List Value → Prop
  | [], cs => cs = []
  | l :: ls, cs => ∃ v r, cs = v :: r ∧ Fits l v ∧ FitsAll ls r

theorem FitsAll.length : ∀ {ls : List Lf} {cs : List Value}, FitsAll ls cs → cs.length = ls.length
  | [], _, h => by rw [show _ = [] from h]; rfl
  | _ :: _, _, ⟨_, _, e, _, h⟩ => by rw [e]; simp [h.length]

theorem FitsAll.append : ∀ {a b : List Lf} {x y : List Value}, FitsAll a x → FitsAll b y → FitsAll (a ++ b) (x ++ y)
  | [], _, _, _, h, k => by rw [show _ = [] from h]; exact k
  | _ :: _, _, _, _, ⟨v, r, e, f, h⟩, k => ⟨v, _, by rw [e]; rfl, f, h.append k⟩

def lfsF (P : Program) (g : TypeId → Option (List Lf)) : List Field → Nat → Option (List Lf)
  | [], _ => some []
  | f :: r, o =>
    match g f.type with
    | some l => if f.offset = o ∧ P.cellsOf f.type = l.length then (lfsF P g r (o + l.length)).map (l ++ ·) else none
    | none => none

def lfs (P : Program) : Nat → TypeId → Option (List Lf)
  | 0, _ => none
  | n + 1, t =>
    match P.underlying t with
    | some .bool => some [.bool]
    | some (.int k) => some [.int k]
    | some .string => some [.str]
    | some (.struct fs) =>
      match lfsF P (lfs P n) fs.toList 0 with
      | some l => if P.cellsOf t = l.length then some l else none
      | none => none
    | _ => none

section
variable {H : Type} {enc : TypeId × Value → H} {P : Program} {W : World} {base : Nat} {spare : Nat → Bool} {held : Bool}

theorem trod_fits : ∀ (n : Nat) {t : TypeId} {fuel : Nat} {cs : List Value} {x : DataW H × List MemPlace} {ls : List Lf}, lfs P n t = some ls → DataW.trod enc P W base spare held fuel t cs = some x → FitsAll ls cs
  | 0, _, _, _, _, _, h, _ => by simp [lfs] at h
  | n + 1, t, fuel, cs, x, ls, h, ht => by
    unfold lfs at h
    split at h
    · rename_i hu
      simp only [Option.some.injEq] at h
      subst h
      obtain ⟨b, h1, _⟩ := DataW.trod_bool hu ht
      exact ⟨_, [], h1, ⟨b, rfl⟩, rfl⟩
    · rename_i k hu
      simp only [Option.some.injEq] at h
      subst h
      obtain ⟨m, h1, _, hw⟩ := DataW.trod_int hu ht
      exact ⟨_, [], h1, ⟨m, rfl, hw⟩, rfl⟩
    · rename_i hu
      simp only [Option.some.injEq] at h
      subst h
      obtain ⟨s, h1, _, hw⟩ := DataW.trod_string hu ht
      exact ⟨_, [], h1, ⟨s, rfl, hw⟩, rfl⟩
    · rename_i fs hu
      split at h
      · rename_i l hl
        split at h
        · rename_i hc
          simp only [Option.some.injEq] at h
          subst h
          obtain ⟨xs, m, _, _, hlen, hxs, hf⟩ := DataW.trod_struct hu ht
          have each : ∀ f ∈ fs.toList, ∃ y, DataW.trod enc P W base spare held m f.type ((cs.drop f.offset).take (P.cellsOf f.type)) = some y := by
            intro f hfm
            obtain ⟨i, hi⟩ := List.getElem?_of_mem hfm
            have hi' : fs[i]? = some f := by simpa using hi
            have hlt : i < xs.length := by
              rw [hxs]
              exact (Array.getElem?_eq_some_iff.1 hi').1
            exact ⟨xs[i], (hf i f hi').trans (List.getElem?_eq_getElem hlt)⟩
          have go : ∀ (r : List Field) (o : Nat) (l : List Lf), lfsF P (lfs P n) r o = some l → (∀ f ∈ r, ∃ y, DataW.trod enc P W base spare held m f.type ((cs.drop f.offset).take (P.cellsOf f.type)) = some y) → FitsAll l ((cs.drop o).take l.length) := by
            intro r
            induction r with
            | nil =>
              intro o l hr _
              simp only [lfsF, Option.some.injEq] at hr
              subst hr
              show List.take 0 _ = []
              simp
            | cons f r ih =>
              intro o l hr he
              simp only [lfsF] at hr
              split at hr
              · rename_i lf hlf
                split at hr
                · rename_i hoff
                  obtain ⟨l', hl', rfl⟩ := Option.map_eq_some_iff.1 hr
                  obtain ⟨y, hy⟩ := he f (List.mem_cons_self ..)
                  have h1 := trod_fits n hlf hy
                  rw [hoff.1, hoff.2] at h1
                  have h2 := ih _ _ hl' fun g hg => he g (List.mem_cons_of_mem _ hg)
                  rw [List.length_append, List.take_add, List.drop_drop]
                  exact h1.append h2
                · cases hr
              · cases hr
          have := go _ _ _ hl each
          rw [List.drop_zero, List.take_of_length_le (by rw [hlen, hc]; exact Nat.le_refl _)] at this
          exact this
        · cases h
      · cases h
    · cases h

theorem op_agg {t : TypeId} {fs : Array Field} {r : Reach} {b0 : Nat} {v : Value} {d : DataW H} {ps : List MemPlace} (hs : P.underlying t = some (.struct fs)) (hv : Value.okWide P W r b0 t v)
    (h : DataW.Trod enc P W base spare held t v d ps) {n : Nat} {ls : List Lf} (hl : lfs P n t = some ls) : ∃ cs : List Value, v = .agg cs.toArray ∧ FitsAll ls cs := by
  obtain ⟨cs, rfl, _⟩ := okWide_struct hs hv
  obtain ⟨fuel, hf⟩ := h
  exact ⟨cs.toList, by simp, trod_fits n hl hf⟩

theorem flat_get {α : Type} {C : Nat} (hC : 0 < C) : ∀ {chunks : List (List α)} (k : Nat), (∀ c ∈ chunks, c.length = C) → chunks.flatten[k]? = (chunks[k / C]?).bind fun c => c[k % C]?
  | [], k, _ => by simp
  | c :: r, k, h => by
    have hc := h c (List.mem_cons_self ..)
    rw [List.flatten_cons]
    by_cases hk : k < C
    · rw [List.getElem?_append_left (by omega), Nat.div_eq_of_lt hk, Nat.mod_eq_of_lt hk]
      simp
    · rw [List.getElem?_append_right (by omega), hc, flat_get hC _ fun c' hc' => h c' (List.mem_cons_of_mem _ hc')]
      have e1 : k / C = (k - C) / C + 1 := by
        have : k = (k - C) + C := by omega
        rw [this, Nat.add_div_right _ hC]
        simp
      have e2 : k % C = (k - C) % C := by
        have : k = (k - C) + C := by omega
        rw [this, Nat.add_mod_right]
        simp
      rw [e1, e2]
      simp

theorem op_slice {t e : TypeId} {a : Option Addr} {len cap : Nat} {d : DataW H} {ps : List MemPlace} {ts : List TypeId} {ds : List (DataW H)} {j : Nat}
    (hsz : (DataW.weightsEach P ts ds).all (· ≤ reachBytes) = true) (ht : ts[j]? = some t) (hd : ds[j]? = some d) (hu : P.underlying t = some (.slice e)) {n : Nat} {ls : List Lf} (hl : lfs P n e = some ls) (hpos : 0 < ls.length) (hC : P.cellsOf e = ls.length) {B : Nat} (hB : P.bytesOf e = B)
    (h : DataW.Trod enc P W base (fun _ => true) true t (.slice a len cap) d ps) :
    ∃ chunks : List (List Value), Reads W a chunks.flatten ∧ chunks.length = len ∧ (∀ c ∈ chunks, FitsAll ls c) ∧ len * B ≤ 140737488351232 := by
  obtain ⟨fuel, hf⟩ := h
  rcases DataW.trod_slice hu hf with ⟨hcs, _⟩ | ⟨x, l, c, elems, rest, m, _, hcs, hx, _, _, _, hel, hat, _⟩
  · simp [Value.cells] at hcs
    obtain ⟨rfl, rfl, rfl⟩ := hcs
    exact ⟨[], .inl rfl, rfl, by simp, by simp⟩
  · simp [Value.cells] at hcs
    obtain ⟨rfl, rfl, rfl⟩ := hcs
    obtain ⟨hx, _⟩ := Prod.mk.inj hx
    have each : ∀ i, i < len → ∃ cs, W.cells? base (x.add (i * ls.length)) ls.length = some cs ∧ FitsAll ls cs := by
      intro i hi
      have := hat i hi
      rw [List.getElem?_eq_getElem (by omega), hC] at this
      cases hcc : W.cells? base (x.add (i * ls.length)) ls.length with
      | none => rw [hcc] at this; simp at this
      | some cs =>
        rw [hcc] at this
        exact ⟨cs, rfl, trod_fits n hl this⟩
    refine ⟨(List.range len).map fun i => (W.cells? base (x.add (i * ls.length)) ls.length).getD [], ?_, by simp, ?_, ?_⟩
    · refine reads_of fun k v hv => ?_
      have hall : ∀ c ∈ ((List.range len).map fun i => (W.cells? base (x.add (i * ls.length)) ls.length).getD []), c.length = ls.length := by
        intro c hc
        simp only [List.mem_map, List.mem_range] at hc
        obtain ⟨i, hi, rfl⟩ := hc
        obtain ⟨cs, h1, h2⟩ := each i hi
        rw [h1]
        exact h2.length
      rw [flat_get hpos k hall] at hv
      obtain ⟨c, hc, hv⟩ := Option.bind_eq_some_iff.1 hv
      have hi : k / ls.length < len := by
        have := (List.getElem?_eq_some_iff.1 hc).1
        simpa using this
      obtain ⟨cs, h1, h2⟩ := each _ hi
      simp [hi, h1] at hc
      subst hc
      obtain ⟨_, _, hcell⟩ := World.cells?_some h1
      have hm : k % ls.length < ls.length := Nat.mod_lt _ hpos
      have := hcell _ hm
      rw [Go.Deep.add_add] at this
      have ek : k / ls.length * ls.length + k % ls.length = k := by
        rw [Nat.mul_comm]
        exact Nat.div_add_mod k ls.length
      rw [ek] at this
      rw [this, hv]
    · intro c hc
      simp only [List.mem_map, List.mem_range] at hc
      obtain ⟨i, hi, rfl⟩ := hc
      obtain ⟨cs, h1, h2⟩ := each i hi
      rw [h1]
      exact h2
    · have hd' := hd
      rw [hx] at hd'
      have z := sized_slice hsz ht hd' hu
      rw [hB] at z
      refine Nat.le_trans (Nat.mul_le_mul_right _ ?_) z
      simp
      omega
end
end Go.Sx

/- WoL1: arguments that are entities; the law WorldFull comes out true for every input. Conditions: those of the law's arguments as they are read. -/
namespace Go.Proofs.Ytamobmjfdiecbaa
open Go Go.Sx Go.Fp
attribute [local irreducible] jn lv ld st nw asI asB asP asS asY asM asF asA asT lp rn ru rq cl dw dr bnd bn2 nz nn hd hr so eqW
attribute [local irreducible] callOk

def i8 : List Lf := [.int .i64, .int .i64, .int .i64, .int .i64, .int .i64, .int .i64, .int .i64, .int .i64]
def Ent.I (e : Ent) : Prop := I64 e.h ∧ I64 e.x ∧ I64 e.y ∧ I64 e.r ∧ I64 e.vx ∧ I64 e.vy ∧ I64 e.o ∧ I64 e.t

theorem ent_of {z : List Value} (h : FitsAll [.int .i64, .int .i64, .int .i64, .int .i64, .int .i64, .int .i64, .int .i64, .int .i64] z) : ∃ e : Ent, z = e.cells ∧ e.I := by
  obtain ⟨_, _, rfl, ⟨x0, rfl, h0⟩, _, _, rfl, ⟨x1, rfl, h1⟩, _, _, rfl, ⟨x2, rfl, h2⟩, _, _, rfl, ⟨x3, rfl, h3⟩, _, _, rfl, ⟨x4, rfl, h4⟩, _, _, rfl, ⟨x5, rfl, h5⟩, _, _, rfl, ⟨x6, rfl, h6⟩, _, _, rfl, ⟨x7, rfl, h7⟩, rfl⟩ := h
  exact ⟨⟨x0, x1, x2, x3, x4, x5, x6, x7⟩, rfl, i64_of h0, i64_of h1, i64_of h2, i64_of h3, i64_of h4, i64_of h5, i64_of h6, i64_of h7⟩

theorem and63 (x : Int) : 0 ≤ Go.bits .and .i64 x 63 ∧ Go.bits .and .i64 x 63 ≤ 63 := by
  have h : ∀ a : Nat, a ≤ 63 → 0 ≤ IntKind.wrap .i64 (a : Int) ∧ IntKind.wrap .i64 (a : Int) ≤ 63 := fun a ha => by
    rw [wr64 (by omega) (by omega)]; omega
  simp only [Go.bits]
  refine h _ ?_
  rw [BitVec.toNat_and]
  refine Nat.le_trans Nat.and_le_right ?_
  decide

/-- a world in which the first places are taken by one and the same -/
def fullS (e : Ent) (i : Nat) : List Spot := (List.range i).map (fun j => spn Spot.zero j e) ++ List.replicate (64 - i) Spot.zero

theorem fullS_lt {e : Ent} {i j : Nat} (h : j < i) : (fullS e i)[j]? = some (spn Spot.zero j e) := by
  unfold fullS
  rw [List.getElem?_append_left (by simpa using h)]
  simp [h]
theorem fullS_ge {e : Ent} {i j : Nat} (h : i ≤ j) (hj : j < 64) : (fullS e i)[j]? = some Spot.zero := by
  unfold fullS
  rw [List.getElem?_append_right (by simpa using h)]
  have e1 : ((List.range i).map (fun j => spn Spot.zero j e)).length = i := by simp
  rw [e1, List.getElem?_replicate, if_pos (by omega)]
theorem fullS_len {e : Ent} {i : Nat} (h : i ≤ 64) : (fullS e i).length = 64 := by
  unfold fullS
  simp
  omega
theorem fullS_set {e : Ent} {i : Nat} (h : i < 64) : (fullS e i).set i (spn Spot.zero i e) = fullS e (i + 1) := by
  apply List.ext_getElem?
  intro j
  by_cases hj : j = i
  · subst hj
    rw [List.getElem?_set_self (by rw [fullS_len (by omega)]; exact h), fullS_lt (by omega)]
  · rw [List.getElem?_set_ne (fun e => hj e.symm)]
    rcases Nat.lt_or_gt_of_ne hj with hj' | hj'
    · rw [fullS_lt hj', fullS_lt (by omega)]
    · by_cases h64 : j < 64
      · rw [fullS_ge (by omega) h64, fullS_ge (by omega) h64]
      · rw [List.getElem?_eq_none (by rw [fullS_len (by omega)]; omega), List.getElem?_eq_none (by rw [fullS_len (by omega)]; omega)]
theorem fullS_free {e : Ent} {i : Nat} (h : i < 64) : IsFree (fullS e i) i Spot.zero :=
  ⟨fullS_ge (Nat.le_refl _) h, rfl, fun j s hj hs => by rw [fullS_lt hj] at hs; cases hs; rfl⟩

theorem worldFull_law (W : World) (z0 : List Value) (F0 : FitsAll [.int .i64, .int .i64, .int .i64, .int .i64, .int .i64, .int .i64, .int .i64, .int .i64] z0) (k : Int) (_hk : (Lit.int .i64 k).wf = true) :
    cl Try.prog 3 #[.agg z0.toArray, .int .i64 k] W fun v w' => v = .bool true ∧ Ext no W w' := by
  obtain ⟨e, rfl, _⟩ := ent_of F0
  have hk := and63 k
  obtain ⟨kk, hkk⟩ : ∃ n : Nat, Go.bits .and .i64 k 63 = (n : Int) := ⟨(Go.bits .and .i64 k 63).toNat, by omega⟩
  rw [hkk] at hk
  apply F3_calls
  unfold F3
  have hS := St.start W
  refine hS.nw fun r1 w1 hS => ?_
  refine wawake_k fun w2 hx2 => asB_i rfl ?_
  refine wnew_k fun w3 F r g hw hx3 hF hr => asP_i rfl ?_
  have hP := Pw.start (hS.to hx2) hx3 hw hF hr
  refine hP.ld8 0 rfl (hP.right (e := e) fun w4 hP => asI_i rfl (lv_i ?_))
  refine jn_of (fun s w' => s = [.bool (e.rightE != 0)] ∧ w4 = w') ?_ ?_
  · rintro _ _ ⟨rfl, rfl⟩
    refine asB_i rfl (cond_split (fun h => ?_) (fun h => ?_))
    · exact jn_mk (cond_t rfl (asB_i rfl ⟨rfl, hP.st.ext⟩))
    have hE : e.rightE = 0 := by simpa using h
    refine lv_i (lv_i ?_)
    refine lp_mk (fun i : Nat => [.int .i64 (if kk < i then 64 + (kk : Int) else 0), .int .i64 (i : Int)])
      (fun m i w' => m = 64 - i ∧ i ≤ 64 ∧ ∃ F B D, Pw W w' [(r1, e.cells, 27)] F r g (fullS e i) B D (1024 * i)) 64 0 rfl ⟨rfl, Nat.zero_le _, F, [], [], hP⟩ ?_
    clear hP
    rintro _ i w5 ⟨rfl, hi, F5, B5, D5, hP⟩ J hJ
    refine asI_i rfl (asI_i rfl (cond_split (fun h => ?_) (fun h => ?_)))
    · have hi64 : i < 64 := by
        have := of_decide_eq_true h
        omega
      refine jn_of (fun s w' => s = [.int .i64 (if kk < i + 1 then 64 + (kk : Int) else 0)] ∧ ∃ F B D, Pw W w' [(r1, e.cells, 27)] F r g (fullS e (i + 1)) B D (1024 * (i + 1))) ?_ ?_
      · rintro _ w6 ⟨rfl, hP⟩
        refine asI_i rfl (lv_i ?_)
        have ei : IntKind.wrap .i64 ((i : Int) + 1) = ((i + 1 : Nat) : Int) := by rw [wr64 (by omega) (by omega)]; omega
        rw [ei]
        exact hJ (64 - (i + 1)) (i + 1) w6 (by omega) ⟨rfl, hi64, hP⟩
      · intro J2 hJ2
        refine hP.ld8 0 rfl (hP.spawn (e := e) (by omega) (fun w' _ he => absurd hE he) (fun w' _ _ hf => absurd (hf i _ (fullS_free hi64).1) (by decide)) ?_)
        intro w6 F6 i' s _ hf hP6
        obtain ⟨rfl, rfl⟩ := hf.unique (fullS_free hi64)
        rw [fullS_set hi64] at hP6
        refine asT_i rfl rfl (asI_i rfl (asI_i rfl (lv_i (lv_i (cond_f rfl ?_)))))
        rw [hkk]
        refine cond_split (fun h => lv_i (hJ2 _ _ ⟨?_, F6, _, _, hP6⟩)) (fun h => hJ2 _ _ ⟨?_, F6, _, _, hP6⟩)
        · have : i' = kk := by
            have : (i' : Int) = (kk : Int) := by simpa using h
            omega
          subst this
          rw [if_pos (by omega)]
          congr 2
        · have : ¬ i' = kk := by
            intro hh
            subst hh
            simp at h
          congr 2
          by_cases hlt : kk < i'
          · rw [if_pos hlt, if_pos (by omega)]
          · rw [if_neg hlt, if_neg (by omega)]
    · have hi64 : i = 64 := by
        have := of_decide_eq_false h
        omega
      subst hi64
      rw [if_pos (by omega)]
      have nofree : ∀ (j : Nat) s, (fullS e 64)[j]? = some s → free s = false := by
        intro j s hs
        have hj := (List.getElem?_eq_some_iff.1 hs).1
        rw [fullS_len (by omega)] at hj
        rw [fullS_lt hj] at hs
        cases hs
        rfl
      have notfree : ∀ {i s}, ¬ IsFree (fullS e 64) i s := fun hf => by
        have := nofree _ _ hf.1
        rw [hf.2.1] at this
        cases this
      refine hP.ld8 0 rfl (hP.spawn (e := e) (by omega) (fun w' _ he => absurd hE he) ?_ (fun w' F' i s _ hf => absurd hf notfree))
      intro w6 hP _ _
      refine asT_i rfl rfl (asI_i rfl (asI_i rfl (lv_i (lv_i ?_))))
      have hsk : (fullS e 64)[kk]? = some (spn Spot.zero kk e) := fullS_lt (by omega)
      have hat : atI (fullS e 64) (64 + (kk : Int)) = some kk := by
        unfold atI
        rw [if_neg (by omega)]
        have e1 : (64 + (kk : Int)).toNat % 64 = kk := by omega
        rw [e1, hsk]
        simp only
        rw [if_pos ⟨rfl, by show ((0 : Int) + 1) * 64 + (kk : Int) = _; omega⟩]
      refine hP.kill (by omega) (fun hn => by rw [hat] at hn; cases hn) ?_
      intro w7 i s ha _ _ hs _ _ hP
      rw [hat] at ha
      cases ha
      rw [hsk] at hs
      cases hs
      refine asI_i rfl (lv_i ?_)
      have hkl : kk < (fullS e 64).length := by rw [fullS_len (by omega)]; omega
      have hfr : IsFree ((fullS e 64).set kk ⟨(spn Spot.zero kk e).gen, false, (spn Spot.zero kk e).e⟩) kk ⟨(spn Spot.zero kk e).gen, false, (spn Spot.zero kk e).e⟩ := by
        refine ⟨List.getElem?_set_self hkl, rfl, fun j s hj hs => ?_⟩
        rw [List.getElem?_set_ne (by omega)] at hs
        exact nofree j s hs
      refine hP.ld8 0 rfl (hP.spawn (e := e) (by omega) (fun w' _ he => absurd hE he) (fun w' _ _ hf => absurd (hf kk _ hfr.1) (by rw [hfr.2.1]; decide)) ?_)
      intro w8 F8 i s _ hf hP
      obtain ⟨rfl, rfl⟩ := hf.unique hfr
      refine asT_i rfl rfl (asI_i rfl (asI_i rfl (lv_i (lv_i ?_))))
      have nofree2 : ∀ (j : Nat) s, (((fullS e 64).set i ⟨(spn Spot.zero i e).gen, false, (spn Spot.zero i e).e⟩).set i (spn ⟨(spn Spot.zero i e).gen, false, (spn Spot.zero i e).e⟩ i e))[j]? = some s → free s = false := by
        intro j s hs
        rw [List.set_set] at hs
        by_cases hj : j = i
        · subst hj
          rw [List.getElem?_set_self hkl] at hs
          cases hs
          rfl
        · rw [List.getElem?_set_ne (fun e => hj e.symm)] at hs
          exact nofree j s hs
      refine hP.ld8 0 rfl (hP.spawn (e := e) (by omega) (fun w' _ he => absurd hE he) ?_ (fun w' F' j s _ hf => ?_))
      · intro w9 hP _ _
        refine asT_i rfl rfl (asI_i rfl (asI_i rfl (lv_i (lv_i (jn_mk ?_)))))
        have hh : ((spn Spot.zero i e).gen + 1) * 64 + (i : Int) = 128 + (i : Int) := by show ((0 : Int) + 1 + 1) * 64 + (i : Int) = _; omega
        simp only [hh]
        have em : ∀ a : Nat, Int.tmod ((64 * a + i : Nat) : Int) 64 = ((i : Nat) : Int) := fun a => by
          have : Int.tmod ((64 * a + i : Nat) : Int) 64 = (((64 * a + i) % 64 : Nat) : Int) := rfl
          rw [this]
          omega
        have e1 : Int.tmod (128 + (i : Int)) 64 = (i : Int) := by have := em 2; rw [show ((64 * 2 + i : Nat) : Int) = 128 + (i : Int) by omega] at this; exact this
        have e2 : Int.tmod (64 + (i : Int)) 64 = (i : Int) := by have := em 1; rw [show ((64 * 1 + i : Nat) : Int) = 64 + (i : Int) by omega] at this; exact this
        rw [e1, e2]
        exact cond_t rfl (cond_t rfl (cond_t rfl (cond_t (by simp <;> omega) (cond_t (by simp) (asB_i rfl ⟨rfl, hP.st.ext⟩)))))
      · have := nofree2 _ _ hf.1
        rw [hf.2.1] at this
        cases this
  · intro J hJ
    exact cond_f rfl (cond_f rfl (hJ _ _ ⟨rfl, rfl⟩))
end Go.Proofs.Ytamobmjfdiecbaa

/- WoJ: entities that equal themselves, lists of entities that are read, the list of a world beside it. Conditions: those of each theorem, on its arguments. -/
namespace Go.Proofs.Ytamobmjfdiecbaa
open Go Go.Sx Go.Fp
attribute [local irreducible] jn lv ld st nw asI asB asP asS asY asM asF asA asT lp rn ru rq cl dw dr bnd bn2 nz nn hd hr so eqW
attribute [local irreducible] callOk

theorem _root_.Go.Sx.Reads.no {w w' : World} (hx : Ext no w w') {p : Option Addr} {vs : List Value} (h : Reads w p vs) : Reads w' p vs := h.ext hx fun _ _ h => h

theorem equal_self {t : TypeId} {x : Value} {m : Nat} (hk : Try.prog.keyTypeAt m t = true) (hm : m ≤ 10000) (hf : x.formed Try.prog t = true) {D : Nat} {l : List Lit} (hl : Try.prog.keyLits D t x.cells.toList = some l) (w : World) :
    (Op.equal t x x).run Try.prog w = .ok true w := by
  obtain ⟨r, hr, hiff⟩ := run_equalIn_deep (P := Try.prog) (10000 - m) m t hk w D D x x l l hf hf hl hl
  have e : 10000 - m + m = 10000 := by omega
  rw [e] at hr
  have : r = true := hiff.2 rfl
  subst this
  exact hr
theorem eqW_self {t : TypeId} {x : Value} {m : Nat} (hg : Try.prog.eqGuardType Try.prog.depth t = false) (hk : Try.prog.keyTypeAt m t = true) (hm : m ≤ 10000) (hf : x.formed Try.prog t = true) {D : Nat} {l : List Lit} (hl : Try.prog.keyLits D t x.cells.toList = some l)
    {K : Bool → Prop} (h : K true) : eqW Try.prog t x x K := eqW_mk hg (fun w => equal_self hk hm hf hl w) h

theorem wfI {n : Int} (h : I64 n) : (Lit.int .i64 n).wf = true := by
  obtain ⟨h1, h2⟩ := h
  simp only [Lit.wf, Bool.and_eq_true, decide_eq_true_eq, IntKind.min, IntKind.max, IntKind.bits, IntKind.signed]
  simp
  omega
theorem cE : Try.prog.cellsOf 27 = 8 := by kernel_rfl
theorem cB : Try.prog.cellsOf 25 = 3 := by kernel_rfl
theorem cV : Try.prog.cellsOf 23 = 2 := by kernel_rfl
theorem cI : Try.prog.cellsOf 3 = 1 := by kernel_rfl
theorem lits8 {e : Ent} (h : e.I) : Try.prog.keyLits 4 27 e.v.cells.toList = some [.int .i64 e.h, .int .i64 e.x, .int .i64 e.y, .int .i64 e.r, .int .i64 e.vx, .int .i64 e.vy, .int .i64 e.o, .int .i64 e.t] := by
  obtain ⟨h0, h1, h2, h3, h4, h5, h6, h7⟩ := h
  simp [Program.keyLits, Try.underlying27, Try.underlying25, Try.underlying23, Try.underlying3, cE, cB, cV, cI, Ent.v, Ent.cells, Value.cells, wfI h0, wfI h1, wfI h2, wfI h3, wfI h4, wfI h5, wfI h6, wfI h7]
  try rw [if_pos (by decide)]
  try rfl
set_option maxRecDepth 100000 in
theorem eqEnt {e : Ent} (h : e.I) {K : Bool → Prop} (hK : K true) : eqW Try.prog 27 e.v e.v K :=
  eqW_self (m := 4) (by kernel_rfl) (by kernel_rfl) (by decide) rfl (lits8 h) hK

theorem ents_of {ls : List Lf} (hl : ls = [.int .i64, .int .i64, .int .i64, .int .i64, .int .i64, .int .i64, .int .i64, .int .i64]) : ∀ {R : List (List Value)}, (∀ c ∈ R, FitsAll ls c) → ∃ es : List Ent, R.flatten = es.flatMap Ent.cells ∧ es.length = R.length ∧ ∀ e ∈ es, e.I
  | [], _ => ⟨[], rfl, rfl, by simp⟩
  | c :: R, h => by
    subst hl
    obtain ⟨e, rfl, he⟩ := ent_of (h c List.mem_cons_self)
    obtain ⟨es, h1, h2, h3⟩ := ents_of rfl (R := R) fun c hc => h c (List.mem_cons_of_mem _ hc)
    refine ⟨e :: es, by rw [List.flatten_cons, h1]; rfl, by simp [h2], fun x hx => ?_⟩
    rcases List.mem_cons.1 hx with rfl | hx
    · exact he
    · exact h3 x hx

theorem ld8c {w : World} {A : Addr} {e : Ent} (hc : ∀ k, k < 8 → w.cell? (Addr.add A k) = e.cells[k]?) {K : Int → Int → Int → Int → Int → Int → Int → Int → Prop} (hK : K e.h e.x e.y e.r e.vx e.vy e.o e.t) :
    ld w A fun v1 => asI .i64 v1 fun x0 => ld w (Addr.add A 1) fun v2 => asI .i64 v2 fun x1 => ld w (Addr.add A 2) fun v3 => asI .i64 v3 fun x2 => ld w (Addr.add A 3) fun v4 => asI .i64 v4 fun x3 =>
      ld w (Addr.add A 4) fun v5 => asI .i64 v5 fun x4 => ld w (Addr.add A 5) fun v6 => asI .i64 v6 fun x5 => ld w (Addr.add A 6) fun v7 => asI .i64 v7 fun x6 => ld w (Addr.add A 7) fun v8 => asI .i64 v8 fun x7 => K x0 x1 x2 x3 x4 x5 x6 x7 :=
  ld8 (by have := hc 0 (by decide); rwa [Sx.add_zero'] at this) (hc 1 (by decide)) (hc 2 (by decide)) (hc 3 (by decide)) (hc 4 (by decide)) (hc 5 (by decide)) (hc 6 (by decide)) (hc 7 (by decide)) hK

theorem hd8c {w : World} {A : Addr} {e : Ent} (hc : ∀ k, k < 8 → w.cell? (Addr.add A k) = e.cells[k]?) {X : Prop} (hX : X) :
    hd w A (.int .i64 e.h) (hd w (Addr.add A 1) (.int .i64 e.x) (hd w (Addr.add A 2) (.int .i64 e.y) (hd w (Addr.add A 3) (.int .i64 e.r) (hd w (Addr.add A 4) (.int .i64 e.vx) (hd w (Addr.add A 5) (.int .i64 e.vy) (hd w (Addr.add A 6) (.int .i64 e.o) (hd w (Addr.add A 7) (.int .i64 e.t) X))))))) :=
  hd_i (by have := hc 0 (by decide); rwa [Sx.add_zero'] at this) (hd_i (hc 1 (by decide)) (hd_i (hc 2 (by decide)) (hd_i (hc 3 (by decide)) (hd_i (hc 4 (by decide)) (hd_i (hc 5 (by decide)) (hd_i (hc 6 (by decide)) (hd_i (hc 7 (by decide)) hX)))))))

theorem rsame_k {w : World} {a b : Option Addr} {n m ca cb : Nat} {es : List Ent} (hI : ∀ e ∈ es, e.I) (ha : Reads w a (es.flatMap Ent.cells)) (hb : Reads w b (es.flatMap Ent.cells)) (hn : es.length = n) (hm : es.length = m) (hM : n ≤ 140737488351232) {K : Value → World → Prop}
    (hK : ∀ w', Ext no w w' → K (.bool true) w') : cl Try.prog 21 #[.slice a n ca, .slice b m cb] w K := by
  subst hm
  subst hn
  apply F21_calls
  unfold F21
  refine cond_f (by simp) (lv_i ?_)
  refine lp_mk (fun i : Nat => [.int .i64 (i : Int)]) (fun m i w' => m = es.length - i ∧ i ≤ es.length ∧ Ext no w w') es.length 0 rfl ⟨rfl, Nat.zero_le _, Ext.refl _ _⟩ ?_
  rintro _ i w1 ⟨rfl, hi, hx⟩ J hJ
  refine asI_i rfl (cond_split (fun hc => ?_) (fun _ => hK w1 hx))
  have hlt : i < es.length := by
    have := of_decide_eq_true hc
    omega
  have he : es[i]? = some es[i] := List.getElem?_eq_getElem hlt
  have hIe := hI _ (List.getElem_mem hlt)
  generalize es[i] = e at he hIe
  refine dw_mk ?_
  have hx' : Ext no w w1.drew := hx.trans (Ext.drew w1)
  have hl8 : ∀ a, (∀ k, k < 8 → w1.drew.cell? (Addr.add (Addr.add a (i * 8)) k) = e.cells[k]?) → ∀ k, k < 8 → w1.cell? (Addr.add (Addr.add a (i * 8)) k) = e.cells[k]? := fun a h k hk => h k hk
  refine Reads.atN (f := Ent.cells) Ent.cells_length (Reads.no hx' ha) rfl he (by decide) fun a' _ hca => ?_
  rw [Int.toNat_natCast]
  refine ld8c hca ?_
  refine Reads.atN (f := Ent.cells) Ent.cells_length (Reads.no hx' hb) rfl he (by decide) fun b' _ hcb => ?_
  refine ld8c hcb (eqEnt hIe (cond_f rfl (lv_i ?_)))
  have ei : IntKind.wrap .i64 ((i : Int) + 1) = ((i + 1 : Nat) : Int) := by rw [wr64 (by omega) (by omega)]; omega
  rw [ei]
  exact hJ (es.length - (i + 1)) (i + 1) _ (by omega) ⟨rfl, by omega, hx'⟩

section
variable {W w : World} {L : List (Nat × List Value × TypeId)} {F : Nat → Prop} {r g : Nat} {S : List Spot} {B : List (Int × Bx)} {D : List ((Int × Int) × List Int)} {N : Nat}

theorem Pw.tail {x : Nat × List Value × TypeId} (h : Pw W w (x :: L) F r g S B D N) : Pw W w L F r g S B D N := ⟨h.st.tail, h.wd, fun k hk => ⟨(h.fr k hk).1, fun b hb => (h.fr k hk).2 b (List.mem_cons_of_mem _ hb)⟩⟩

/-- a block laid since -/
theorem Pw.add (h : Pw W w L F r g S B D N) {w' : World} (hx : Ext no w w') {q : Nat} {cs : List Value} {t : TypeId} (hq : w.heap.size ≤ q) (hb : w'.heap[q]? = some (.cells cs.toArray t (0, 0))) : Pw W w' ((q, cs, t) :: L) F r g S B D N := by
  have h' := h.to hx
  have := h.st.ext.size
  refine ⟨⟨h'.st.ext, fun b hb' => ?_, List.Pairwise.cons (fun b hb' => ?_) h'.st.nd⟩, h'.wd, fun k hk => ⟨(h.fr k hk).1, fun b hb' => ?_⟩⟩
  · rcases List.mem_cons.1 hb' with rfl | hb'
    · exact ⟨hb, by simp only; omega⟩
    · exact h'.st.kn b hb'
  · have := blk_lt (h.st.kn b hb').1
    simp only
    omega
  · rcases List.mem_cons.1 hb' with rfl | hb'
    · have := h.lt k hk
      simp only
      omega
    · exact (h.fr k hk).2 b hb'

/-- the blocks of LL hold the list es at p -/
def Holds (LL : List (Nat × List Value × TypeId)) (p : Option Addr) (es : List Ent) : Prop := ∀ w : World, (∀ b ∈ LL, w.heap[b.1]? = some (.cells b.2.1.toArray b.2.2 (0, 0))) → Reads w p (es.flatMap Ent.cells)

theorem Pw.reads {LL : List (Nat × List Value × TypeId)} {p : Option Addr} {es : List Ent} (h : Pw W w L F r g S B D N) (hH : Holds LL p es) (hs : ∀ b ∈ LL, b ∈ L) : Reads w p (es.flatMap Ent.cells) := hH w fun b hb => (h.st.kn b (hs b hb)).1

theorem Pw.list (h : Pw W w L F r g S B D N) {K : Value → World → Prop}
    (hK : ∀ p c w' LL, Pw W w' (LL ++ L) F r g S B D N → Holds LL p (listS S) → K (.slice p (listS S).length c) w') :
    cl Try.prog 19 #[.pointer (some ⟨r, 0, none⟩)] w K := by
  refine list_k h.wd.ws fun p c w' hx hr => ?_
  rcases hr.cases with ⟨rfl, _, _, h0⟩ | ⟨q, cur, rfl, hq, hb, _, _, _, ht⟩
  · exact hK none c w' [] (h.to hx) fun _ _ => .inl h0
  · refine hK _ c w' [(q, cur.toList, _)] (h.add hx hq (by simpa using hb)) fun w1 hw1 => .inr ⟨q, 0, rfl, fun i v hv => ?_⟩
    have hb1 := hw1 _ List.mem_cons_self
    rw [blk_cell hb1, Nat.zero_add]
    rw [← ht, List.getElem?_take] at hv
    split at hv
    · simpa using hv
    · cases hv
end
end Go.Proofs.Ytamobmjfdiecbaa

/- GrW: the world's call Near, as a contract over lists of places. Conditions: those of each theorem, on its arguments. -/
namespace Go.Proofs.Ytamobmjfdiecbaa
open Go Go.Sx Go.Fp
attribute [local irreducible] jn lv ld st nw asI asB asP asS asY asM asF asA asT lp rn ru rq cl dw dr bnd bn2 nz nn hd hr so eqW
attribute [local irreducible] callOk

/-- is somebody at a place who meets a box? -/
def pT (S : List Spot) (b : Bx) (i : Nat) : Bool := (meetV (S.getD i Spot.zero).e.box b).1 && (S.getD i Spot.zero).there
def hT (S : List Spot) (i : Nat) : Int := (S.getD i Spot.zero).e.h
def outW (S : List Spot) (b : Bx) : List Int := if b.right = true then ((List.range 64).filter (pT S b)).map (hT S) else []
def nz' (l : List Nat) : List Int := l.map fun (i : Nat) => (i : Int)

theorem range_sorted (p : Nat → Bool) (n : Nat) : (nz' ((List.range n).filter p)).mergeSort leI = nz' ((List.range n).filter p) := by
  refine List.mergeSort_of_pairwise ?_
  unfold nz'
  rw [List.pairwise_map]
  have h := (List.pairwise_lt_range (n := n)).filter p
  refine h.imp fun {a b} hab => ?_
  simp only [decide_eq_true_eq]
  omega

theorem near_places {B : List (Int × Bx)} {D : List ((Int × Int) × List Int)} {S : List Spot} {b : Bx} (h : ∀ x, x ∈ (metL B D b (cellsL' wside b)).map (·.1) ↔ ∃ i : Nat, x = (i : Int) ∧ i < 64 ∧ pT S b i = true) : gnearV wside B D b = nz' ((List.range 64).filter (pT S b)) := by
  rw [← range_sorted]
  unfold gnearV
  refine Go.mergeSort_of_perm_i ((List.perm_ext_iff_of_nodup (nodup_metL _) ?_).2 fun x => ?_)
  · unfold nz'
    refine List.Pairwise.map _ (fun a b hab e => hab ?_) ((List.nodup_range (n := 64)).filter (pT S b))
    have e' : (a : Int) = (b : Int) := e
    omega
  · rw [h]
    unfold nz'
    simp only [List.mem_map, List.mem_filter, List.mem_range]
    constructor
    · rintro ⟨i, rfl, h1, h2⟩
      exact ⟨i, ⟨h1, h2⟩, rfl⟩
    · rintro ⟨i, ⟨h1, h2⟩, rfl⟩
      exact ⟨i, rfl, h1, h2⟩

set_option maxHeartbeats 4000000 in
theorem wnear_k {w : World} {F : Nat → Prop} {r g : Nat} {S : List Spot} {B : List (Int × Bx)} {D : List ((Int × Int) × List Int)} {N : Nat} (h : Wd w F r g S B D N) (hN : N ≤ 1000000000) {b : Bx}
    (hI : ∀ x ∈ metL B D b (cellsL' wside b), I64 x.1) (hkeys : cellsE wside b = 0 → ∀ x, x ∈ (metL B D b (cellsL' wside b)).map (·.1) ↔ ∃ i : Nat, x = (i : Int) ∧ i < 64 ∧ pT S b i = true) (hml : (metL B D b (cellsL' wside b)).length ≤ 1099511627776) {K : Value → World → Prop}
    (hK : ∀ p c w', Ext no w w' → Row w' w.heap.size 3 p c (iv .i64 (outW S b)) → K (.tuple #[.slice p (outW S b).length c, .int .i64 b.rightE]) w') :
    cl Try.prog 37 #[.pointer (some ⟨r, 0, none⟩), b.v] w K := by
  apply F37_calls
  unfold F37
  have hS := St.start w
  (refine St.nw hS ?_; clear hS; intro r1 _ hS)
  refine lv_i (hS.ld0 0 rfl rfl (asI_i rfl (hS.ld 0 rfl rfl (asI_i rfl (hS.ld 0 rfl rfl (asI_i rfl ?_))))))
  refine right_k (b := b) fun w1 hx1 => asI_i rfl (lv_i ?_)
  replace hS := hS.to hx1
  refine cond_split (fun he => lv_i ?_) (fun he => ?_)
  · have hr : ¬ b.right = true := by
      intro hr
      unfold Bx.rightE at he
      rw [if_pos hr] at he
      cases he
    have e1 : outW S b = [] := by unfold outW; rw [if_neg hr]
    have := hK none 0 w1 hS.ext (by rw [e1]; exact Row.nil _ _ _)
    rw [e1] at this
    exact this
  have hr : b.right = true := by
    unfold Bx.rightE at he
    by_cases hr : b.right = true
    · exact hr
    · rw [if_neg hr] at he; cases he
  have hrE : b.rightE = 0 := by unfold Bx.rightE; rw [if_pos hr]
  rw [hrE] at hK
  have eO : outW S b = ((List.range 64).filter (pT S b)).map (hT S) := by unfold outW; rw [if_pos hr]
  refine hS.dw fun w2 hS _ => ?_
  have h2 := h.ext hS.ext fun _ _ h => h
  have h64 := h2.ws.len
  refine dr_i (ld_mk h2.ws.cell0 (asP_i rfl (hS.ld0 0 rfl rfl (asI_i rfl (hS.ld 0 rfl rfl (asI_i rfl (hS.ld 0 rfl rfl (asI_i rfl ?_))))))))
  obtain ⟨mb, mc, C, bb, kb, bc, kc, hg, rfl⟩ := h2.gr
  have hbd := h2.bd
  refine gNear_k hg hI hml (fun x => by have := hbd x; omega) fun p c w3 hx3 hr3 => ?_
  refine asT_i rfl rfl (asS_i rfl (asI_i rfl (lv_i ?_)))
  refine jn_of (fun t w' => ∃ p c pl, t = [.slice p pl.length c] ∧ Ext no w2 w' ∧ Row w' w2.heap.size 3 p c (iv .i64 (nz' pl)) ∧ (∀ i ∈ pl, i < 64) ∧ pl.length ≤ 64 ∧ pl.filter (pT S b) = (List.range 64).filter (pT S b)) ?_ ?_
  rotate_left
  · intro J hJ
    refine cond_split (fun he => ?_) (fun he => ?_)
    · have he' : cellsE wside b ≠ 0 := by simpa using he
      have e0 : gnearV wside B (pl C) b = [] := by
        have : cellsL' wside b = [] := by unfold cellsL'; rw [if_neg he']
        unfold gnearV
        rw [this]
        simp [metL]
      rw [e0] at hr3 ⊢
      refine lp_mk (fun t : (Option Addr × Nat) × Nat => [.slice t.1.1 t.2 t.1.2, .int .i64 (t.2 : Int)]) (fun m t w' => m = 64 - t.2 ∧ t.2 ≤ 64 ∧ Ext no w2 w' ∧ Row w' w2.heap.size 3 t.1.1 t.1.2 (iv .i64 (nz' (List.range t.2)))) 64 ((p, c), 0) rfl
        ⟨rfl, Nat.zero_le _, hx3, hr3⟩ ?_
      rintro _ ⟨⟨p, c⟩, i⟩ w4 ⟨rfl, hi, hx4, hr4⟩ J2 hJ2
      simp only at hi hr4 hJ2 ⊢
      refine asS_i rfl (asI_i rfl (cond_split (fun hc => ?_) (fun hc => ?_)))
      · have hil : i < 64 := by
          have := of_decide_eq_true hc
          omega
        have ei : IntKind.wrap .i64 ((i : Int) + 1) = ((i + 1 : Nat) : Int) := by rw [wr64 (by omega) (by omega)]; omega
        have hlr : (nz' (List.range i)).length = i := by simp [nz']
        refine lv_i (sI.app1 hr4 (by rw [iv_length, hlr]) hx4.size rfl (le_maxLen (by omega)) (by omega) fun p' c' w5 hr5 hx5 hM => asS_i rfl ?_)
        rw [ei]
        refine hJ2 (64 - (i + 1)) ((p', c'), i + 1) w5 (by omega) ⟨rfl, by simp only; omega, hx4.then hx5 fun k hk ⟨a, ha, hab⟩ => by
          have := (hr4.at ha).1
          omega, ?_⟩
        have e5 : iv .i64 (nz' (List.range (i + 1))) = iv .i64 (nz' (List.range i)) ++ [.int .i64 (i : Int)] := by simp [nz', iv, List.range_succ]
        simp only [e5]
        exact hr5
      · have hil : i = 64 := by
          have := of_decide_eq_false hc
          omega
        subst hil
        exact hJ _ _ ⟨p, c, List.range 64, by simp, hx4, hr4, by simp, by simp, rfl⟩
    · have he' : cellsE wside b = 0 := by simpa using he
      have e0 := near_places (hkeys he')
      rw [e0] at hr3 ⊢
      refine hJ _ _ ⟨p, c, (List.range 64).filter (pT S b), by simp [nz'], hx3, hr3, fun i hi => by simpa using (List.mem_filter.1 hi).1, ?_, ?_⟩
      · have := List.length_filter_le (pT S b) (List.range 64)
        simpa using this
      · rw [List.filter_filter]
        simp
  clear hr3 hx3 p c w3
  rintro _ w3 ⟨p, c, pl', rfl, hx3, hr3, hp64, hpl, hfil⟩
  have h3 := h2.ext hx3 fun _ _ h => h
  have hS3 := hS.to hx3
  refine asS_i rfl ?_
  refine lp_mk (fun t : (Option Addr × Nat × Nat) × Nat => [.slice t.1.1 t.1.2.1 t.1.2.2, .int .i64 (t.2 : Int)])
    (fun m t w' => m = pl'.length - t.2 ∧ t.2 ≤ pl'.length ∧ Ext no w3 w' ∧ t.1.2.1 = (((pl'.take t.2).filter (pT S b)).map (hT S)).length ∧ Row w' w3.heap.size 3 t.1.1 t.1.2.2 (iv .i64 (((pl'.take t.2).filter (pT S b)).map (hT S)))) pl'.length ((none, 0, 0), 0) rfl
    ⟨rfl, Nat.zero_le _, Ext.refl _ _, rfl, Row.nil _ _ _⟩ ?_
  rintro _ ⟨⟨p5, n5, c5⟩, i⟩ w5 ⟨rfl, hi, hx5, hn5, hr5⟩ J hJ
  simp only at hi hn5 hr5 hJ ⊢
  refine asS_i rfl (asI_i rfl (cond_split (fun hc => ?_) (fun hc => ?_)))
  · have hil : i < pl'.length := by
      have := of_decide_eq_true hc
      omega
    have ei : IntKind.wrap .i64 ((i : Int) + 1) = ((i + 1 : Nat) : Int) := by rw [wr64 (by omega) (by omega)]; omega
    have htk : pl'.take (i + 1) = pl'.take i ++ [pl'[i]] := by rw [List.take_add_one, List.getElem?_eq_getElem hil]; rfl
    have hj64 := hp64 _ (List.getElem_mem hil)
    have hRp := hr3.reads.ext hx5 fun _ _ h => h
    refine jn_of (fun t w' => ∃ p' n' c', t = [.slice p' n' c'] ∧ Ext no w3 w' ∧ n' = (((pl'.take (i + 1)).filter (pT S b)).map (hT S)).length ∧ Row w' w3.heap.size 3 p' c' (iv .i64 (((pl'.take (i + 1)).filter (pT S b)).map (hT S)))) ?_ ?_
    · rintro _ w6 ⟨p', n', c', rfl, hx6, hn6, hr6⟩
      refine asS_i rfl ?_
      rw [ei]
      exact hJ (pl'.length - (i + 1)) ((p', n', c'), i + 1) w6 (by omega) ⟨rfl, by simp only; omega, hx6, hn6, hr6⟩
    · intro J2 hJ2
      refine hRp.at (i := (i : Int)) (v := .int .i64 (pl'[i] : Int)) (by omega) (by simp [iv, nz', hil]) (asI_i rfl (lv_i ?_)) (by simp [iv, nz'])
      generalize pl'[i] = j at *
      have hs : S[j]? = some (S.getD j Spot.zero) := by
        rw [List.getD_eq_getElem?_getD, List.getElem?_eq_getElem (by omega)]
        rfl
      have hpT : pT S b j = ((meetV (S.getD j Spot.zero).e.box b).1 && (S.getD j Spot.zero).there) := rfl
      have hhT : hT S j = (S.getD j Spot.zero).e.h := rfl
      generalize S.getD j Spot.zero = s at *
      have hws5 := (h3.ext hx5 fun _ _ h => h).ws
      have hcell : ∀ k v, s.cells[k]? = some v → w5.cell? (Addr.add (Addr.add (Addr.add ⟨r, 0, none⟩ 1) (j * 10)) k) = some v := fun k v hv => by
        rw [add_mk, add_mk, add_mk, ← hws5.cell hs hv]
        congr 2
        omega
      have hcell0 : w5.cell? (Addr.add (Addr.add ⟨r, 0, none⟩ 1) (j * 10)) = some (.int .i64 s.gen) := by
        have := hcell 0 _ rfl
        rwa [Sx.add_zero'] at this
      refine dr_i (bnd_mk (by omega) (by omega) ?_)
      rw [Int.toNat_natCast]
      refine ld_mk hcell0 (asI_i rfl (ld_mk (hcell 1 _ rfl) (asB_i rfl (ld_mk (hcell 2 _ rfl) (asI_i rfl (ld_mk (hcell 3 _ rfl) (asI_i rfl (ld_mk (hcell 4 _ rfl) (asI_i rfl (ld_mk (hcell 5 _ rfl) (asI_i rfl (ld_mk (hcell 6 _ rfl) (asI_i rfl (ld_mk (hcell 7 _ rfl) (asI_i rfl (ld_mk (hcell 8 _ rfl) (asI_i rfl (ld_mk (hcell 9 _ rfl) (asI_i rfl ?_)))))))))))))))))))
      have hS5 := hS3.to hx5
      refine (St.start w5).nw (cs := [.int .i64 0, .bool false, .int .i64 0, .int .i64 0, .int .i64 0, .int .i64 0, .int .i64 0, .int .i64 0, .int .i64 0, .int .i64 0]) fun r89 w6 hZ => ?_
      refine hZ.st0 0 rfl rfl rfl fun w7 hZ => hZ.st 0 rfl rfl rfl fun w8 hZ => hZ.st 0 rfl rfl rfl fun w9 hZ => hZ.st 0 rfl rfl rfl fun w10 hZ => hZ.st 0 rfl rfl rfl fun w11 hZ => ?_
      refine hZ.st 0 rfl rfl rfl fun w12 hZ => hZ.st 0 rfl rfl rfl fun w13 hZ => hZ.st 0 rfl rfl rfl fun w14 hZ => hZ.st 0 rfl rfl rfl fun w15 hZ => hZ.st 0 rfl rfl rfl fun w16 hZ => ?_
      replace hZ : St w5 w16 [(r89, s.cells, 100)] := hZ
      have hb89 : ∀ {w' : World}, Ext no w16 w' → ∀ k v, s.cells[k]? = some v → w'.cell? ⟨r89, k, none⟩ = some v := fun hx k v hv => by
        rw [blk_cell ((hZ.to hx).kn _ List.mem_cons_self).1]
        simpa using hv
      have hS16 := hS5.to hZ.ext
      refine ld_mk (by rw [add_mk, add_mk]; exact hb89 (Ext.refl _ _) 3 _ rfl) (asI_i rfl (ld_mk (by rw [add_mk, add_mk, add_mk]; exact hb89 (Ext.refl _ _) 4 _ rfl) (asI_i rfl (ld_mk (by rw [add_mk, add_mk, add_mk]; exact hb89 (Ext.refl _ _) 5 _ rfl) (asI_i rfl ?_)))))
      refine hS16.ld0 0 rfl rfl (asI_i rfl (hS16.ld 0 rfl rfl (asI_i rfl (hS16.ld 0 rfl rfl (asI_i rfl ?_)))))
      refine meet_k (a := s.e.box) (b := b) fun w17 hx17 => asT_i rfl rfl (asB_i rfl (asI_i rfl (lv_i ?_)))
      have hX17 : Ext no w3 w17 := (hx5.trans hZ.ext).trans hx17
      have hr17 := (hr5.ext hZ.ext fun _ _ h => h).ext hx17 fun _ _ h => h
      refine jn_of (fun t w' => t = [.bool (pT S b j)] ∧ w' = w17) ?_ ?_
      · rintro _ w17 ⟨rfl, rfl⟩
        refine asB_i rfl (cond_split (fun h => ?_) (fun h => ?_))
        · refine ld_mk (by rw [add_mk]; exact hb89 hx17 2 _ rfl) (asI_i rfl ?_)
          have hlen : (((pl'.take i).filter (pT S b)).map (hT S)).length ≤ 64 := by
            rw [List.length_map]
            have h1 := List.length_filter_le (pT S b) (pl'.take i)
            rw [List.length_take] at h1
            omega
          refine sI.app1 hr17 (by rw [iv_length, hn5]) hX17.size rfl (le_maxLen (by omega)) (by omega) fun p' c' w18 hr18 hx18 hM => asS_i rfl (hJ2 _ _ ⟨p', n5 + 1, c', rfl, ?_, ?_, ?_⟩)
          · exact hX17.then hx18 fun k hk ⟨a, ha, hab⟩ => by
              have := (hr17.at ha).1
              omega
          · rw [htk, List.filter_append, List.map_append, List.length_append, ← hn5, List.filter_cons, if_pos h]
            rfl
          · rw [htk, List.filter_append, List.map_append, List.filter_cons, if_pos h]
            have e : iv .i64 (List.map (hT S) (List.filter (pT S b) (pl'.take i)) ++ List.map (hT S) (j :: List.filter (pT S b) [])) = iv .i64 (List.map (hT S) (List.filter (pT S b) (pl'.take i))) ++ [.int .i64 s.e.h] := by
              simp [iv, hhT]
            rw [e]
            exact hr18
        · refine hJ2 _ _ ⟨p5, n5, c5, rfl, hX17, ?_, ?_⟩
          · rw [htk, List.filter_append, List.filter_cons, if_neg (by rw [h]; decide)]
            simpa using hn5
          · rw [htk, List.filter_append, List.filter_cons, if_neg (by rw [h]; decide)]
            simpa using hr17
      · intro J3 hJ3
        refine cond_split (fun h => ld_mk (by rw [add_mk]; exact hb89 hx17 1 _ rfl) (asB_i rfl (hJ3 _ _ ⟨?_, rfl⟩))) (fun h => hJ3 _ _ ⟨?_, rfl⟩)
        · have h' : (meetV s.e.box b).1 = true := h
          rw [hpT, h']; rfl
        · have h' : (meetV s.e.box b).1 = false := h
          rw [hpT, h']; rfl
  · have hil : i = pl'.length := by
      have := of_decide_eq_false hc
      omega
    subst hil
    rw [List.take_length, hfil, ← eO] at hr5 hn5
    subst hn5
    refine lv_i (hK p5 c5 w5 ((hS3.ext).trans hx5) (hr5.mono hS3.ext.size))
end Go.Proofs.Ytamobmjfdiecbaa

/- GrO: the plain law of grids, on: boxes that are moved and dropped. Conditions: those of each theorem, on its arguments. -/
namespace Go.Proofs.Ytamobmjfdiecbaa
open Go Go.Sx Go.Fp

theorem mem_less {ids : List Int} {id x : Int} : x ∈ less ids id ↔ x ∈ ids ∧ x ≠ id := by
  unfold less
  rw [List.mem_filter]
  simp

theorem mem_dropC {D : List ((Int × Int) × List Int)} (hn : (D.map (·.1)).Nodup) {c d : Int × Int} {id x : Int} : x ∈ (aget (dropC D c id) d).getD [] ↔ x ∈ (aget D d).getD [] ∧ ¬ (x = id ∧ d = c) := by
  unfold dropC
  split
  · rename_i h0
    rw [aget_adel (nodup_aset hn), aget_aset]
    by_cases hd : d = c
    · subst hd
      simp only [if_true, Option.getD_none, List.not_mem_nil, false_iff, not_and, and_true]
      intro h1 h2
      have : x ∈ less ((aget D d).getD []) id := mem_less.2 ⟨h1, h2⟩
      rw [h0] at this
      cases this
    · rw [if_neg hd, if_neg hd]
      simp [hd]
  · rw [aget_aset]
    by_cases hd : d = c
    · subst hd
      rw [if_pos rfl, Option.getD_some, mem_less]
      simp
    · rw [if_neg hd]
      simp [hd]

theorem mem_dropL {l : List (Int × Int)} {id x : Int} : ∀ {D : List ((Int × Int) × List Int)} (_ : (D.map (·.1)).Nodup) (d : Int × Int), x ∈ (aget (dropL D l id) d).getD [] ↔ x ∈ (aget D d).getD [] ∧ ¬ (x = id ∧ d ∈ l) := by
  induction l with
  | nil => intro D _ d; simp [dropL]
  | cons c l ih =>
    intro D hn d
    have e : dropL D (c :: l) id = dropL (dropC D c id) l id := rfl
    rw [e, ih (dropC_nd hn), mem_dropC hn]
    simp only [List.mem_cons]
    constructor
    · rintro ⟨⟨h1, h2⟩, h3⟩
      refine ⟨h1, ?_⟩
      rintro ⟨h4, h5 | h5⟩
      · exact h2 ⟨h4, h5⟩
      · exact h3 ⟨h4, h5⟩
    · rintro ⟨h1, h2⟩
      exact ⟨⟨h1, fun ⟨h4, h5⟩ => h2 ⟨h4, .inl h5⟩⟩, fun ⟨h4, h5⟩ => h2 ⟨h4, .inr h5⟩⟩

theorem dropL_nd {l : List (Int × Int)} {id : Int} : ∀ {D : List ((Int × Int) × List Int)} (_ : (D.map (·.1)).Nodup), ((dropL D l id).map (·.1)).Nodup := by
  induction l with
  | nil => exact fun h => h
  | cons c l ih => exact fun h => ih (dropC_nd h)

/-- the box is out, in the cells as well -/
theorem Cons.out {s : Int} {B : List (Int × Bx)} {D : List ((Int × Int) × List Int)} (h : Cons s B D) (hB : (B.map (·.1)).Nodup) (hD : (D.map (·.1)).Nodup) {id : Int} (his : (aget B id).isSome = true) :
    Cons s (adel B id) (dropL D (cellsL' s (boxAt B id)) id) := by
  obtain ⟨a, ha⟩ := Option.isSome_iff_exists.1 his
  have hb : boxAt B id = a := by unfold boxAt; rw [ha]; rfl
  refine ⟨fun c x => ?_, fun x b' hx => ?_⟩
  · rw [mem_dropL hD, h.cell, aget_adel hB, hb]
    by_cases hx : x = id
    · subst hx
      rw [if_pos rfl]
      constructor
      · rintro ⟨⟨b', h1, h2⟩, h3⟩
        rw [ha] at h1
        cases h1
        exact absurd ⟨rfl, h2⟩ h3
      · rintro ⟨_, h1, _⟩
        cases h1
    · rw [if_neg hx]
      simp [hx]
  · rw [aget_adel hB] at hx
    split at hx
    · cases hx
    · exact h.ok x b' hx

theorem Cons.inn {s : Int} {B : List (Int × Bx)} {D : List ((Int × Int) × List Int)} (h : Cons s B D) {id : Int} (hid : 0 ≤ id) (hn : aget B id = none) {b : Bx} (hb : cellsE s b = 0) : Cons s (aset B id b) (putL D (cellsL' s b) id) := by
  have hE : gputE s B id b = 0 := by unfold gputE; rw [if_neg (by omega), hn]; exact hb
  have := h.put id b
  unfold gputB gputD at this
  rwa [if_pos hE, if_pos hE] at this

theorem Cons.drop {s : Int} {B : List (Int × Bx)} {D : List ((Int × Int) × List Int)} (h : Cons s B D) (hB : (B.map (·.1)).Nodup) (hD : (D.map (·.1)).Nodup) (id : Int) : Cons s (gdropB B id) (gdropD s B D id) := by
  unfold gdropB gdropD gdropE
  by_cases hi : (aget B id).isSome = true
  · rw [if_pos hi, if_pos rfl, if_pos rfl]
    exact h.out hB hD hi
  · rw [if_neg hi, if_neg (by decide), if_neg (by decide)]
    exact h

theorem Cons.move {s : Int} {B : List (Int × Bx)} {D : List ((Int × Int) × List Int)} (h : Cons s B D) (hB : (B.map (·.1)).Nodup) (hD : (D.map (·.1)).Nodup) (id : Int) (b : Bx) : Cons s (gmoveB s B id b) (gmoveD s B D id b) := by
  unfold gmoveB gmoveD
  by_cases h0 : gmoveE s B id b = 0
  · rw [if_pos h0, if_pos h0]
    unfold gmoveE at h0
    split at h0
    · rename_i hi
      obtain ⟨a, ha⟩ := Option.isSome_iff_exists.1 hi
      exact (h.out hB hD hi).inn (h.ok id a ha).2 (by rw [aget_adel hB, if_pos rfl]) h0
    · cases h0
  · rw [if_neg h0, if_neg h0]
    exact h

/-! ### the numbers that are there -/
theorem nd_put {s : Int} {B : List (Int × Bx)} (h : (B.map (·.1)).Nodup) {id : Int} {b : Bx} : ((gputB s B id b).map (·.1)).Nodup := by
  unfold gputB
  split
  · exact nodup_aset h
  · exact h
theorem nd_move {s : Int} {B : List (Int × Bx)} (h : (B.map (·.1)).Nodup) {id : Int} {b : Bx} : ((gmoveB s B id b).map (·.1)).Nodup := by
  unfold gmoveB
  split
  · exact nodup_aset (nodup_adel h)
  · exact h
theorem nd_drop {B : List (Int × Bx)} (h : (B.map (·.1)).Nodup) {id : Int} : ((gdropB B id).map (·.1)).Nodup := by
  unfold gdropB
  split
  · exact nodup_adel h
  · exact h
theorem nd_putL {l : List (Int × Int)} {id : Int} : ∀ {D : List ((Int × Int) × List Int)} (_ : (D.map (·.1)).Nodup), ((putL D l id).map (·.1)).Nodup := by
  induction l with
  | nil => exact fun h => h
  | cons c l ih => exact fun h => ih (nodup_aset h)
theorem get_put {s : Int} {B : List (Int × Bx)} {id x : Int} {b : Bx} : aget (gputB s B id b) x = if gputE s B id b = 0 ∧ x = id then some b else aget B x := by
  unfold gputB
  by_cases h : gputE s B id b = 0
  · rw [if_pos h, aget_aset]
    simp [h]
  · rw [if_neg h, if_neg (fun hh => h hh.1)]
theorem get_move {s : Int} {B : List (Int × Bx)} (hB : (B.map (·.1)).Nodup) {id x : Int} {b : Bx} : aget (gmoveB s B id b) x = if gmoveE s B id b = 0 ∧ x = id then some b else aget B x := by
  unfold gmoveB
  by_cases h : gmoveE s B id b = 0
  · rw [if_pos h, aget_aset, aget_adel hB]
    by_cases hx : x = id <;> simp [h, hx]
  · rw [if_neg h, if_neg (fun hh => h hh.1)]
theorem get_drop {B : List (Int × Bx)} (hB : (B.map (·.1)).Nodup) {id x : Int} : aget (gdropB B id) x = if x = id then none else aget B x := by
  unfold gdropB gdropE
  by_cases hi : (aget B id).isSome = true
  · rw [if_pos hi, if_pos rfl, aget_adel hB]
  · rw [if_neg hi, if_neg (by decide)]
    by_cases hx : x = id
    · subst hx
      rw [if_pos rfl]
      simpa using hi
    · rw [if_neg hx]
theorem mem_keys {B : List (Int × Bx)} {x : Int} : x ∈ B.map (·.1) ↔ (aget B x).isSome = true := by
  constructor
  · intro h
    cases hg : aget B x with
    | some b => rfl
    | none =>
      obtain ⟨y, hy, e⟩ := List.mem_map.1 h
      exact absurd e (aget_none.1 hg y hy)
  · intro h
    obtain ⟨b, hb⟩ := Option.isSome_iff_exists.1 h
    exact List.mem_map.2 ⟨(x, b), aget_mem hb, rfl⟩

theorem aset_len {A : List (Int × Bool)} {a : Int} {b : Bool} : (aset A a b).length ≤ A.length + 1 := by
  have h := congrArg List.length (aset_keys (A := A) (a := a) (b := b))
  rw [List.length_map] at h
  rw [h]
  split
  · rw [List.length_map]; omega
  · rw [List.length_append, List.length_map]; simp
theorem metC_len {B : List (Int × Bx)} {b : Bx} : ∀ {ids : List Int} {A : List (Int × Bool)}, (metC B b ids A).length ≤ A.length + ids.length
  | [], A => by simp [metC]
  | id :: ids, A => by
    have e : metC B b (id :: ids) A = metC B b ids (if (meetV (boxAt B id) b).1 = true then aset A id true else A) := rfl
    rw [e]
    refine Nat.le_trans metC_len ?_
    rw [List.length_cons]
    split
    · have := aset_len (A := A) (a := id) (b := true)
      omega
    · omega
theorem metL_len {B : List (Int × Bx)} {D : List ((Int × Int) × List Int)} {b : Bx} {N : Nat} (hN : ∀ x, ((aget D x).getD []).length ≤ N) (l : List (Int × Int)) : (metL B D b l).length ≤ l.length * N := by
  have key : ∀ (l : List (Int × Int)) (A : List (Int × Bool)), (l.foldl (fun A c => metC B b ((aget D c).getD []) A) A).length ≤ A.length + l.length * N := by
    intro l
    induction l with
    | nil => intro A; simp
    | cons c l ih =>
      intro A
      rw [List.foldl_cons, List.length_cons, Nat.add_mul]
      have h1 := ih (metC B b ((aget D c).getD []) A)
      have h2 := metC_len (B := B) (b := b) (ids := (aget D c).getD []) (A := A)
      have h3 := hN c
      omega
  have := key l []
  simpa [metL] using this

/-- two grids that hold the same -/
theorem same_perm {α : Type} {A A' : List (Int × α)} (hn : (A.map (·.1)).Nodup) (hn' : (A'.map (·.1)).Nodup) (h : ∀ x, x ∈ A.map (·.1) ↔ x ∈ A'.map (·.1)) : (A.map (·.1)).Perm (A'.map (·.1)) :=
  (List.perm_ext_iff_of_nodup hn hn').2 h

theorem same_near {s : Int} {B B' : List (Int × Bx)} {D D' : List ((Int × Int) × List Int)} (h : Cons s B D) (h' : Cons s B' D') (hS : ∀ x, aget B x = aget B' x) (b : Bx) : gnearV s B D b = gnearV s B' D' b := by
  unfold gnearV
  by_cases hb : cellsE s b = 0
  · refine Go.mergeSort_of_perm_i (same_perm (nodup_metL _) (nodup_metL _) fun x => ?_)
    rw [h.near hb, h'.near hb, hS]
  · have : cellsL' s b = [] := by unfold cellsL'; rw [if_neg hb]
    rw [this]
    rfl
end Go.Proofs.Ytamobmjfdiecbaa
