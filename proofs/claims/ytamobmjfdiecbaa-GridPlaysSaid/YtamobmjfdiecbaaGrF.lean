/- GrF: boxes are taken out of the grid; the grid's own calls New, Put, Move, Drop, as contracts over lists of numbers and boxes. Conditions: those of each theorem, on its arguments. -/
import Derived.Test.YtamobmjfdiecbaaGrE
namespace Go.Proofs.Ytamobmjfdiecbaa
open Go Go.Sx Go.Fp
attribute [local irreducible] jn lv ld st nw asI asB asP asS asY asM asF asA asT lp rn ru rq cl dw dr bnd bn2 nz nn hd hr so eqW
attribute [local irreducible] callOk

theorem mem_rowC {x y a b : Int} {n : Nat} : (a, b) ∈ rowC x y n ↔ b = y ∧ x ≤ a ∧ a < x + n := by
  unfold rowC
  simp only [List.mem_map, List.mem_range, Prod.mk.injEq]
  constructor
  · rintro ⟨i, hi, rfl, rfl⟩
    omega
  · rintro ⟨rfl, h1, h2⟩
    exact ⟨(a - x).toNat, by omega, by omega, rfl⟩

theorem mem_rowsC {x y a b : Int} {n t : Nat} : (a, b) ∈ rowsC x y n t ↔ (x ≤ a ∧ a < x + n) ∧ (y ≤ b ∧ b < y + t) := by
  unfold rowsC
  simp only [List.mem_flatMap, List.mem_range, mem_rowC]
  constructor
  · rintro ⟨j, hj, rfl, h1, h2⟩
    omega
  · rintro ⟨h1, h2, h3⟩
    exact ⟨(b - y).toNat, by omega, by omega, h1⟩

theorem cellsE_zero {s : Int} {b : Bx} (h : cellsE s b = 0) : sideOk s = true ∧ b.right = true ∧ (spanOf s b).ok = true ∧ (spanOf s b).wide * (spanOf s b).tall ≤ 1024 := by
  unfold cellsE at h
  split at h
  · rename_i h1
    split at h
    · rename_i h2
      split at h
      · rename_i h3
        split at h
        · cases h
        · exact ⟨h1, h2, h3, by omega⟩
      · cases h
    · cases h
  · cases h

theorem mem_cells {s : Int} {b : Bx} {p : Int × Int} : p ∈ cellsL' s b ↔ cellsE s b = 0 ∧ ((spanOf s b).lx ≤ p.1 ∧ p.1 ≤ (spanOf s b).hx) ∧ ((spanOf s b).ly ≤ p.2 ∧ p.2 ≤ (spanOf s b).hy) := by
  obtain ⟨a, c⟩ := p
  unfold cellsL'
  split
  · rename_i h
    obtain ⟨h1, h2, h3, h4⟩ := cellsE_zero h
    have hs : 1 ≤ s ∧ s ≤ 1099511627776 := by simpa [sideOk] using h1
    have hle := span_le hs.1 h2
    rw [mem_rowsC]
    unfold Span.wide Span.tall
    simp only [h, true_and]
    omega
  · rename_i h
    simp [h]

theorem cells_okc {s : Int} {b : Bx} : ∀ x ∈ cellsL' s b, okc x := by
  intro x hx
  obtain ⟨h, h1, h2⟩ := mem_cells.1 hx
  obtain ⟨_, _, h3, _⟩ := cellsE_zero h
  unfold Span.ok at h3
  rw [Bool.and_eq_true, isCell_iff, isCell_iff] at h3
  unfold okc
  omega

theorem cells_len {s : Int} {b : Bx} : (cellsL' s b).length ≤ 1024 := by
  unfold cellsL'
  split
  · rename_i h
    obtain ⟨h1, h2, _, h4⟩ := cellsE_zero h
    have hs : 1 ≤ s ∧ s ≤ 1099511627776 := by simpa [sideOk] using h1
    have hle := span_le hs.1 h2
    rw [rowsC_length]
    have e1 : 0 ≤ (spanOf s b).tall := by unfold Span.tall; omega
    have e2 : 0 ≤ (spanOf s b).wide := by unfold Span.wide; omega
    have e3 : (((spanOf s b).tall.toNat * (spanOf s b).wide.toNat : Nat) : Int) = (spanOf s b).wide * (spanOf s b).tall := by
      rw [Int.natCast_mul, Int.toNat_of_nonneg e1, Int.toNat_of_nonneg e2, Int.mul_comm]
    omega
  · simp

def dropC (D : List ((Int × Int) × List Int)) (c : Int × Int) (id : Int) : List ((Int × Int) × List Int) :=
  if less ((aget D c).getD []) id = [] then adel (aset D c (less ((aget D c).getD []) id)) c else aset D c (less ((aget D c).getD []) id)
def dropL (D : List ((Int × Int) × List Int)) (l : List (Int × Int)) (id : Int) : List ((Int × Int) × List Int) := l.foldl (fun D c => dropC D c id) D

theorem less_len (ids : List Int) (id : Int) : (less ids id).length ≤ ids.length := List.length_filter_le _ _

/-- one number out of one cell -/
theorem gdrop_cell {w : World} {F : Nat → Prop} {g mb mc r1 : Nat} {s : Int} {B : List (Int × Bx)} {C : List ((Int × Int) × CellV)} {bb : List Nat} {kb : Nat} {bc : List Nat} {kc : Nat}
    (h : Gr w F g mb mc s B C bb kb bc kc) {c : Int × Int} (hc : okc c) {id : Int} (hr1 : w.cell? ⟨r1, 0, none⟩ = some (.int .i64 id)) (hn1 : ¬ F r1) (hlen : ((aget (pl C) c).getD []).length ≤ 1099511627776) {K : World → Prop}
    (hK : ∀ w' C' bc' kc', Gr w' F g mb mc s B C' bb kb bc' kc' → pl C' = dropC (pl C) c id → Ext F w w' → w'.heap.size = w.heap.size → K w') :
    (rq Try.prog (Instr.lookup 115 (.map (some mc)) (cv c) false) w fun v39 => asS v39 fun p40 n41 c42 => (cl Try.prog 78 #[(.slice p40 n41 c42), (.func (.func 79) #[] #[(.pointer (some (⟨r1, 0, none⟩ : Addr)))])] w fun v43 w44 => asS v43 fun p45 n46 c47 => 
(dr (some ⟨g, 0, none⟩) fun a48 => (ld w44 (Addr.add a48 2) fun v49 => asM v49 fun r50 => (ru Try.prog (Instr.mapUpdate 115 (.map r50) (cv c) (.slice p45 n46 c47)) w44 fun w51 => 
(cond ((n46 : Int) == (0 : Int)) (dr (some ⟨g, 0, none⟩) fun a52 => (ld w51 (Addr.add a52 2) fun v53 => asM v53 fun r54 => (rn Try.prog (Builtin.delete_ #[115, 49] 0 #[(.map r54), (cv c)]) w51 fun v55 w56 => (K w56)))) (K w51))))))) := by
  obtain ⟨hrow, hfp, hap⟩ := h.getRow c
  have hlk := h.cm.lookup keyC und_mc zero_ints c ⟨hc, h.ok⟩
  have e1 : (Option.map cval (aget C c)).getD (cval nilV) = cval ((aget C c).getD nilV) := by cases aget C c <;> rfl
  rw [e1] at hlk
  rw [pl_get] at hlen
  have hgd : (aget (pl C) c).getD [] = ((aget C c).getD nilV).2.2 := pl_get C c
  generalize (aget C c).getD nilV = v at *
  refine rq_mk hlk (asS_i rfl ?_)
  refine delFunc_k hrow (by omega) hr1 (fun q hq e => hn1 (by have := (hfp q hq).1; rw [e] at this; exact this)) ?_
  intro w1 hr hx1 hz1
  have hpres : ∀ k, k = g ∨ k = mb ∨ k = mc → ¬ blocks v.1 k := by
    rintro k hk ⟨a, ha, rfl⟩
    have := hfp a ha
    omega
  have hX1 : Ext F w w1 := hx1.mono fun k _ ⟨a, ha, hab⟩ => hab ▸ (hfp a ha).1
  have hcm1 : Mp w1 mc cv cval C bc kc := h.cm.ext hx1 (hpres _ (.inr (.inr rfl)))
  have hld : w1.cell? (Addr.add ⟨g, 0, none⟩ 2) = some (.map (some mc)) := by
    rw [add_mk, blk_cell (hx1.blk h.hd (hpres _ (.inl rfl)))]; rfl
  refine asS_i rfl (dr_i (ld_mk hld (asM_i rfl ?_)))
  have hcv : (.slice v.1 (less v.2.2 id).length v.2.1 : Value) = cval (v.1, v.2.1, less v.2.2 id) := rfl
  rw [hcv]
  refine hcm1.update keyC und_mc c ⟨hc, h.ok⟩ (v.1, v.2.1, less v.2.2 id) ?_
  intro w2 bc2 kc2 hcm2 hx2 hz2
  have hX2 : Ext F w w2 := hX1.then hx2 fun k _ hk => by
    have : k = mc := hk
    rw [this]; exact h.fp.2.2.1
  have h2 : Gr w2 F g mb mc s B (aset C c (v.1, v.2.1, less v.2.2 id)) bb kb bc2 kc2 := by
    refine ⟨?_, ?_, hcm2, ?_, nodup_aset h.nd, ?_, ?_, h.ne, ?_, ?_, fun k hk => Nat.lt_of_lt_of_le (h.lt k hk) hX2.size⟩
    · exact hx2.blk (hx1.blk h.hd (hpres _ (.inl rfl))) h.ne.2.1
    · exact (h.bm.ext hx1 (hpres _ (.inr (.inl rfl)))).ext hx2 h.ne.2.2
    · intro x hx
      rcases mem_aset h.nd hx with rfl | ⟨hx, _⟩
      · exact hc
      · exact h.ok x hx
    · intro x hx
      rcases mem_aset h.nd hx with rfl | ⟨hx, hne⟩
      · exact hr.ext hx2 fun a ha e => (hfp a ha).2.2.2 e
      · exact ((h.row x hx).keep hx1 (hap x hx hne)).ext hx2 fun a ha e => (h.rne x hx a ha).2.2 e
    · exact pairwise_aset h.ap h.nd fun x hx hne => ⟨hap x hx hne, (hap x hx hne).symm⟩
    · intro x hx
      rcases mem_aset h.nd hx with rfl | ⟨hx, _⟩
      · exact fun a ha => (hfp a ha).2
      · exact h.rne x hx
    · refine ⟨h.fp.1, h.fp.2.1, h.fp.2.2.1, fun x hx => ?_⟩
      rcases mem_aset h.nd hx with rfl | ⟨hx, _⟩
      · exact fun a ha => (hfp a ha).1
      · exact h.fp.2.2.2 x hx
  have hp2 : pl (aset C c (v.1, v.2.1, less v.2.2 id)) = aset (pl C) c (less v.2.2 id) := map_aset (f := fun v : CellV => v.2.2)
  refine cond_split (fun h0 => ?_) (fun h0 => ?_)
  · have h0' : less v.2.2 id = [] := List.eq_nil_of_length_eq_zero (by
      have h0'' : ((less v.2.2 id).length : Int) = 0 := by simpa using h0
      omega)
    refine dr_i (ld_mk h2.ld2 (asM_i rfl (hcm2.delete keyC und_mc c ⟨hc, h2.ok⟩ ?_)))
    intro w3 bc3 kc3 hcm3 hx3 hz3
    have hX3 : Ext F w w3 := hX2.then hx3 fun k _ hk => by
      have : k = mc := hk
      rw [this]; exact h.fp.2.2.1
    have hsub := adel_sub (aset C c (v.1, v.2.1, less v.2.2 id)) c
    refine hK w3 (adel (aset C c (v.1, v.2.1, less v.2.2 id)) c) bc3 kc3 ⟨?_, ?_, hcm3, fun x hx => h2.ok x (hsub.subset hx), nodup_adel h2.nd, ?_, h2.ap.sublist hsub, h.ne, fun x hx => h2.rne x (hsub.subset hx), ?_, fun k hk => Nat.lt_of_lt_of_le (h.lt k hk) hX3.size⟩ ?_ hX3 (by omega)
    · exact hx3.blk h2.hd h.ne.2.1
    · exact h2.bm.ext hx3 h.ne.2.2
    · exact fun x hx => (h2.row x (hsub.subset hx)).ext hx3 fun a ha e => (h2.rne x (hsub.subset hx) a ha).2.2 e
    · exact ⟨h.fp.1, h.fp.2.1, h.fp.2.2.1, fun x hx => h2.fp.2.2.2 x (hsub.subset hx)⟩
    · unfold dropC
      rw [hgd, if_pos h0', ← hp2]
      exact map_adel (f := fun v : CellV => v.2.2)
  · have h0' : ¬ less v.2.2 id = [] := by
      intro e
      rw [e] at h0
      simp at h0
    refine hK w2 _ _ _ h2 ?_ hX2 (by omega)
    unfold dropC
    rw [hgd, if_neg h0', hp2]

theorem dropC_len {D : List ((Int × Int) × List Int)} (hn : (D.map (·.1)).Nodup) {c : Int × Int} {id : Int} (d : Int × Int) : ((aget (dropC D c id) d).getD []).length ≤ ((aget D d).getD []).length := by
  have hl := less_len ((aget D c).getD []) id
  unfold dropC
  split
  · rw [aget_adel (nodup_aset hn), aget_aset]
    split
    · simp
    · exact Nat.le_refl _
  · rw [aget_aset]
    split
    · rename_i h
      subst h
      exact hl
    · exact Nat.le_refl _

def boxAt (B : List (Int × Bx)) (id : Int) : Bx := (aget B id).getD ⟨0, 0, 0⟩

theorem gdrop_k {w : World} {F : Nat → Prop} {g mb mc : Nat} {s : Int} {B : List (Int × Bx)} {C : List ((Int × Int) × CellV)} {bb : List Nat} {kb : Nat} {bc : List Nat} {kc : Nat}
    (h : Gr w F g mb mc s B C bb kb bc kc) {id : Int} (hlen : ∀ x, ((aget (pl C) x).getD []).length ≤ 1099511627776) {K : Value → World → Prop}
    (hK : ∀ w' C' bb' kb' bc' kc', Gr w' F g mb mc s (adel B id) C' bb' kb' bc' kc' → pl C' = dropL (pl C) (cellsL' s (boxAt B id)) id → Ext F w w' → K (.tuple #[]) w') :
    cl Try.prog 60 #[.pointer (some ⟨g, 0, none⟩), .int .i64 id] w K := by
  apply F60_calls
  unfold F60
  have hS := St.start w
  (refine St.nw hS ?_; clear hS; intro r1 _ hS)
  refine St.dw hS ?_
  clear hS
  intro w1 hS _
  have h1 := h.ext hS.ext fun _ _ hf => hf
  have hr1 : ¬ F r1 := fun hf => by
    have := h.lt r1 hf
    have := (hS.kn _ (List.mem_cons_self)).2
    simp only at this
    omega
  refine dr_i (ld_mk h1.ld0 (asI_i rfl (dr_i (ld_mk h1.ld1 (asM_i rfl ?_)))))
  repeat (first | (refine asI_i rfl ?_) | (refine asB_i rfl ?_) | (refine asP_i rfl ?_) | (refine asS_i rfl ?_) | (refine asY_i rfl ?_) | (refine asM_i rfl ?_) | (refine asA_i rfl rfl ?_) | (refine asT_i rfl rfl ?_) | (refine lv_i ?_) | (refine St.nw hS ?_; clear hS; intro _ _ hS) | (refine St.dw hS ?_; clear hS; intro _ hS _) | (refine hS.ld0 0 rfl rfl ?_) | (refine hS.ld 0 rfl rfl ?_) | (refine hS.ld0 1 rfl rfl ?_) | (refine hS.ld 1 rfl rfl ?_) | (refine hS.ld0 2 rfl rfl ?_) | (refine hS.ld 2 rfl rfl ?_) | (refine hS.ld0 3 rfl rfl ?_) | (refine hS.ld 3 rfl rfl ?_) | (refine hS.ld0 4 rfl rfl ?_) | (refine hS.ld 4 rfl rfl ?_) | (refine hS.ld0 5 rfl rfl ?_) | (refine hS.ld 5 rfl rfl ?_) | (refine hS.ld0 6 rfl rfl ?_) | (refine hS.ld 6 rfl rfl ?_) | (refine hS.ld0 7 rfl rfl ?_) | (refine hS.ld 7 rfl rfl ?_) | (refine hS.hd0 0 rfl rfl ?_) | (refine hS.hd 0 rfl rfl ?_) | (refine hS.hd0 1 rfl rfl ?_) | (refine hS.hd 1 rfl rfl ?_) | (refine hS.hd0 2 rfl rfl ?_) | (refine hS.hd 2 rfl rfl ?_) | (refine hS.hd0 3 rfl rfl ?_) | (refine hS.hd 3 rfl rfl ?_) | (refine hS.hd0 4 rfl rfl ?_) | (refine hS.hd 4 rfl rfl ?_) | (refine hS.hd0 5 rfl rfl ?_) | (refine hS.hd 5 rfl rfl ?_) | (refine hS.hd0 6 rfl rfl ?_) | (refine hS.hd 6 rfl rfl ?_) | (refine hS.hd0 7 rfl rfl ?_) | (refine hS.hd 7 rfl rfl ?_) | (refine hS.st0 0 rfl rfl rfl ?_; clear hS; intro _ hS) | (refine hS.st 0 rfl rfl rfl ?_; clear hS; intro _ hS) | (refine hS.st0 1 rfl rfl rfl ?_; clear hS; intro _ hS) | (refine hS.st 1 rfl rfl rfl ?_; clear hS; intro _ hS) | (refine hS.st0 2 rfl rfl rfl ?_; clear hS; intro _ hS) | (refine hS.st 2 rfl rfl rfl ?_; clear hS; intro _ hS) | (refine hS.st0 3 rfl rfl rfl ?_; clear hS; intro _ hS) | (refine hS.st 3 rfl rfl rfl ?_; clear hS; intro _ hS) | (refine hS.st0 4 rfl rfl rfl ?_; clear hS; intro _ hS) | (refine hS.st 4 rfl rfl rfl ?_; clear hS; intro _ hS) | (refine hS.st0 5 rfl rfl rfl ?_; clear hS; intro _ hS) | (refine hS.st 5 rfl rfl rfl ?_; clear hS; intro _ hS) | (refine hS.st0 6 rfl rfl rfl ?_; clear hS; intro _ hS) | (refine hS.st 6 rfl rfl rfl ?_; clear hS; intro _ hS) | (refine hS.st0 7 rfl rfl rfl ?_; clear hS; intro _ hS) | (refine hS.st 7 rfl rfl rfl ?_; clear hS; intro _ hS) | (refine bnd_mk (by decide) (by decide) ?_) | (refine so_i rfl ?_))
  have hlk := h1.bm.lookup keyI und_mb zero_box id ⟨trivial, fun _ _ => trivial⟩
  have e1 : (Option.map Bx.v (aget B id)).getD (Bx.v ⟨0, 0, 0⟩) = (boxAt B id).v := by unfold boxAt; cases aget B id <;> rfl
  rw [e1] at hlk
  refine rq_mk hlk (asA_i (l := (boxAt B id).cells) rfl rfl (asI_i rfl (asI_i rfl (asI_i rfl ?_))))
  show cl Try.prog 24 #[.int .i64 s, (boxAt B id).v] w1 _
  refine cells_k ?_
  intro p c w2 hx2 hrow2
  have h2 := h1.ext hx2 fun _ _ hf => hf
  have hS2 := hS.to hx2
  refine asT_i rfl rfl (asS_i rfl (asI_i rfl (hS2.hd0 0 rfl rfl (hd_i h2.ld1 (lv_i ?_)))))
  have hX2 : Ext F w w2 := Ext.of_no hS2.ext
  generalize hlst : cellsL' s (boxAt B id) = lst at *
  have hok : ∀ x ∈ lst, okc x := by rw [← hlst]; exact cells_okc
  have hll : lst.length ≤ 1024 := by rw [← hlst]; exact cells_len
  have hpF : ∀ a, p = some a → ¬ F a.block := fun a ha hf => by
    have := h1.lt _ hf
    have := (hrow2.at ha).1
    omega
  have hcell2 : w2.cell? ⟨r1, 0, none⟩ = some (.int .i64 id) := hS2.cell 0 rfl rfl
  refine lp_mk (fun i : Nat => [.int .i64 (i : Int)])
    (fun m i w' => m = lst.length - i ∧ i ≤ lst.length ∧ Ext F w2 w' ∧ ∃ C' bc' kc', Gr w' F g mb mc s B C' bb kb bc' kc' ∧ pl C' = dropL (pl C) (lst.take i) id ∧ (∀ x, ((aget (pl C') x).getD []).length ≤ 1099511627776)) lst.length 0 rfl
    ⟨rfl, Nat.zero_le _, Ext.refl _ _, C, bc, kc, h2, rfl, hlen⟩ ?_
  rintro _ i w3 ⟨rfl, hi, hx3, C', bc', kc', h3, hpl, hb3⟩ J hJ
  refine asI_i rfl (cond_split (fun hc => ?_) (fun hc => ?_))
  · have hil : i < lst.length := by
      have := of_decide_eq_true hc
      omega
    refine jn_of (fun s' w' => Ext F w2 w' ∧ ∃ C' bc' kc', Gr w' F g mb mc s B C' bb kb bc' kc' ∧ pl C' = dropL (pl C) (lst.take (i + 1)) id ∧ (∀ x, ((aget (pl C') x).getD []).length ≤ 1099511627776)) ?_ ?_
    · rintro _ w4 ⟨hx4, C4, bc4, kc4, h4, hpl4, hb4⟩
      have ei : IntKind.wrap .i64 ((i : Int) + 1) = ((i + 1 : Nat) : Int) := by rw [wr64 (by omega) (by omega)]; omega
      rw [ei]
      exact hJ (lst.length - (i + 1)) (i + 1) w4 (by omega) ⟨rfl, hil, hx4, C4, bc4, kc4, h4, hpl4, hb4⟩
    · intro J2 hJ2
      have hr3 : Reads w3 p (lst.map cv) := hrow2.reads.ext hx3 hpF
      refine hr3.at (i := (i : Int)) (by omega) (v := cv lst[i]) (by simp [hil]) ?_ (by simp)
      refine asC_i rfl (dr_i (ld_mk h3.ld2 (asM_i rfl ?_)))
      have hcell3 : w3.cell? ⟨r1, 0, none⟩ = some (.int .i64 id) := hx3.cell hcell2 hr1
      refine gdrop_cell h3 (hok lst[i] (List.getElem_mem hil)) hcell3 hr1 (hb3 _) ?_
      intro w4 C4 bc4 kc4 h4 hpl4 hx4 hz4
      refine hJ2 _ _ ⟨hx3.trans hx4, C4, bc4, kc4, h4, ?_, fun x => ?_⟩
      · rw [hpl4, hpl, List.take_add_one, List.getElem?_eq_getElem hil]
        unfold dropL
        rw [List.foldl_append]
        rfl
      · rw [hpl4]
        have hnd : ((pl C').map (·.1)).Nodup := by
          have := h3.nd
          unfold pl
          simpa [List.map_map, Function.comp_def] using this
        exact Nat.le_trans (dropC_len hnd x) (hb3 x)
  · have hil : i = lst.length := by
      have := of_decide_eq_false hc
      omega
    subst hil
    rw [List.take_length] at hpl
    refine dw_mk ?_
    have h4 := h3.ext (Ext.drew w3) fun _ _ hf => hf
    have hcell4 : w3.drew.cell? ⟨r1, 0, none⟩ = some (.int .i64 id) := hx3.cell hcell2 hr1
    refine dr_i (ld_mk h4.ld1 (asM_i rfl (ld_mk hcell4 (asI_i rfl ?_))))
    refine h4.bm.delete keyI und_mb id ⟨trivial, fun _ _ => trivial⟩ ?_
    intro w5 bb5 kb5 hbm5 hx5 hz5
    refine hK w5 C' bb5 kb5 bc' kc' ⟨hx5.blk h4.hd h.ne.1, hbm5, h4.cm.ext hx5 (fun e => h.ne.2.2 e.symm), h4.ok, h4.nd, fun x hx => (h4.row x hx).ext hx5 fun a ha e => (h4.rne x hx a ha).2.1 e, h4.ap, h4.ne, h4.rne, h4.fp, fun k hk => Nat.lt_of_lt_of_le (h4.lt k hk) hx5.size⟩ hpl ?_
    refine ((hX2.trans hx3).trans (Ext.of_no (Ext.drew w3))).then hx5 fun k _ hk => ?_
    have : k = mb := hk
    rw [this]; exact h.fp.2.1
end Go.Proofs.Ytamobmjfdiecbaa
