/- GrU: the document's own grid: Move and Drop. Conditions: those of each theorem, on its arguments. -/
import Derived.Test.YtamobmjfdiecbaaGrQ
import Derived.Test.YtamobmjfdiecbaaWoD
namespace Go.Proofs.Ytamobmjfdiecbaa
open Go Go.Sx Go.Fp
attribute [local irreducible] jn lv ld st nw asI asB asP asS asY asM asF asA asT lp rn ru rq cl dw dr bnd bn2 nz nn hd hr so eqW
attribute [local irreducible] callOk

theorem add_add (a : Addr) (m n : Nat) : Addr.add (Addr.add a m) n = Addr.add a (m + n) := by
  by_cases hm : m = 0 <;> by_cases hn : n = 0 <;> simp [Addr.add, hm, hn, Nat.add_assoc]

theorem isAt_get {A : List (Int × Bx)} {id : Int} (h : isAt A id = true) : ∃ b, A[pos A id]? = some (id, b) := by
  unfold isAt at h
  split at h
  · rename_i y hy
    have : y.1 = id := by simpa using h
    exact ⟨y.2, by rw [hy, ← this]⟩
  · cases h

def rmoveE (s : Int) (A : List (Int × Bx)) (id : Int) (b : Bx) : Int := if isAt A id = true then cellsE s b else 181
def rmoveA (s : Int) (A : List (Int × Bx)) (id : Int) (b : Bx) : List (Int × Bx) := if rmoveE s A id b = 0 then A.set (pos A id) (id, b) else A

set_option maxHeartbeats 2000000 in
theorem rMove_k {w : World} {F : Nat → Prop} {x : Nat} {s : Int} {A : List (Int × Bx)} {p : Option Addr} {c : Nat} {q : Option Addr} {c' : Nat} (h : R1 w F x s A p c q c') (hm : A.length ≤ 100000) {id : Int} {b : Bx} {K : Value → World → Prop}
    (hK : ∀ w', R1 w' F x s (rmoveA s A id b) p c q c' → Ext F w w' → K (.int .i64 (rmoveE s A id b)) w') :
    cl Try.prog 56 #[.pointer (some ⟨x, 0, none⟩), .int .i64 id, b.v] w K := by
  have bad : rmoveE s A id b ≠ 0 → ∀ e, rmoveE s A id b = e → ∀ w', Ext no w w' → K (.int .i64 e) w' := by
    intro h0 e he w' hx
    have := hK w' (by unfold rmoveA; rw [if_neg h0]; exact h.no hx) (Ext.of_no hx)
    rw [he] at this
    exact this
  apply F56_calls
  unfold F56
  have hS := St.start w
  (refine St.nw hS ?_; clear hS; intro r1 _ hS)
  refine lv_i (place_k (h.no hS.ext) (by omega) fun w1 hx1 => ?_)
  replace hS := hS.to hx1
  refine asT_i rfl rfl (asI_i rfl (asB_i rfl (lv_i (cond_split (fun hc => ?_) (fun hc => ?_)))))
  · have hE : rmoveE s A id b = 181 := by unfold rmoveE; rw [if_neg (by simpa using hc)]
    exact lv_i (bad (by rw [hE]; decide) _ hE _ hS.ext)
  have hat : isAt A id = true := by simpa using hc
  have hE : rmoveE s A id b = cellsE s b := by unfold rmoveE; rw [if_pos hat]
  refine hS.dw fun w2 hS _ => ?_
  have h2 := h.no hS.ext
  refine dr_i (ld_mk h2.ld0 (asI_i rfl (hS.ld0 0 rfl rfl (asI_i rfl (hS.ld 0 rfl rfl (asI_i rfl (hS.ld 0 rfl rfl (asI_i rfl ?_))))))))
  refine rcells_k (b := b) fun p0 c0 w3 hx3 _ => asT_i rfl rfl (asS_i rfl (asI_i rfl (lv_i ?_)))
  replace hS := hS.to hx3
  refine jn_of (fun _ w' => R1 w' F x s (rmoveA s A id b) p c q c' ∧ Ext F w w') ?_ ?_
  · rintro _ w4 ⟨h4, hx4⟩
    rw [← hE]
    exact lv_i (hK w4 h4 hx4)
  · intro J hJ
    refine cond_split (fun hc => ?_) (fun hc => ?_)
    · have h0 : rmoveE s A id b = 0 := by rw [hE]; simpa using hc
      refine hS.dw fun w4 hS _ => ?_
      have h4 := h.no hS.ext
      obtain ⟨b0, hb0⟩ := isAt_get hat
      have hi := (List.getElem?_eq_some_iff.1 hb0).1
      have hA' : rmoveA s A id b = A.set (pos A id) (id, b) := by unfold rmoveA; rw [if_pos h0]
      rw [hA'] at hJ
      generalize pos A id = i at *
      refine dr_i (ld_mk h4.ld2 (asS_i rfl (hS.ld0 0 rfl rfl (asI_i rfl (hS.ld 0 rfl rfl (asI_i rfl (hS.ld 0 rfl rfl (asI_i rfl ?_))))))))
      rw [Int.toNat_natCast]
      rcases h4.rb.cases with ⟨_, _, hl0, _⟩ | ⟨g, cur, rfl, _⟩
      · omega
      refine dr_i (bnd_mk (by omega) (by omega) ?_)
      have hlen := bcs_length A
      have l1 : ∀ (y : Int × Bx), y.2.cells.length = 3 := fun _ => rfl
      refine h4.rb.st (j := i * 3) (by omega) rfl (fun w5 hr5 hx5 _ => ?_) rfl
      have e5 : (bcs A).set (i * 3) (.int .i64 b.x) = bcs (A.set i (id, ⟨b.x, b0.y, b0.r⟩)) := fl_setN (f := fun y : Int × Bx => y.2.cells) (n := 3) l1 (k := 0) hb0 (by decide) rfl
      rw [e5] at hr5
      rw [add_add]
      have hl5 := bcs_length (A.set i (id, ⟨b.x, b0.y, b0.r⟩))
      rw [List.length_set] at hl5
      refine hr5.st (j := i * 3 + 1) (by omega) rfl (fun w6 hr6 hx6 _ => ?_) rfl
      have hb1 : (A.set i (id, ⟨b.x, b0.y, b0.r⟩))[i]? = some (id, ⟨b.x, b0.y, b0.r⟩) := List.getElem?_set_self hi
      have e6 : (bcs (A.set i (id, ⟨b.x, b0.y, b0.r⟩))).set (i * 3 + 1) (.int .i64 b.y) = bcs ((A.set i (id, ⟨b.x, b0.y, b0.r⟩)).set i (id, ⟨b.x, b.y, b0.r⟩)) := fl_setN (f := fun y : Int × Bx => y.2.cells) (n := 3) l1 (k := 1) hb1 (by decide) rfl
      rw [e6, List.set_set] at hr6
      rw [add_add]
      have hl6 := bcs_length (A.set i (id, ⟨b.x, b.y, b0.r⟩))
      rw [List.length_set] at hl6
      refine hr6.st (j := i * 3 + 2) (by omega) rfl (fun w7 hr7 hx7 _ => hJ _ _ ?_) rfl
      have hb2 : (A.set i (id, ⟨b.x, b.y, b0.r⟩))[i]? = some (id, ⟨b.x, b.y, b0.r⟩) := List.getElem?_set_self hi
      have e7 : (bcs (A.set i (id, ⟨b.x, b.y, b0.r⟩))).set (i * 3 + 2) (.int .i64 b.r) = bcs ((A.set i (id, ⟨b.x, b.y, b0.r⟩)).set i (id, b)) := fl_setN (f := fun y : Int × Bx => y.2.cells) (n := 3) l1 (k := 2) hb2 (by decide) rfl
      rw [e7, List.set_set] at hr7
      have hX : Ext (blocks (some ⟨g, 0, none⟩)) w4 w7 := (hx5.trans hx6).trans hx7
      have hids : ids (A.set i (id, b)) = ids A := by
        unfold ids
        congr 1
        apply List.ext_getElem?
        intro k
        simp only [List.getElem?_map]
        by_cases hk : i = k
        · subst hk
          rw [List.getElem?_set_self hi, hb0]
          rfl
        · rw [List.getElem?_set_ne hk]
      refine ⟨⟨?_, ?_, ?_, h4.ap, h4.xp, h4.xq, h4.fp, fun k hk => Nat.lt_of_lt_of_le (h4.lt k hk) hX.size⟩, (Ext.of_no hS.ext).then hX fun k _ ⟨a, ha, hab⟩ => hab ▸ h.fp.2.2 a ha⟩
      · rw [List.length_set]
        exact hX.blk h4.hd fun ⟨a, ha, hab⟩ => h4.xq a ha hab
      · rw [hids]
        exact h4.ri.keep hX h4.ap
      · rw [List.length_set]
        exact hr7
    · have h0 : rmoveE s A id b ≠ 0 := by rw [hE]; simpa using hc
      have hA' : rmoveA s A id b = A := by unfold rmoveA; rw [if_neg h0]
      rw [hA'] at hJ
      exact hJ _ _ ⟨h.no hS.ext, Ext.of_no hS.ext⟩

/-! ### Drop -/
def remA (A : List (Int × Bx)) (i : Nat) : List (Int × Bx) := A.take i ++ A.drop (i + 1)
def rdropE (A : List (Int × Bx)) (id : Int) : Int := if isAt A id = true then 0 else 181
def rdropA (A : List (Int × Bx)) (id : Int) : List (Int × Bx) := if rdropE A id = 0 then remA A (pos A id) else A

set_option maxHeartbeats 2000000 in
theorem rDrop_k {w : World} {F : Nat → Prop} {x : Nat} {s : Int} {A : List (Int × Bx)} {p : Option Addr} {c : Nat} {q : Option Addr} {c' : Nat} (h : R1 w F x s A p c q c') (hm : A.length ≤ 100000) {id : Int} {K : Value → World → Prop}
    (hK : ∀ w' F' p' c1 q' c2, R1 w' F' x s (rdropA A id) p' c1 q' c2 → Ext F w w' → (∀ k, F' k → F k ∨ w.heap.size ≤ k) → K (.int .i64 (rdropE A id)) w') :
    cl Try.prog 57 #[.pointer (some ⟨x, 0, none⟩), .int .i64 id] w K := by
  apply F57_calls
  unfold F57
  refine lv_i (place_k h (by omega) fun w1 hx1 => ?_)
  refine asT_i rfl rfl (asI_i rfl (asB_i rfl (lv_i (cond_split (fun hc => ?_) (fun hc => ?_)))))
  · have hE : rdropE A id = 181 := by unfold rdropE; rw [if_neg (by simpa using hc)]
    have := hK w1 F p c q c' (by unfold rdropA; rw [hE, if_neg (by decide)]; exact h.no hx1) (Ext.of_no hx1) (fun k hk => .inl hk)
    rw [hE] at this
    exact lv_i this
  have hat : isAt A id = true := by simpa using hc
  have hE : rdropE A id = 0 := by unfold rdropE; rw [if_pos hat]
  obtain ⟨b0, hb0⟩ := isAt_get hat
  have hi := (List.getElem?_eq_some_iff.1 hb0).1
  have hA' : rdropA A id = remA A (pos A id) := by unfold rdropA; rw [if_pos hE]
  rw [hA', hE] at hK
  generalize pos A id = i at *
  have hlen : (remA A i).length = A.length - 1 := by
    unfold remA
    rw [List.length_append, List.length_take, List.length_drop]
    omega
  have ei : IntKind.wrap .i64 ((i : Int) + 1) = ((i + 1 : Nat) : Int) := by rw [wr64 (by omega) (by omega)]; omega
  rw [ei, Int.toNat_natCast, Int.toNat_natCast]
  refine dw_mk ?_
  have hx2 := hx1.trans (Ext.drew w1)
  generalize w1.drew = w2 at *
  have h2 := h.no hx2
  have hcc := row_le h2.ri
  rw [ids_length] at hcc
  have hsrc : ∀ {w5 : World}, Ext no w2 w5 → Reads w5 p (ids (A.take i)) := fun hx => by
    have := (h2.no hx).ri.reads
    rw [← ids_split A i] at this
    exact this.pre
  have hdr : ∀ {w5 : World}, Ext no w2 w5 → Reads w5 (slp p c (i + 1) 1) (ids (A.drop (i + 1))) := fun hx => by
    have := (h2.no hx).ri.reads.drop (c := c) (n := i + 1) (by rw [ids_length]; exact hcc)
    rwa [ids_drop] at this
  have lt : (ids (A.take i)).length = i := by rw [ids_length, List.length_take]; omega
  have ld : (ids (A.drop (i + 1))).length = A.length - (i + 1) := by rw [ids_length, List.length_drop]
  have hI : ids (A.take i) ++ ids (A.drop (i + 1)) = ids (remA A i) := by unfold remA ids iv; simp
  refine dr_i (ld_mk h2.ld1 (asS_i rfl (bn2_mk (by omega) (by omega) (dr_i (ld_mk h2.ld1 (asS_i rfl (bn2_mk (by omega) (by omega) ?_)))))))
  refine sI.app (n := 0) (m := i) (Row.nil w2 w2.heap.size _) rfl (Nat.le_refl _) (hsrc (Ext.refl _ _)) lt iv_one (le_maxLen (by omega)) (by omega) fun p1 c1 w3 hr3 hx3 _ _ => asS_i rfl ?_
  have hx23 : Ext no w2 w3 := hx3.mono fun k _ ⟨a, ha, _⟩ => by cases ha
  refine hd_i (h2.no hx23).ld1 (hd_i (h2.no hx23).ld1 ?_)
  refine sI.app (n := 0 + i) (m := A.length - (i + 1)) hr3 (by simp [lt]) hx23.size (hdr hx23) ld iv_one (le_maxLen (by omega)) (by omega) fun p2 c2 w4 hr4 hx4 _ _ => asS_i rfl ?_
  have hx24 : Ext no w2 w4 := hx23.then hx4 fun k hk ⟨a, ha, hab⟩ => by
    have := (hr3.at ha).1
    omega
  refine hd_i (h2.no hx24).ld1 (hd_i (h2.no hx24).ld1 ?_)
  have hn : 0 + i + (A.length - (i + 1)) = A.length - 1 := by omega
  rw [hn]
  rw [List.nil_append, hI] at hr4
  refine dw_mk ?_
  have hx5 := hx24.trans (Ext.drew w4)
  replace hr4 := hr4.ext (Ext.drew w4) fun _ _ h => h
  generalize w4.drew = w5 at *
  have h5 := h2.no hx5
  have z25 := hx5.size
  have hcq := h5.rb.le_max
  have hsrq : ∀ {w6 : World}, Ext no w5 w6 → Reads w6 q (bcs (A.take i)) := fun hx => by
    have := (h5.no hx).rb.reads
    rw [← bcs_split A i] at this
    exact this.pre
  have hdrq : ∀ {w6 : World}, Ext no w5 w6 → Reads w6 (slp q c' (i + 1) 3) (bcs (A.drop (i + 1))) := fun hx => by
    have := (h5.no hx).rb.reads.dropN (c := c') (n := i + 1) (s := 3) (by rw [bcs_length]; omega)
    rwa [bcs_drop A (by omega)] at this
  have ltq : (bcs (A.take i)).length = i * 3 := by rw [bcs_length, List.length_take]; congr 1; omega
  have ldq : (bcs (A.drop (i + 1))).length = (A.length - (i + 1)) * 3 := by rw [bcs_length, List.length_drop]
  have hq0 : q = none → i = 0 := fun hq => by
    have := (h5.rb.none hq).1
    omega
  have hq1 : slp q c' (i + 1) 3 = none → A.length - (i + 1) = 0 := fun hq => by
    have := (h5.rb.none (slp_none hq)).1
    omega
  have hIq : bcs (A.take i) ++ bcs (A.drop (i + 1)) = bcs (remA A i) := by unfold remA bcs; simp
  refine dr_i (ld_mk h5.ld2 (asS_i rfl (bn2_mk (by omega) (by omega) (dr_i (ld_mk h5.ld2 (asS_i rfl (bn2_mk (by omega) (by omega) ?_)))))))
  refine sB.app (RowN.nil w5 w5.heap.size _ _) (Nat.le_refl _) (hsrq (Ext.refl _ _)) ltq hq0 bcs_one (le_maxLen (by omega)) (by omega) fun q1 d1 w6 hr6 hx6 _ _ => asS_i rfl ?_
  have hx56 : Ext no w5 w6 := hx6.mono fun k _ ⟨a, ha, _⟩ => by cases ha
  refine hd_i (h5.no hx56).ld2 (hd_i (h5.no hx56).ld2 ?_)
  refine sB.app hr6 hx56.size (hdrq hx56) ldq hq1 bcs_one (le_maxLen (by omega)) (by omega) fun q2 d2 w7 hr7 hx7 _ _ => asS_i rfl ?_
  have hx57 : Ext no w5 w7 := hx56.then hx7 fun k hk ⟨a, ha, hab⟩ => by
    have := (hr6.at ha).1
    omega
  have h7 := h5.no hx57
  refine hd_i h7.ld2 (hd_i h7.ld2 ?_)
  rw [hn] at hr7 ⊢
  rw [List.nil_append, hIq] at hr7
  have hX7 : Ext no w w7 := (hx2.trans hx5).trans hx57
  have hxx := h.lt x h.fp.1
  have z2 := hx2.size
  have z57 := hx57.size
  refine stx h7.hd (k := 1) (by simp) rfl fun w8 hd8 hx8 hz8 => ?_
  refine stx hd8 (k := 2) (by simp) rfl fun w9 hd9 hx9 hz9 => lv_i ?_
  have b1 : ∀ a, p2 = some a → w2.heap.size ≤ a.block ∧ a.block < w5.heap.size := fun a ha => hr4.at ha
  have b2 : ∀ a, q2 = some a → w5.heap.size ≤ a.block ∧ a.block < w7.heap.size := fun a ha => hr7.at ha
  have hF : Ext F w w9 := ((Ext.of_no hX7).then hx8 fun k _ hk => by
    have : k = x := hk
    rw [this]; exact h.fp.1).then hx9 fun k _ hk => by
    have : k = x := hk
    rw [this]; exact h.fp.1
  refine hK w9 (fun k => k = x ∨ blocks p2 k ∨ blocks q2 k) p2 c2 q2 d2 ⟨?_, ?_, ?_, ?_, ?_, ?_, ?_, ?_⟩ hF ?_
  · rw [hlen]
    simpa using hd9
  · refine (((hr4.ext hx57 fun _ _ h => h).ext hx8 fun a ha e => ?_).ext hx9 fun a ha e => ?_).mono (Nat.zero_le _)
    · have e' : a.block = x := e
      have := (b1 a ha).1
      omega
    · have e' : a.block = x := e
      have := (b1 a ha).1
      omega
  · rw [hlen]
    refine ((hr7.ext hx8 fun a ha e => ?_).ext hx9 fun a ha e => ?_).mono (Nat.zero_le _)
    · have e' : a.block = x := e
      have := (b2 a ha).1
      omega
    · have e' : a.block = x := e
      have := (b2 a ha).1
      omega
  · intro a1 a2 h1 h2 e
    have := (b1 a1 h1).2
    have := (b2 a2 h2).1
    omega
  · intro a ha e
    have := (b1 a ha).1
    omega
  · intro a ha e
    have := (b2 a ha).1
    omega
  · exact ⟨.inl rfl, fun a ha => .inr (.inl ⟨a, ha, rfl⟩), fun a ha => .inr (.inr ⟨a, ha, rfl⟩)⟩
  · rintro k (rfl | ⟨a, ha, rfl⟩ | ⟨a, ha, rfl⟩)
    · omega
    · have := (b1 a ha).2
      omega
    · have := (b2 a ha).2
      omega
  · rintro k (rfl | ⟨a, ha, rfl⟩ | ⟨a, ha, rfl⟩)
    · exact .inl h.fp.1
    · have := (b1 a ha).1
      exact .inr (by omega)
    · have := (b2 a ha).1
      exact .inr (by omega)
end Go.Proofs.Ytamobmjfdiecbaa
