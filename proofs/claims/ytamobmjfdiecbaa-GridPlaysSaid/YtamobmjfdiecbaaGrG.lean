/- GrG: the grid's own calls New, Put, Move, Drop, Count, as contracts over lists of numbers and boxes. Conditions: those of each theorem, on its arguments. -/
import Derived.Test.YtamobmjfdiecbaaGrF
namespace Go.Proofs.Ytamobmjfdiecbaa
open Go Go.Sx Go.Fp
attribute [local irreducible] jn lv ld st nw asI asB asP asS asY asM asF asA asT lp rn ru rq cl dw dr bnd bn2 nz nn hd hr so eqW
attribute [local irreducible] callOk

theorem gnew_k {s : Int} {w : World} {K : Value → World → Prop} (hbad : sideOk s = false → K (.tuple #[.pointer none, .int .i64 1]) w)
    (hK : ∀ w' F g mb mc, sideOk s = true → Gr w' F g mb mc s [] [] [] 0 [] 0 → Ext no w w' → (∀ k, F k → w.heap.size ≤ k) → K (.tuple #[.pointer (some ⟨g, 0, none⟩), .int .i64 0]) w') :
    cl Try.prog 29 #[.int .i64 s] w K := by
  apply F29_calls
  unfold F29
  refine lv_i (side_k (asB_i rfl (cond_split (fun h => lv_i (hbad (by simpa using h))) (fun h => ?_))))
  refine make_map (α := Int) (β := Bx) (enc := ki) (val := Bx.v) und_mb ?_
  intro w1 hb1 hx1 hz1
  refine asM_i rfl (make_map (α := Int × Int) (β := CellV) (enc := cv) (val := cval) und_mc ?_)
  intro w2 hc2 hx2 hz2
  refine asM_i rfl (nw_mk (lv_i ?_))
  have hx3 := Ext.alloc w2 (.cells #[.int .i64 s, .map (some w.heap.size), .map (some w1.heap.size)] 117)
  have hX : Ext no w (w2.alloc (.cells #[.int .i64 s, .map (some w.heap.size), .map (some w1.heap.size)] 117)) := (hx1.trans hx2).trans hx3
  have hsz := new_size w2 (.cells #[.int .i64 s, .map (some w.heap.size), .map (some w1.heap.size)] 117)
  refine hK _ (fun k => k = w2.heap.size ∨ k = w.heap.size ∨ k = w1.heap.size) w2.heap.size w.heap.size w1.heap.size (by simpa using h) ⟨new_blk w2 _, (hb1.ext hx2 fun h => h).ext hx3 fun h => h, hc2.ext hx3 fun h => h, by simp, by simp, by simp, List.Pairwise.nil, ⟨by omega, by omega, by omega⟩, by simp, ⟨.inl rfl, .inr (.inl rfl), .inr (.inr rfl), by simp⟩, ?_⟩ hX ?_
  · rintro k (rfl | rfl | rfl) <;> omega
  · rintro k (rfl | rfl | rfl) <;> omega

def gputE (s : Int) (B : List (Int × Bx)) (id : Int) (b : Bx) : Int := if id < 0 then 1 else if (aget B id).isSome = true then 180 else cellsE s b
def gputB (s : Int) (B : List (Int × Bx)) (id : Int) (b : Bx) : List (Int × Bx) := if gputE s B id b = 0 then aset B id b else B
def gputD (s : Int) (B : List (Int × Bx)) (D : List ((Int × Int) × List Int)) (id : Int) (b : Bx) : List ((Int × Int) × List Int) := if gputE s B id b = 0 then putL D (cellsL' s b) id else D

theorem gPut_k {w : World} {F : Nat → Prop} {g mb mc : Nat} {s : Int} {B : List (Int × Bx)} {C : List ((Int × Int) × CellV)} {bb : List Nat} {kb : Nat} {bc : List Nat} {kc : Nat}
    (h : Gr w F g mb mc s B C bb kb bc kc) {id : Int} {b : Bx} (hlen : ∀ x, ((aget (pl C) x).getD []).length + 1024 ≤ 1099511627776) {K : Value → World → Prop}
    (hK : ∀ w' F' C' bb' kb' bc' kc', Gr w' F' g mb mc s (gputB s B id b) C' bb' kb' bc' kc' → pl C' = gputD s B (pl C) id b → Ext F w w' → (∀ k, F' k → F k ∨ w.heap.size ≤ k) → (∀ k, F k → F' k) → K (.int .i64 (gputE s B id b)) w') :
    cl Try.prog 30 #[.pointer (some ⟨g, 0, none⟩), .int .i64 id, b.v] w K := by
  have bad : gputE s B id b ≠ 0 → ∀ e, gputE s B id b = e → ∀ w', Ext no w w' → K (.int .i64 e) w' := by
    intro h0 e he w' hx
    have := hK w' F C bb kb bc kc (by unfold gputB; rw [if_neg h0]; exact h.ext hx fun _ _ hf => hf) (by unfold gputD; rw [if_neg h0]) (Ext.of_no hx) (fun k hk => .inl hk) (fun k hk => hk)
    rw [he] at this
    exact this
  apply F30_calls
  unfold F30
  have hS := St.start w
  (refine St.nw hS ?_; clear hS; intro r1 _ hS)
  refine lv_i (cond_split (fun h0 => ?_) (fun h0 => ?_))
  · have e : gputE s B id b = 1 := by unfold gputE; rw [if_pos (of_decide_eq_true h0)]
    exact lv_i (bad (by rw [e]; decide) 1 e _ hS.ext)
  have hid : ¬ id < 0 := of_decide_eq_false h0
  have h1 := h.ext hS.ext fun _ _ hf => hf
  refine dr_i (ld_mk h1.ld1 (asM_i rfl ?_))
  have hlk := h1.bm.lookup_ok keyI und_mb zero_box id ⟨trivial, fun _ _ => trivial⟩
  have e1 : (Option.map Bx.v (aget B id)).getD (Bx.v ⟨0, 0, 0⟩) = (boxAt B id).v := by unfold boxAt; cases aget B id <;> rfl
  rw [e1] at hlk
  refine rq_mk hlk (asT_i (l := [(boxAt B id).v, .bool (aget B id).isSome]) rfl rfl (asA_i (l := (boxAt B id).cells) rfl rfl ?_))
  repeat (first | (refine asI_i rfl ?_) | (refine asB_i rfl ?_) | (refine asP_i rfl ?_) | (refine asS_i rfl ?_) | (refine asY_i rfl ?_) | (refine asM_i rfl ?_) | (refine asA_i rfl rfl ?_) | (refine asT_i rfl rfl ?_) | (refine lv_i ?_) | (refine St.nw hS ?_; clear hS; intro _ _ hS) | (refine St.dw hS ?_; clear hS; intro _ hS _) | (refine hS.ld0 0 rfl rfl ?_) | (refine hS.ld 0 rfl rfl ?_) | (refine hS.ld0 1 rfl rfl ?_) | (refine hS.ld 1 rfl rfl ?_) | (refine hS.ld0 2 rfl rfl ?_) | (refine hS.ld 2 rfl rfl ?_) | (refine hS.ld0 3 rfl rfl ?_) | (refine hS.ld 3 rfl rfl ?_) | (refine hS.ld0 4 rfl rfl ?_) | (refine hS.ld 4 rfl rfl ?_) | (refine hS.ld0 5 rfl rfl ?_) | (refine hS.ld 5 rfl rfl ?_) | (refine hS.ld0 6 rfl rfl ?_) | (refine hS.ld 6 rfl rfl ?_) | (refine hS.ld0 7 rfl rfl ?_) | (refine hS.ld 7 rfl rfl ?_) | (refine hS.hd0 0 rfl rfl ?_) | (refine hS.hd 0 rfl rfl ?_) | (refine hS.hd0 1 rfl rfl ?_) | (refine hS.hd 1 rfl rfl ?_) | (refine hS.hd0 2 rfl rfl ?_) | (refine hS.hd 2 rfl rfl ?_) | (refine hS.hd0 3 rfl rfl ?_) | (refine hS.hd 3 rfl rfl ?_) | (refine hS.hd0 4 rfl rfl ?_) | (refine hS.hd 4 rfl rfl ?_) | (refine hS.hd0 5 rfl rfl ?_) | (refine hS.hd 5 rfl rfl ?_) | (refine hS.hd0 6 rfl rfl ?_) | (refine hS.hd 6 rfl rfl ?_) | (refine hS.hd0 7 rfl rfl ?_) | (refine hS.hd 7 rfl rfl ?_) | (refine hS.st0 0 rfl rfl rfl ?_; clear hS; intro _ hS) | (refine hS.st 0 rfl rfl rfl ?_; clear hS; intro _ hS) | (refine hS.st0 1 rfl rfl rfl ?_; clear hS; intro _ hS) | (refine hS.st 1 rfl rfl rfl ?_; clear hS; intro _ hS) | (refine hS.st0 2 rfl rfl rfl ?_; clear hS; intro _ hS) | (refine hS.st 2 rfl rfl rfl ?_; clear hS; intro _ hS) | (refine hS.st0 3 rfl rfl rfl ?_; clear hS; intro _ hS) | (refine hS.st 3 rfl rfl rfl ?_; clear hS; intro _ hS) | (refine hS.st0 4 rfl rfl rfl ?_; clear hS; intro _ hS) | (refine hS.st 4 rfl rfl rfl ?_; clear hS; intro _ hS) | (refine hS.st0 5 rfl rfl rfl ?_; clear hS; intro _ hS) | (refine hS.st 5 rfl rfl rfl ?_; clear hS; intro _ hS) | (refine hS.st0 6 rfl rfl rfl ?_; clear hS; intro _ hS) | (refine hS.st 6 rfl rfl rfl ?_; clear hS; intro _ hS) | (refine hS.st0 7 rfl rfl rfl ?_; clear hS; intro _ hS) | (refine hS.st 7 rfl rfl rfl ?_; clear hS; intro _ hS) | (refine bnd_mk (by decide) (by decide) ?_) | (refine so_i rfl ?_))
  refine cond_split (fun hs => ?_) (fun hs => ?_)
  · have e : gputE s B id b = 180 := by unfold gputE; rw [if_neg hid, if_pos hs]
    exact lv_i (bad (by rw [e]; decide) 180 e _ hS.ext)
  have hE : gputE s B id b = cellsE s b := by
    unfold gputE
    rw [if_neg hid, if_neg (by rw [hs]; decide)]
  refine St.dw hS ?_
  clear hS h1 hlk
  intro w2 hS _
  have h2 := h.ext hS.ext fun _ _ hf => hf
  refine dr_i (ld_mk h2.ld0 (asI_i rfl ?_))
  repeat (first | (refine asI_i rfl ?_) | (refine asB_i rfl ?_) | (refine asP_i rfl ?_) | (refine asS_i rfl ?_) | (refine asY_i rfl ?_) | (refine asM_i rfl ?_) | (refine asA_i rfl rfl ?_) | (refine asT_i rfl rfl ?_) | (refine lv_i ?_) | (refine St.nw hS ?_; clear hS; intro _ _ hS) | (refine St.dw hS ?_; clear hS; intro _ hS _) | (refine hS.ld0 0 rfl rfl ?_) | (refine hS.ld 0 rfl rfl ?_) | (refine hS.ld0 1 rfl rfl ?_) | (refine hS.ld 1 rfl rfl ?_) | (refine hS.ld0 2 rfl rfl ?_) | (refine hS.ld 2 rfl rfl ?_) | (refine hS.ld0 3 rfl rfl ?_) | (refine hS.ld 3 rfl rfl ?_) | (refine hS.ld0 4 rfl rfl ?_) | (refine hS.ld 4 rfl rfl ?_) | (refine hS.ld0 5 rfl rfl ?_) | (refine hS.ld 5 rfl rfl ?_) | (refine hS.ld0 6 rfl rfl ?_) | (refine hS.ld 6 rfl rfl ?_) | (refine hS.ld0 7 rfl rfl ?_) | (refine hS.ld 7 rfl rfl ?_) | (refine hS.hd0 0 rfl rfl ?_) | (refine hS.hd 0 rfl rfl ?_) | (refine hS.hd0 1 rfl rfl ?_) | (refine hS.hd 1 rfl rfl ?_) | (refine hS.hd0 2 rfl rfl ?_) | (refine hS.hd 2 rfl rfl ?_) | (refine hS.hd0 3 rfl rfl ?_) | (refine hS.hd 3 rfl rfl ?_) | (refine hS.hd0 4 rfl rfl ?_) | (refine hS.hd 4 rfl rfl ?_) | (refine hS.hd0 5 rfl rfl ?_) | (refine hS.hd 5 rfl rfl ?_) | (refine hS.hd0 6 rfl rfl ?_) | (refine hS.hd 6 rfl rfl ?_) | (refine hS.hd0 7 rfl rfl ?_) | (refine hS.hd 7 rfl rfl ?_) | (refine hS.st0 0 rfl rfl rfl ?_; clear hS; intro _ hS) | (refine hS.st 0 rfl rfl rfl ?_; clear hS; intro _ hS) | (refine hS.st0 1 rfl rfl rfl ?_; clear hS; intro _ hS) | (refine hS.st 1 rfl rfl rfl ?_; clear hS; intro _ hS) | (refine hS.st0 2 rfl rfl rfl ?_; clear hS; intro _ hS) | (refine hS.st 2 rfl rfl rfl ?_; clear hS; intro _ hS) | (refine hS.st0 3 rfl rfl rfl ?_; clear hS; intro _ hS) | (refine hS.st 3 rfl rfl rfl ?_; clear hS; intro _ hS) | (refine hS.st0 4 rfl rfl rfl ?_; clear hS; intro _ hS) | (refine hS.st 4 rfl rfl rfl ?_; clear hS; intro _ hS) | (refine hS.st0 5 rfl rfl rfl ?_; clear hS; intro _ hS) | (refine hS.st 5 rfl rfl rfl ?_; clear hS; intro _ hS) | (refine hS.st0 6 rfl rfl rfl ?_; clear hS; intro _ hS) | (refine hS.st 6 rfl rfl rfl ?_; clear hS; intro _ hS) | (refine hS.st0 7 rfl rfl rfl ?_; clear hS; intro _ hS) | (refine hS.st 7 rfl rfl rfl ?_; clear hS; intro _ hS) | (refine bnd_mk (by decide) (by decide) ?_) | (refine so_i rfl ?_))
  show cl Try.prog 24 #[.int .i64 s, b.v] w2 _
  refine cells_k ?_
  intro p c w3 hx3 hrow3
  have hS3 := hS.to hx3
  have h3 := h2.ext hx3 fun _ _ hf => hf
  refine asT_i rfl rfl (asS_i rfl (asI_i rfl (lv_i (cond_split (fun h0 => ?_) (fun h0 => ?_)))))
  · have hne : cellsE s b ≠ 0 := by simpa using h0
    exact lv_i (bad (by rw [hE]; exact hne) _ hE _ hS3.ext)
  · have h00 : cellsE s b = 0 := by simpa using h0
    clear hS
    have hS := hS3
    repeat (first | (refine asI_i rfl ?_) | (refine asB_i rfl ?_) | (refine asP_i rfl ?_) | (refine asS_i rfl ?_) | (refine asY_i rfl ?_) | (refine asM_i rfl ?_) | (refine asA_i rfl rfl ?_) | (refine asT_i rfl rfl ?_) | (refine lv_i ?_) | (refine St.nw hS ?_; clear hS; intro _ _ hS) | (refine St.dw hS ?_; clear hS; intro _ hS _) | (refine hS.ld0 0 rfl rfl ?_) | (refine hS.ld 0 rfl rfl ?_) | (refine hS.ld0 1 rfl rfl ?_) | (refine hS.ld 1 rfl rfl ?_) | (refine hS.ld0 2 rfl rfl ?_) | (refine hS.ld 2 rfl rfl ?_) | (refine hS.ld0 3 rfl rfl ?_) | (refine hS.ld 3 rfl rfl ?_) | (refine hS.ld0 4 rfl rfl ?_) | (refine hS.ld 4 rfl rfl ?_) | (refine hS.ld0 5 rfl rfl ?_) | (refine hS.ld 5 rfl rfl ?_) | (refine hS.ld0 6 rfl rfl ?_) | (refine hS.ld 6 rfl rfl ?_) | (refine hS.ld0 7 rfl rfl ?_) | (refine hS.ld 7 rfl rfl ?_) | (refine hS.hd0 0 rfl rfl ?_) | (refine hS.hd 0 rfl rfl ?_) | (refine hS.hd0 1 rfl rfl ?_) | (refine hS.hd 1 rfl rfl ?_) | (refine hS.hd0 2 rfl rfl ?_) | (refine hS.hd 2 rfl rfl ?_) | (refine hS.hd0 3 rfl rfl ?_) | (refine hS.hd 3 rfl rfl ?_) | (refine hS.hd0 4 rfl rfl ?_) | (refine hS.hd 4 rfl rfl ?_) | (refine hS.hd0 5 rfl rfl ?_) | (refine hS.hd 5 rfl rfl ?_) | (refine hS.hd0 6 rfl rfl ?_) | (refine hS.hd 6 rfl rfl ?_) | (refine hS.hd0 7 rfl rfl ?_) | (refine hS.hd 7 rfl rfl ?_) | (refine hS.st0 0 rfl rfl rfl ?_; clear hS; intro _ hS) | (refine hS.st 0 rfl rfl rfl ?_; clear hS; intro _ hS) | (refine hS.st0 1 rfl rfl rfl ?_; clear hS; intro _ hS) | (refine hS.st 1 rfl rfl rfl ?_; clear hS; intro _ hS) | (refine hS.st0 2 rfl rfl rfl ?_; clear hS; intro _ hS) | (refine hS.st 2 rfl rfl rfl ?_; clear hS; intro _ hS) | (refine hS.st0 3 rfl rfl rfl ?_; clear hS; intro _ hS) | (refine hS.st 3 rfl rfl rfl ?_; clear hS; intro _ hS) | (refine hS.st0 4 rfl rfl rfl ?_; clear hS; intro _ hS) | (refine hS.st 4 rfl rfl rfl ?_; clear hS; intro _ hS) | (refine hS.st0 5 rfl rfl rfl ?_; clear hS; intro _ hS) | (refine hS.st 5 rfl rfl rfl ?_; clear hS; intro _ hS) | (refine hS.st0 6 rfl rfl rfl ?_; clear hS; intro _ hS) | (refine hS.st 6 rfl rfl rfl ?_; clear hS; intro _ hS) | (refine hS.st0 7 rfl rfl rfl ?_; clear hS; intro _ hS) | (refine hS.st 7 rfl rfl rfl ?_; clear hS; intro _ hS) | (refine bnd_mk (by decide) (by decide) ?_) | (refine so_i rfl ?_))
    show cl Try.prog 52 #[.pointer (some ⟨g, 0, none⟩), .int .i64 id, b.v, .slice p (cellsL' s b).length c] w3 _
    have hl := @cells_len s b
    refine gput_k h3 hrow3.reads rfl (by omega) cells_okc (fun a ha hf => ?_) (fun x => ?_) ?_
    · have := h2.lt _ hf
      have := (hrow3.at ha).1
      omega
    · have := hlen x
      omega
    intro w4 F' C' bb' kb' bc' kc' h4 hpl hx4 hF1 hF2
    have hE0 : gputE s B id b = 0 := by rw [hE, h00]
    have := hK w4 F' C' bb' kb' bc' kc' (by unfold gputB; rw [if_pos hE0]; exact h4) (by unfold gputD; rw [if_pos hE0]; exact hpl) ((Ext.of_no hS.ext).trans hx4) (fun k hk => by
      have := hS.ext.size
      rcases hF1 k hk with h | h
      · exact .inl h
      · exact .inr (by omega)) hF2
    rw [hE0] at this
    exact lv_i this

def gmoveE (s : Int) (B : List (Int × Bx)) (id : Int) (b : Bx) : Int := if (aget B id).isSome = true then cellsE s b else 181
def gmoveB (s : Int) (B : List (Int × Bx)) (id : Int) (b : Bx) : List (Int × Bx) := if gmoveE s B id b = 0 then aset (adel B id) id b else B
def gmoveD (s : Int) (B : List (Int × Bx)) (D : List ((Int × Int) × List Int)) (id : Int) (b : Bx) : List ((Int × Int) × List Int) :=
  if gmoveE s B id b = 0 then putL (dropL D (cellsL' s (boxAt B id)) id) (cellsL' s b) id else D

theorem pl_nd {C : List ((Int × Int) × CellV)} (h : (C.map (·.1)).Nodup) : ((pl C).map (·.1)).Nodup := by
  unfold pl
  simpa [List.map_map, Function.comp_def] using h

theorem dropC_nd {D : List ((Int × Int) × List Int)} (hn : (D.map (·.1)).Nodup) {c : Int × Int} {id : Int} : ((dropC D c id).map (·.1)).Nodup := by
  unfold dropC
  split
  · exact nodup_adel (nodup_aset hn)
  · exact nodup_aset hn

theorem dropL_len {l : List (Int × Int)} {id : Int} : ∀ {D : List ((Int × Int) × List Int)}, (D.map (·.1)).Nodup → ∀ x, ((aget (dropL D l id) x).getD []).length ≤ ((aget D x).getD []).length := by
  induction l with
  | nil => intro D _ x; exact Nat.le_refl _
  | cons c l ih =>
    intro D hn x
    exact Nat.le_trans (ih (dropC_nd hn) x) (dropC_len hn x)

theorem gMove_k {w : World} {F : Nat → Prop} {g mb mc : Nat} {s : Int} {B : List (Int × Bx)} {C : List ((Int × Int) × CellV)} {bb : List Nat} {kb : Nat} {bc : List Nat} {kc : Nat}
    (h : Gr w F g mb mc s B C bb kb bc kc) {id : Int} {b : Bx} (hlen : ∀ x, ((aget (pl C) x).getD []).length + 1024 ≤ 1099511627776) {K : Value → World → Prop}
    (hK : ∀ w' F' C' bb' kb' bc' kc', Gr w' F' g mb mc s (gmoveB s B id b) C' bb' kb' bc' kc' → pl C' = gmoveD s B (pl C) id b → Ext F w w' → (∀ k, F' k → F k ∨ w.heap.size ≤ k) → (∀ k, F k → F' k) → K (.int .i64 (gmoveE s B id b)) w') :
    cl Try.prog 35 #[.pointer (some ⟨g, 0, none⟩), .int .i64 id, b.v] w K := by
  have bad : gmoveE s B id b ≠ 0 → ∀ e, gmoveE s B id b = e → ∀ w', Ext no w w' → K (.int .i64 e) w' := by
    intro h0 e he w' hx
    have := hK w' F C bb kb bc kc (by unfold gmoveB; rw [if_neg h0]; exact h.ext hx fun _ _ hf => hf) (by unfold gmoveD; rw [if_neg h0]) (Ext.of_no hx) (fun k hk => .inl hk) (fun k hk => hk)
    rw [he] at this
    exact this
  apply F35_calls
  unfold F35
  have hS := St.start w
  (refine St.nw hS ?_; clear hS; intro r1 _ hS)
  have h1 := h.ext hS.ext fun _ _ hf => hf
  refine lv_i (dr_i (ld_mk h1.ld1 (asM_i rfl ?_)))
  have hlk := h1.bm.lookup_ok keyI und_mb zero_box id ⟨trivial, fun _ _ => trivial⟩
  have e1 : (Option.map Bx.v (aget B id)).getD (Bx.v ⟨0, 0, 0⟩) = (boxAt B id).v := by unfold boxAt; cases aget B id <;> rfl
  rw [e1] at hlk
  refine rq_mk hlk (asT_i (l := [(boxAt B id).v, .bool (aget B id).isSome]) rfl rfl (asA_i (l := (boxAt B id).cells) rfl rfl ?_))
  repeat (first | (refine asI_i rfl ?_) | (refine asB_i rfl ?_) | (refine asP_i rfl ?_) | (refine asS_i rfl ?_) | (refine asY_i rfl ?_) | (refine asM_i rfl ?_) | (refine asA_i rfl rfl ?_) | (refine asT_i rfl rfl ?_) | (refine lv_i ?_) | (refine St.nw hS ?_; clear hS; intro _ _ hS) | (refine St.dw hS ?_; clear hS; intro _ hS _) | (refine hS.ld0 0 rfl rfl ?_) | (refine hS.ld 0 rfl rfl ?_) | (refine hS.ld0 1 rfl rfl ?_) | (refine hS.ld 1 rfl rfl ?_) | (refine hS.ld0 2 rfl rfl ?_) | (refine hS.ld 2 rfl rfl ?_) | (refine hS.ld0 3 rfl rfl ?_) | (refine hS.ld 3 rfl rfl ?_) | (refine hS.ld0 4 rfl rfl ?_) | (refine hS.ld 4 rfl rfl ?_) | (refine hS.ld0 5 rfl rfl ?_) | (refine hS.ld 5 rfl rfl ?_) | (refine hS.ld0 6 rfl rfl ?_) | (refine hS.ld 6 rfl rfl ?_) | (refine hS.ld0 7 rfl rfl ?_) | (refine hS.ld 7 rfl rfl ?_) | (refine hS.hd0 0 rfl rfl ?_) | (refine hS.hd 0 rfl rfl ?_) | (refine hS.hd0 1 rfl rfl ?_) | (refine hS.hd 1 rfl rfl ?_) | (refine hS.hd0 2 rfl rfl ?_) | (refine hS.hd 2 rfl rfl ?_) | (refine hS.hd0 3 rfl rfl ?_) | (refine hS.hd 3 rfl rfl ?_) | (refine hS.hd0 4 rfl rfl ?_) | (refine hS.hd 4 rfl rfl ?_) | (refine hS.hd0 5 rfl rfl ?_) | (refine hS.hd 5 rfl rfl ?_) | (refine hS.hd0 6 rfl rfl ?_) | (refine hS.hd 6 rfl rfl ?_) | (refine hS.hd0 7 rfl rfl ?_) | (refine hS.hd 7 rfl rfl ?_) | (refine hS.st0 0 rfl rfl rfl ?_; clear hS; intro _ hS) | (refine hS.st 0 rfl rfl rfl ?_; clear hS; intro _ hS) | (refine hS.st0 1 rfl rfl rfl ?_; clear hS; intro _ hS) | (refine hS.st 1 rfl rfl rfl ?_; clear hS; intro _ hS) | (refine hS.st0 2 rfl rfl rfl ?_; clear hS; intro _ hS) | (refine hS.st 2 rfl rfl rfl ?_; clear hS; intro _ hS) | (refine hS.st0 3 rfl rfl rfl ?_; clear hS; intro _ hS) | (refine hS.st 3 rfl rfl rfl ?_; clear hS; intro _ hS) | (refine hS.st0 4 rfl rfl rfl ?_; clear hS; intro _ hS) | (refine hS.st 4 rfl rfl rfl ?_; clear hS; intro _ hS) | (refine hS.st0 5 rfl rfl rfl ?_; clear hS; intro _ hS) | (refine hS.st 5 rfl rfl rfl ?_; clear hS; intro _ hS) | (refine hS.st0 6 rfl rfl rfl ?_; clear hS; intro _ hS) | (refine hS.st 6 rfl rfl rfl ?_; clear hS; intro _ hS) | (refine hS.st0 7 rfl rfl rfl ?_; clear hS; intro _ hS) | (refine hS.st 7 rfl rfl rfl ?_; clear hS; intro _ hS) | (refine bnd_mk (by decide) (by decide) ?_) | (refine so_i rfl ?_))
  refine cond_split (fun hs => ?_) (fun hs => ?_)
  · have hs' : ¬ (aget B id).isSome = true := by simpa using hs
    have e : gmoveE s B id b = 181 := by unfold gmoveE; rw [if_neg hs']
    exact lv_i (bad (by rw [e]; decide) 181 e _ hS.ext)
  have hs' : (aget B id).isSome = true := by simpa using hs
  have hE : gmoveE s B id b = cellsE s b := by unfold gmoveE; rw [if_pos hs']
  refine St.dw hS ?_
  clear hS h1 hlk
  intro w2 hS _
  have h2 := h.ext hS.ext fun _ _ hf => hf
  refine dr_i (ld_mk h2.ld0 (asI_i rfl ?_))
  repeat (first | (refine asI_i rfl ?_) | (refine asB_i rfl ?_) | (refine asP_i rfl ?_) | (refine asS_i rfl ?_) | (refine asY_i rfl ?_) | (refine asM_i rfl ?_) | (refine asA_i rfl rfl ?_) | (refine asT_i rfl rfl ?_) | (refine lv_i ?_) | (refine St.nw hS ?_; clear hS; intro _ _ hS) | (refine St.dw hS ?_; clear hS; intro _ hS _) | (refine hS.ld0 0 rfl rfl ?_) | (refine hS.ld 0 rfl rfl ?_) | (refine hS.ld0 1 rfl rfl ?_) | (refine hS.ld 1 rfl rfl ?_) | (refine hS.ld0 2 rfl rfl ?_) | (refine hS.ld 2 rfl rfl ?_) | (refine hS.ld0 3 rfl rfl ?_) | (refine hS.ld 3 rfl rfl ?_) | (refine hS.ld0 4 rfl rfl ?_) | (refine hS.ld 4 rfl rfl ?_) | (refine hS.ld0 5 rfl rfl ?_) | (refine hS.ld 5 rfl rfl ?_) | (refine hS.ld0 6 rfl rfl ?_) | (refine hS.ld 6 rfl rfl ?_) | (refine hS.ld0 7 rfl rfl ?_) | (refine hS.ld 7 rfl rfl ?_) | (refine hS.hd0 0 rfl rfl ?_) | (refine hS.hd 0 rfl rfl ?_) | (refine hS.hd0 1 rfl rfl ?_) | (refine hS.hd 1 rfl rfl ?_) | (refine hS.hd0 2 rfl rfl ?_) | (refine hS.hd 2 rfl rfl ?_) | (refine hS.hd0 3 rfl rfl ?_) | (refine hS.hd 3 rfl rfl ?_) | (refine hS.hd0 4 rfl rfl ?_) | (refine hS.hd 4 rfl rfl ?_) | (refine hS.hd0 5 rfl rfl ?_) | (refine hS.hd 5 rfl rfl ?_) | (refine hS.hd0 6 rfl rfl ?_) | (refine hS.hd 6 rfl rfl ?_) | (refine hS.hd0 7 rfl rfl ?_) | (refine hS.hd 7 rfl rfl ?_) | (refine hS.st0 0 rfl rfl rfl ?_; clear hS; intro _ hS) | (refine hS.st 0 rfl rfl rfl ?_; clear hS; intro _ hS) | (refine hS.st0 1 rfl rfl rfl ?_; clear hS; intro _ hS) | (refine hS.st 1 rfl rfl rfl ?_; clear hS; intro _ hS) | (refine hS.st0 2 rfl rfl rfl ?_; clear hS; intro _ hS) | (refine hS.st 2 rfl rfl rfl ?_; clear hS; intro _ hS) | (refine hS.st0 3 rfl rfl rfl ?_; clear hS; intro _ hS) | (refine hS.st 3 rfl rfl rfl ?_; clear hS; intro _ hS) | (refine hS.st0 4 rfl rfl rfl ?_; clear hS; intro _ hS) | (refine hS.st 4 rfl rfl rfl ?_; clear hS; intro _ hS) | (refine hS.st0 5 rfl rfl rfl ?_; clear hS; intro _ hS) | (refine hS.st 5 rfl rfl rfl ?_; clear hS; intro _ hS) | (refine hS.st0 6 rfl rfl rfl ?_; clear hS; intro _ hS) | (refine hS.st 6 rfl rfl rfl ?_; clear hS; intro _ hS) | (refine hS.st0 7 rfl rfl rfl ?_; clear hS; intro _ hS) | (refine hS.st 7 rfl rfl rfl ?_; clear hS; intro _ hS) | (refine bnd_mk (by decide) (by decide) ?_) | (refine so_i rfl ?_))
  show cl Try.prog 24 #[.int .i64 s, b.v] w2 _
  refine cells_k ?_
  intro p c w3 hx3 hrow3
  have hS3 := hS.to hx3
  have h3 := h2.ext hx3 fun _ _ hf => hf
  refine asT_i rfl rfl (asS_i rfl (asI_i rfl (lv_i (cond_split (fun h0 => ?_) (fun h0 => ?_)))))
  · have hne : cellsE s b ≠ 0 := by simpa using h0
    exact lv_i (bad (by rw [hE]; exact hne) _ hE _ hS3.ext)
  · have h00 : cellsE s b = 0 := by simpa using h0
    have hl := @cells_len s b
    have hpF : ∀ a, p = some a → ¬ F a.block := fun a ha hf => by
      have := h2.lt _ hf
      have := (hrow3.at ha).1
      omega
    refine gdrop_k h3 (fun x => by have := hlen x; omega) ?_
    intro w4 C4 bb4 kb4 bc4 kc4 h4 hpl4 hx4
    have hkn := hS3.kn (r1, b.cells, 25) (List.mem_cons_of_mem _ List.mem_cons_self)
    have hr1F : ¬ F r1 := fun hf => by
      have := h.lt r1 hf
      have := hkn.2
      simp only at this
      omega
    have hb4 : w4.heap[r1]? = some (.cells b.cells.toArray 25 (0, 0)) := hx4.blk hkn.1 hr1F
    have c0 : w4.cell? ⟨r1, 0, none⟩ = some (.int .i64 b.x) := by rw [blk_cell hb4]; rfl
    have c1 : w4.cell? (Addr.add ⟨r1, 0, none⟩ 1) = some (.int .i64 b.y) := by rw [add_mk, blk_cell hb4]; rfl
    have c2 : w4.cell? (Addr.add ⟨r1, 0, none⟩ 2) = some (.int .i64 b.r) := by rw [add_mk, blk_cell hb4]; rfl
    refine ld_mk c0 (asI_i rfl (ld_mk c1 (asI_i rfl (ld_mk c2 (asI_i rfl ?_)))))
    show cl Try.prog 52 #[.pointer (some ⟨g, 0, none⟩), .int .i64 id, b.v, .slice p (cellsL' s b).length c] w4 _
    refine gput_k h4 (hrow3.reads.ext hx4 hpF) rfl (by omega) cells_okc hpF (fun x => ?_) ?_
    · rw [hpl4]
      have := dropL_len (l := cellsL' s (boxAt B id)) (id := id) (pl_nd h.nd) x
      have := hlen x
      omega
    intro w5 F' C' bb' kb' bc' kc' h5 hpl hx5 hF1 hF2
    have hE0 : gmoveE s B id b = 0 := by rw [hE, h00]
    have := hK w5 F' C' bb' kb' bc' kc' (by unfold gmoveB; rw [if_pos hE0]; exact h5) (by unfold gmoveD; rw [if_pos hE0, ← hpl4]; exact hpl) (((Ext.of_no hS3.ext).trans hx4).trans hx5) (fun k hk => by
      have := hS3.ext.size
      have := hx4.size
      rcases hF1 k hk with h | h
      · exact .inl h
      · exact .inr (by omega)) hF2
    rw [hE0] at this
    exact lv_i this

def gdropE (B : List (Int × Bx)) (id : Int) : Int := if (aget B id).isSome = true then 0 else 181
def gdropB (B : List (Int × Bx)) (id : Int) : List (Int × Bx) := if gdropE B id = 0 then adel B id else B
def gdropD (s : Int) (B : List (Int × Bx)) (D : List ((Int × Int) × List Int)) (id : Int) : List ((Int × Int) × List Int) :=
  if gdropE B id = 0 then dropL D (cellsL' s (boxAt B id)) id else D

theorem gDrop_k {w : World} {F : Nat → Prop} {g mb mc : Nat} {s : Int} {B : List (Int × Bx)} {C : List ((Int × Int) × CellV)} {bb : List Nat} {kb : Nat} {bc : List Nat} {kc : Nat}
    (h : Gr w F g mb mc s B C bb kb bc kc) {id : Int} (hlen : ∀ x, ((aget (pl C) x).getD []).length ≤ 1099511627776) {K : Value → World → Prop}
    (hK : ∀ w' C' bb' kb' bc' kc', Gr w' F g mb mc s (gdropB B id) C' bb' kb' bc' kc' → pl C' = gdropD s B (pl C) id → Ext F w w' → K (.int .i64 (gdropE B id)) w') :
    cl Try.prog 36 #[.pointer (some ⟨g, 0, none⟩), .int .i64 id] w K := by
  apply F36_calls
  unfold F36
  refine lv_i (dr_i (ld_mk h.ld1 (asM_i rfl ?_)))
  have hlk := h.bm.lookup_ok keyI und_mb zero_box id ⟨trivial, fun _ _ => trivial⟩
  have e1 : (Option.map Bx.v (aget B id)).getD (Bx.v ⟨0, 0, 0⟩) = (boxAt B id).v := by unfold boxAt; cases aget B id <;> rfl
  rw [e1] at hlk
  refine rq_mk hlk (asT_i (l := [(boxAt B id).v, .bool (aget B id).isSome]) rfl rfl (asA_i (l := (boxAt B id).cells) rfl rfl ?_))
  have hS := St.start w
  repeat (first | (refine asI_i rfl ?_) | (refine asB_i rfl ?_) | (refine asP_i rfl ?_) | (refine asS_i rfl ?_) | (refine asY_i rfl ?_) | (refine asM_i rfl ?_) | (refine asA_i rfl rfl ?_) | (refine asT_i rfl rfl ?_) | (refine lv_i ?_) | (refine St.nw hS ?_; clear hS; intro _ _ hS) | (refine St.dw hS ?_; clear hS; intro _ hS _) | (refine hS.ld0 0 rfl rfl ?_) | (refine hS.ld 0 rfl rfl ?_) | (refine hS.ld0 1 rfl rfl ?_) | (refine hS.ld 1 rfl rfl ?_) | (refine hS.ld0 2 rfl rfl ?_) | (refine hS.ld 2 rfl rfl ?_) | (refine hS.ld0 3 rfl rfl ?_) | (refine hS.ld 3 rfl rfl ?_) | (refine hS.ld0 4 rfl rfl ?_) | (refine hS.ld 4 rfl rfl ?_) | (refine hS.ld0 5 rfl rfl ?_) | (refine hS.ld 5 rfl rfl ?_) | (refine hS.ld0 6 rfl rfl ?_) | (refine hS.ld 6 rfl rfl ?_) | (refine hS.ld0 7 rfl rfl ?_) | (refine hS.ld 7 rfl rfl ?_) | (refine hS.hd0 0 rfl rfl ?_) | (refine hS.hd 0 rfl rfl ?_) | (refine hS.hd0 1 rfl rfl ?_) | (refine hS.hd 1 rfl rfl ?_) | (refine hS.hd0 2 rfl rfl ?_) | (refine hS.hd 2 rfl rfl ?_) | (refine hS.hd0 3 rfl rfl ?_) | (refine hS.hd 3 rfl rfl ?_) | (refine hS.hd0 4 rfl rfl ?_) | (refine hS.hd 4 rfl rfl ?_) | (refine hS.hd0 5 rfl rfl ?_) | (refine hS.hd 5 rfl rfl ?_) | (refine hS.hd0 6 rfl rfl ?_) | (refine hS.hd 6 rfl rfl ?_) | (refine hS.hd0 7 rfl rfl ?_) | (refine hS.hd 7 rfl rfl ?_) | (refine hS.st0 0 rfl rfl rfl ?_; clear hS; intro _ hS) | (refine hS.st 0 rfl rfl rfl ?_; clear hS; intro _ hS) | (refine hS.st0 1 rfl rfl rfl ?_; clear hS; intro _ hS) | (refine hS.st 1 rfl rfl rfl ?_; clear hS; intro _ hS) | (refine hS.st0 2 rfl rfl rfl ?_; clear hS; intro _ hS) | (refine hS.st 2 rfl rfl rfl ?_; clear hS; intro _ hS) | (refine hS.st0 3 rfl rfl rfl ?_; clear hS; intro _ hS) | (refine hS.st 3 rfl rfl rfl ?_; clear hS; intro _ hS) | (refine hS.st0 4 rfl rfl rfl ?_; clear hS; intro _ hS) | (refine hS.st 4 rfl rfl rfl ?_; clear hS; intro _ hS) | (refine hS.st0 5 rfl rfl rfl ?_; clear hS; intro _ hS) | (refine hS.st 5 rfl rfl rfl ?_; clear hS; intro _ hS) | (refine hS.st0 6 rfl rfl rfl ?_; clear hS; intro _ hS) | (refine hS.st 6 rfl rfl rfl ?_; clear hS; intro _ hS) | (refine hS.st0 7 rfl rfl rfl ?_; clear hS; intro _ hS) | (refine hS.st 7 rfl rfl rfl ?_; clear hS; intro _ hS) | (refine bnd_mk (by decide) (by decide) ?_) | (refine so_i rfl ?_))
  have h1 := h.ext hS.ext fun _ _ hf => hf
  refine cond_split (fun hs => ?_) (fun hs => ?_)
  · have hs' : ¬ (aget B id).isSome = true := by simpa using hs
    have e : gdropE B id = 181 := by unfold gdropE; rw [if_neg hs']
    have := hK _ C bb kb bc kc (by unfold gdropB; rw [if_neg (by rw [e]; decide)]; exact h1) (by unfold gdropD; rw [if_neg (by rw [e]; decide)]) (Ext.of_no hS.ext)
    rw [e] at this
    exact lv_i this
  · have hs' : (aget B id).isSome = true := by simpa using hs
    have e : gdropE B id = 0 := by unfold gdropE; rw [if_pos hs']
    refine gdrop_k h1 hlen ?_
    intro w2 C2 bb2 kb2 bc2 kc2 h2 hpl hx2
    have := hK w2 C2 bb2 kb2 bc2 kc2 (by unfold gdropB; rw [if_pos e]; exact h2) (by unfold gdropD; rw [if_pos e]; exact hpl) ((Ext.of_no hS.ext).trans hx2)
    rw [e] at this
    exact lv_i this
end Go.Proofs.Ytamobmjfdiecbaa
