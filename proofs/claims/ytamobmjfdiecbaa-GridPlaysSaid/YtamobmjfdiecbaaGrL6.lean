/- GrL6: the law GridPlays comes out true for every input. Conditions: those of the law's arguments as they are read. -/
import Derived.Test.YtamobmjfdiecbaaGrX
import Derived.Test.YtamobmjfdiecbaaFl
import Derived.Test.YtamobmjfdiecbaaOpS
namespace Go.Proofs.Ytamobmjfdiecbaa
open Go Go.Sx Go.Fp
attribute [local irreducible] jn lv ld st nw asI asB asP asS asY asM asF asA asT lp rn ru rq cl dw dr bnd bn2 nz nn hd hr so eqW
attribute [local irreducible] callOk

structure G4 (W w : World) (L : List (Nat × List Value × TypeId)) (s : Int) (g : Nat) (B : List (Int × Bx)) (D : List ((Int × Int) × List Int)) (N : Nat) (x : Nat) (A : List (Int × Bx)) : Prop where
  st : St W w L
  gr : ∃ F F' p c q c', G1 w F g s B D N ∧ R1 w F' x s A p c q c' ∧ (∀ k, F k → ¬ F' k) ∧ ∀ k, (F k ∨ F' k) → W.heap.size ≤ k ∧ ∀ b ∈ L, b.1 ≠ k

section
variable {W w : World} {L : List (Nat × List Value × TypeId)} {s : Int} {g x : Nat} {B : List (Int × Bx)} {D : List ((Int × Int) × List Int)} {N : Nat} {A : List (Int × Bx)}

theorem G4.to (h : G4 W w L s g B D N x A) {w' : World} (hx : Ext no w w') : G4 W w' L s g B D N x A := by
  obtain ⟨F, F', p, c, q, c', h1, h2, h3, h4⟩ := h.gr
  exact ⟨h.st.to hx, F, F', p, c, q, c', h1.ext hx fun _ _ h => h, h2.no hx, h3, h4⟩
theorem G4.mono (h : G4 W w L s g B D N x A) {M : Nat} (hM : N ≤ M) : G4 W w L s g B D M x A := by
  obtain ⟨F, F', p, c, q, c', ⟨mb, mc, C, bb, kb, bc, kc, h1, h5, h6, h7⟩, h2, h3, h4⟩ := h.gr
  exact ⟨h.st, F, F', p, c, q, c', ⟨mb, mc, C, bb, kb, bc, kc, h1, h5, fun x => Nat.le_trans (h6 x) hM, h7⟩, h2, h3, h4⟩
theorem G4.nd (h : G4 W w L s g B D N x A) : (B.map (·.1)).Nodup ∧ (D.map (·.1)).Nodup ∧ ∀ x, ((aget D x).getD []).length ≤ N := by
  obtain ⟨F, F', p, c, q, c', ⟨mb, mc, C, bb, kb, bc, kc, h1, rfl, h6, h7⟩, h2, h3, h4⟩ := h.gr
  exact ⟨h7, pl_nd h1.nd, h6⟩
theorem G4.nw (h : G4 W w L s g B D N x A) {cs : List Value} {t : TypeId} {K : Nat → World → Prop} (hK : ∀ b w', G4 W w' ((b, cs, t) :: L) s g B D N x A → K b w') : nw w (.cells cs.toArray t) K := by
  obtain ⟨F, F', p, c, q, c', h1, h2, h3, h4⟩ := h.gr
  have hx := Ext.alloc w (.cells cs.toArray t)
  refine nw_mk (hK _ _ ⟨h.st.alloc cs t, F, F', p, c, q, c', h1.ext hx fun _ _ h => h, h2.no hx, h3, fun k hk => ⟨(h4 k hk).1, fun b hb => ?_⟩⟩)
  rcases List.mem_cons.1 hb with rfl | hb
  · have : k < w.heap.size := by
      rcases hk with hk | hk
      · exact h1.lt k hk
      · exact h2.lt k hk
    simp only
    omega
  · exact (h4 k hk).2 b hb
theorem G4.tail {y : Nat × List Value × TypeId} (h : G4 W w (y :: L) s g B D N x A) : G4 W w L s g B D N x A := by
  obtain ⟨F, F', p, c, q, c', h1, h2, h3, h4⟩ := h.gr
  exact ⟨h.st.tail, F, F', p, c, q, c', h1, h2, h3, fun k hk => ⟨(h4 k hk).1, fun b hb => (h4 k hk).2 b (List.mem_cons_of_mem _ hb)⟩⟩

theorem G4.step1 {F F' : Nat → Prop} {p : Option Addr} {c : Nat} {q : Option Addr} {c' : Nat} (hs : St W w L) (h1 : G1 w F g s B D N) (h2 : R1 w F' x s A p c q c') (h3 : ∀ k, F k → ¬ F' k) (h4 : ∀ k, (F k ∨ F' k) → W.heap.size ≤ k ∧ ∀ b ∈ L, b.1 ≠ k)
    {w' : World} {F2 : Nat → Prop} {B2 : List (Int × Bx)} {D2 : List ((Int × Int) × List Int)} {N2 : Nat} (hg : G1 w' F2 g s B2 D2 N2) (hx : Ext F w w') (hF : ∀ k, F2 k → F k ∨ w.heap.size ≤ k) : G4 W w' L s g B2 D2 N2 x A := by
  refine ⟨hs.toX hx (fun k hk => (h4 k (.inl hk)).1) (fun b hb hk => (h4 _ (.inl hk)).2 b hb rfl), F2, F', p, c, q, c', hg, h2.ext hx fun k hk hk' => h3 k hk' hk, fun k hk hk' => ?_, fun k hk => ?_⟩
  · rcases hF k hk with hk2 | hk2
    · exact h3 k hk2 hk'
    · have := h2.lt k hk'
      omega
  · rcases hk with hk | hk
    · rcases hF k hk with hk2 | hk2
      · exact h4 k (.inl hk2)
      · have := hs.ext.size
        refine ⟨by omega, fun b hb => ?_⟩
        have := blk_lt (hs.kn b hb).1
        omega
    · exact h4 k (.inr hk)
theorem G4.step2 {F F' : Nat → Prop} {p : Option Addr} {c : Nat} {q : Option Addr} {c' : Nat} (hs : St W w L) (h1 : G1 w F g s B D N) (h2 : R1 w F' x s A p c q c') (h3 : ∀ k, F k → ¬ F' k) (h4 : ∀ k, (F k ∨ F' k) → W.heap.size ≤ k ∧ ∀ b ∈ L, b.1 ≠ k)
    {w' : World} {F2 : Nat → Prop} {A2 : List (Int × Bx)} {p2 : Option Addr} {c2 : Nat} {q2 : Option Addr} {d2 : Nat} (hr : R1 w' F2 x s A2 p2 c2 q2 d2) (hx : Ext F' w w') (hF : ∀ k, F2 k → F' k ∨ w.heap.size ≤ k) : G4 W w' L s g B D N x A2 := by
  refine ⟨hs.toX hx (fun k hk => (h4 k (.inr hk)).1) (fun b hb hk => (h4 _ (.inr hk)).2 b hb rfl), F, F2, p2, c2, q2, d2, h1.ext hx fun k hk hk' => h3 k hk hk', hr, fun k hk hk' => ?_, fun k hk => ?_⟩
  · rcases hF k hk' with hk2 | hk2
    · exact h3 k hk hk2
    · have := h1.lt k hk
      omega
  · rcases hk with hk | hk
    · exact h4 k (.inl hk)
    · rcases hF k hk with hk2 | hk2
      · exact h4 k (.inr hk2)
      · have := hs.ext.size
        refine ⟨by omega, fun b hb => ?_⟩
        have := blk_lt (hs.kn b hb).1
        omega

theorem G4.put (h : G4 W w L s g B D N x A) (hN : N ≤ 549755813888) {id : Int} {b : Bx} {K : Value → World → Prop}
    (hK : ∀ w', G4 W w' L s g (gputB s B id b) (gputD s B D id b) (N + 1024) x A → K (.int .i64 (gputE s B id b)) w') :
    cl Try.prog 30 #[.pointer (some ⟨g, 0, none⟩), .int .i64 id, b.v] w K := by
  obtain ⟨F, F', p, c, q, c', h1, h2, h3, h4⟩ := h.gr
  have h1' := h1
  obtain ⟨mb, mc, C, bb, kb, bc, kc, hg, rfl, hl, hn⟩ := h1
  refine gPut_k hg (fun x => by have := hl x; omega) fun w' F2 C' bb' kb' bc' kc' hg' hp hx hF _ => hK w' ?_
  exact G4.step1 h.st h1' h2 h3 h4 ⟨mb, mc, C', bb', kb', bc', kc', hg', hp, fun x => Nat.le_trans (gputD_len x) (by have := hl x; omega), nd_put hn⟩ hx hF
theorem G4.move (h : G4 W w L s g B D N x A) (hN : N ≤ 549755813888) {id : Int} {b : Bx} {K : Value → World → Prop}
    (hK : ∀ w', G4 W w' L s g (gmoveB s B id b) (gmoveD s B D id b) (N + 1024) x A → K (.int .i64 (gmoveE s B id b)) w') :
    cl Try.prog 35 #[.pointer (some ⟨g, 0, none⟩), .int .i64 id, b.v] w K := by
  obtain ⟨F, F', p, c, q, c', h1, h2, h3, h4⟩ := h.gr
  have h1' := h1
  obtain ⟨mb, mc, C, bb, kb, bc, kc, hg, rfl, hl, hn⟩ := h1
  refine gMove_k hg (fun x => by have := hl x; omega) fun w' F2 C' bb' kb' bc' kc' hg' hp hx hF _ => hK w' ?_
  exact G4.step1 h.st h1' h2 h3 h4 ⟨mb, mc, C', bb', kb', bc', kc', hg', hp, fun x => Nat.le_trans (gmoveD_len (pl_nd hg.nd) x) (by have := hl x; omega), nd_move hn⟩ hx hF
theorem G4.drop (h : G4 W w L s g B D N x A) (hN : N ≤ 549755813888) {id : Int} {K : Value → World → Prop}
    (hK : ∀ w', G4 W w' L s g (gdropB B id) (gdropD s B D id) N x A → K (.int .i64 (gdropE B id)) w') :
    cl Try.prog 36 #[.pointer (some ⟨g, 0, none⟩), .int .i64 id] w K := by
  obtain ⟨F, F', p, c, q, c', h1, h2, h3, h4⟩ := h.gr
  have h1' := h1
  obtain ⟨mb, mc, C, bb, kb, bc, kc, hg, rfl, hl, hn⟩ := h1
  refine gDrop_k hg (fun x => by have := hl x; omega) fun w' C' bb' kb' bc' kc' hg' hp hx => hK w' ?_
  exact G4.step1 h.st h1' h2 h3 h4 ⟨mb, mc, C', bb', kb', bc', kc', hg', hp, fun x => Nat.le_trans (gdropD_len (pl_nd hg.nd) x) (hl x), nd_drop hn⟩ hx fun k hk => .inl hk
theorem G4.count (h : G4 W w L s g B D N x A) {K : Value → World → Prop} (hK : K (.int .i64 (B.length : Int)) w) :
    cl Try.prog 34 #[.pointer (some ⟨g, 0, none⟩)] w K := by
  obtain ⟨F, F', p, c, q, c', h1, h2, h3, h4⟩ := h.gr
  obtain ⟨mb, mc, C, bb, kb, bc, kc, hg, rfl, hl, hn⟩ := h1
  apply F34_calls
  unfold F34
  refine lv_i (dr_i (ld_mk hg.ld1 (asM_i rfl (rq_mk (hg.bm.len_run und_mb) (asI_i rfl (lv_i hK))))))
theorem G4.near (h : G4 W w L s g B D N x A) (hN : N ≤ 1000000000) {b : Bx} (hI : ∀ x ∈ metL B D b (cellsL' s b), I64 x.1) {K : Value → World → Prop}
    (hK : ∀ p c w', Ext no w w' → Row w' w.heap.size 3 p c (iv .i64 (gnearV s B D b)) → K (.tuple #[.slice p (gnearV s B D b).length c, .int .i64 (cellsE s b)]) w') :
    cl Try.prog 31 #[.pointer (some ⟨g, 0, none⟩), b.v] w K := by
  obtain ⟨F, F', p, c, q, c', h1, h2, h3, h4⟩ := h.gr
  obtain ⟨mb, mc, C, bb, kb, bc, kc, hg, rfl, hl, hn⟩ := h1
  have hml := metL_len (B := B) (b := b) hl (cellsL' s b)
  have hcl := cells_len (s := s) (b := b)
  have hmul : (cellsL' s b).length * N ≤ 1024 * 1000000000 := Nat.mul_le_mul hcl hN
  exact gNear_k hg hI (by omega) (fun x => by have := hl x; omega) hK

theorem G4.rput (h : G4 W w L s g B D N x A) (hm : A.length ≤ 100000) {id : Int} {b : Bx} {K : Value → World → Prop}
    (hK : ∀ w', G4 W w' L s g B D N x (rputA s A id b) → K (.int .i64 (rputE s A id b)) w') :
    cl Try.prog 55 #[.pointer (some ⟨x, 0, none⟩), .int .i64 id, b.v] w K := by
  obtain ⟨F, F', p, c, q, c', h1, h2, h3, h4⟩ := h.gr
  exact rPut_k h2 hm fun w' F2 p' c1 q' c2 hr hx hF => hK w' (G4.step2 h.st h1 h2 h3 h4 hr hx hF)
theorem G4.rmove (h : G4 W w L s g B D N x A) (hm : A.length ≤ 100000) {id : Int} {b : Bx} {K : Value → World → Prop}
    (hK : ∀ w', G4 W w' L s g B D N x (rmoveA s A id b) → K (.int .i64 (rmoveE s A id b)) w') :
    cl Try.prog 56 #[.pointer (some ⟨x, 0, none⟩), .int .i64 id, b.v] w K := by
  obtain ⟨F, F', p, c, q, c', h1, h2, h3, h4⟩ := h.gr
  exact rMove_k h2 hm fun w' hr hx => hK w' (G4.step2 h.st h1 h2 h3 h4 hr hx fun k hk => .inl hk)
theorem G4.rdrop (h : G4 W w L s g B D N x A) (hm : A.length ≤ 100000) {id : Int} {K : Value → World → Prop}
    (hK : ∀ w', G4 W w' L s g B D N x (rdropA A id) → K (.int .i64 (rdropE A id)) w') :
    cl Try.prog 57 #[.pointer (some ⟨x, 0, none⟩), .int .i64 id] w K := by
  obtain ⟨F, F', p, c, q, c', h1, h2, h3, h4⟩ := h.gr
  exact rDrop_k h2 hm fun w' F2 p' c1 q' c2 hr hx hF => hK w' (G4.step2 h.st h1 h2 h3 h4 hr hx hF)
theorem G4.rnear (h : G4 W w L s g B D N x A) (hm : A.length ≤ 100000) {b : Bx} {K : Value → World → Prop}
    (hK : ∀ p0 c0 w', Ext no w w' → Row w' w.heap.size 3 p0 c0 (iv .i64 (rnearV s A b)) → K (.tuple #[.slice p0 (rnearV s A b).length c0, .int .i64 (cellsE s b)]) w') :
    cl Try.prog 58 #[.pointer (some ⟨x, 0, none⟩), b.v] w K := by
  obtain ⟨F, F', p, c, q, c', h1, h2, h3, h4⟩ := h.gr
  exact rNear_k h2 hm hK
theorem G4.ids (h : G4 W w L s g B D N x A) : ∃ p c, w.cell? (Addr.add ⟨x, 0, none⟩ 1) = some (.slice p A.length c) := by
  obtain ⟨F, F', p, c, q, c', h1, h2, h3, h4⟩ := h.gr
  exact ⟨p, c, h2.ld1⟩
end

theorem rputA_len {s : Int} {A : List (Int × Bx)} {id : Int} {b : Bx} : (rputA s A id b).length ≤ A.length + 1 := by
  unfold rputA
  split
  · rw [insA_length (pos_le _ _)]; exact Nat.le_refl _
  · omega
theorem rmoveA_len {s : Int} {A : List (Int × Bx)} {id : Int} {b : Bx} : (rmoveA s A id b).length ≤ A.length + 1 := by
  unfold rmoveA
  split
  · rw [List.length_set]; omega
  · omega
theorem rdropA_len {A : List (Int × Bx)} {id : Int} : (rdropA A id).length ≤ A.length + 1 := by
  unfold rdropA remA
  split
  · rw [List.length_append, List.length_take, List.length_drop]; omega
  · omega

def KI (B : List (Int × Bx)) : Prop := ∀ y b, aget B y = some b → I64 y

set_option maxHeartbeats 2000000 in
theorem does_k {W w : World} {s : Int} {g x : Nat} {B : List (Int × Bx)} {D : List ((Int × Int) × List Int)} {N : Nat} {A : List (Int × Bx)} (h : G4 W w [] s g B D N x A) (hS : Same s B D A) (hk : KI B) (hN : N ≤ 1000000) (hA : A.length ≤ 1000) {d id : Int} {b : Bx} (hid : I64 id) {K : Value → World → Prop}
    (hK : ∀ w' B' D' A', G4 W w' [] s g B' D' (N + 1024) x A' → Same s B' D' A' → KI B' → A'.length ≤ A.length + 1 → K (.bool true) w') :
    cl Try.prog 33 #[.pointer (some ⟨g, 0, none⟩), .pointer (some ⟨x, 0, none⟩), .agg #[.int .i64 d, .int .i64 id, .int .i64 b.x, .int .i64 b.y, .int .i64 b.r]] w K := by
  apply F33_calls
  unfold F33
  refine h.nw (cs := [.int .i64 d, .int .i64 id, .int .i64 b.x, .int .i64 b.y, .int .i64 b.r]) fun r1 w1 h => ?_
  have cB : ∀ {w' : World} {B' : List (Int × Bx)} {D' : List ((Int × Int) × List Int)} {N' : Nat} {A' : List (Int × Bx)}, G4 W w' [(r1, [.int .i64 d, .int .i64 id, .int .i64 b.x, .int .i64 b.y, .int .i64 b.r], 80)] s g B' D' N' x A' → ∀ k v, [Value.int .i64 d, .int .i64 id, .int .i64 b.x, .int .i64 b.y, .int .i64 b.r][k]? = some v → w'.cell? ⟨r1, k, none⟩ = some v := by
    intro w' B' D' N' A' h k v hv
    rw [blk_cell (h.st.kn _ List.mem_cons_self).1]
    simpa using hv
  have c1 : Addr.add ⟨r1, 0, none⟩ 1 = (⟨r1, 1, none⟩ : Addr) := by rw [add_mk]
  have c2 : Addr.add ⟨r1, 0, none⟩ 2 = (⟨r1, 2, none⟩ : Addr) := by rw [add_mk]
  have c3 : Addr.add ⟨r1, 2, none⟩ 1 = (⟨r1, 3, none⟩ : Addr) := by rw [add_mk]
  have c4 : Addr.add ⟨r1, 2, none⟩ 2 = (⟨r1, 4, none⟩ : Addr) := by rw [add_mk]
  rw [c1, c2, c3, c4]
  have hnd := h.nd
  refine ld_mk (cB h 0 _ rfl) (asI_i rfl (cond_split (fun _ => ?_) (fun _ => cond_split (fun _ => ?_) (fun _ => cond_split (fun _ => ?_) (fun _ => cond_split (fun _ => ?_) (fun _ => ?_))))))
  · refine dw_mk ?_
    replace h := h.to (Ext.drew w1)
    refine ld_mk (cB h 1 _ rfl) (asI_i rfl (ld_mk (cB h 2 _ rfl) (asI_i rfl (ld_mk (cB h 3 _ rfl) (asI_i rfl (ld_mk (cB h 4 _ rfl) (asI_i rfl (ld_mk (cB h 1 _ rfl) (asI_i rfl (ld_mk (cB h 2 _ rfl) (asI_i rfl (ld_mk (cB h 3 _ rfl) (asI_i rfl (ld_mk (cB h 4 _ rfl) (asI_i rfl ?_)))))))))))))))
    refine h.put (by omega) (b := b) fun w2 h => asI_i rfl ?_
    refine hd_i (cB h 2 _ rfl) (hd_i (cB h 3 _ rfl) (hd_i (cB h 4 _ rfl) (hd_i (cB h 1 _ rfl) ?_)))
    refine h.rput (by omega) (b := b) fun w3 h => asI_i rfl ?_
    rw [hS.putE, show (gputE s B id b == gputE s B id b) = true from by simp]
    refine hK w3 _ _ _ h.tail (hS.put id b) (fun y b' hy => ?_) rputA_len
    rw [get_put] at hy
    split at hy
    · rename_i hh; rw [hh.2]; exact hid
    · exact hk y b' hy
  · refine dw_mk ?_
    replace h := h.to (Ext.drew w1)
    refine ld_mk (cB h 1 _ rfl) (asI_i rfl (ld_mk (cB h 2 _ rfl) (asI_i rfl (ld_mk (cB h 3 _ rfl) (asI_i rfl (ld_mk (cB h 4 _ rfl) (asI_i rfl (ld_mk (cB h 1 _ rfl) (asI_i rfl (ld_mk (cB h 2 _ rfl) (asI_i rfl (ld_mk (cB h 3 _ rfl) (asI_i rfl (ld_mk (cB h 4 _ rfl) (asI_i rfl ?_)))))))))))))))
    refine h.move (by omega) (b := b) fun w2 h => asI_i rfl ?_
    refine hd_i (cB h 2 _ rfl) (hd_i (cB h 3 _ rfl) (hd_i (cB h 4 _ rfl) (hd_i (cB h 1 _ rfl) ?_)))
    refine h.rmove (by omega) (b := b) fun w3 h => asI_i rfl ?_
    rw [hS.moveE, show (gmoveE s B id b == gmoveE s B id b) = true from by simp]
    refine hK w3 _ _ _ h.tail (hS.move hnd.1 hnd.2.1 id b) (fun y b' hy => ?_) rmoveA_len
    rw [get_move hnd.1] at hy
    split at hy
    · rename_i hh; rw [hh.2]; exact hid
    · exact hk y b' hy
  · refine dw_mk ?_
    replace h := h.to (Ext.drew w1)
    refine ld_mk (cB h 1 _ rfl) (asI_i rfl (ld_mk (cB h 1 _ rfl) (asI_i rfl ?_)))
    refine h.drop (by omega) fun w2 h => asI_i rfl ?_
    refine hd_i (cB h 1 _ rfl) ?_
    refine h.rdrop (by omega) fun w3 h => asI_i rfl ?_
    rw [hS.dropE, show (gdropE B id == gdropE B id) = true from by simp]
    refine hK w3 _ _ _ (h.tail.mono (by omega)) (hS.drop hnd.1 hnd.2.1 id) (fun y b' hy => ?_) rdropA_len
    rw [get_drop hnd.1] at hy
    split at hy
    · cases hy
    · exact hk y b' hy
  · refine ld_mk (cB h 2 _ rfl) (asI_i rfl (ld_mk (cB h 3 _ rfl) (asI_i rfl (ld_mk (cB h 4 _ rfl) (asI_i rfl ?_)))))
    have hkI : ∀ y ∈ metL B D b (cellsL' s b), I64 y.1 := fun y hy => by
      obtain ⟨⟨c, _, h2⟩, _⟩ := mem_metL.1 (List.mem_map.2 ⟨y, hy, rfl⟩)
      obtain ⟨b', h3, _⟩ := (hS.cons.cell c y.1).1 h2
      exact hk y.1 b' h3
    refine h.near (by omega) (b := b) hkI fun p c w2 hx2 hr2 => asT_i rfl rfl (asS_i rfl (asI_i rfl (lv_i ?_)))
    have h2 := h.to hx2
    refine ld_mk (cB h2 2 _ rfl) (asI_i rfl (ld_mk (cB h2 3 _ rfl) (asI_i rfl (ld_mk (cB h2 4 _ rfl) (asI_i rfl ?_)))))
    refine h2.rnear (by omega) (b := b) fun q c' w3 hx3 hr3 => asT_i rfl rfl (asS_i rfl (asI_i rfl (lv_i ?_)))
    have hlen : (gnearV s B D b).length ≤ 10000000000 := by
      unfold gnearV
      rw [List.length_mergeSort, List.length_map]
      have h1 := metL_len (B := B) (b := b) hnd.2.2 (cellsL' s b)
      have h2 : (cellsL' s b).length * N ≤ 1024 * 1000000 := Nat.mul_le_mul cells_len hN
      omega
    have hl0 := fun a ha => (hr2.at (a := a) ha)
    rw [← hS.near b] at hr3 ⊢
    have hap : Apart q p := fun a1 a2 h1 h2 e => by
      have := (hr3.at h1).1
      have := (hl0 a2 h2).2
      omega
    refine row_k (hr2.ext hx3 fun _ _ h => h) hr3.reads hap hlen fun w4 hx4 => asB_i rfl ?_
    have hx14 : Ext no w1 w4 := (hx2.trans hx3).then hx4 fun k hk ⟨a, ha, hab⟩ => by
      have := (hl0 a ha).1
      omega
    have h4 := h.to hx14
    refine jn_of (fun t w' => t = [.bool true] ∧ w' = w4) ?_ ?_
    · rintro _ w4 ⟨rfl, rfl⟩
      exact asB_i rfl (hK w4 B D A (h4.tail.mono (by omega)) hS hk (by omega))
    · intro J hJ
      refine cond_t rfl (hJ _ _ ⟨?_, rfl⟩)
      simp
  · exact hK w1 B D A (h.tail.mono (by omega)) hS hk (by omega)

structure Ac where
  d : Int
  id : Int
  b : Bx
def Ac.cells (a : Ac) : List Value := [.int .i64 a.d, .int .i64 a.id, .int .i64 a.b.x, .int .i64 a.b.y, .int .i64 a.b.r]
theorem acs_of : ∀ {R : List (List Value)}, (∀ c ∈ R, FitsAll [.int .i64, .int .i64, .int .i64, .int .i64, .int .i64] c) → ∃ es : List Ac, R.flatten = es.flatMap Ac.cells ∧ es.length = R.length ∧ ∀ a ∈ es, I64 a.id
  | [], _ => ⟨[], rfl, rfl, by simp⟩
  | c :: R, h => by
    obtain ⟨_, _, rfl, ⟨x0, rfl, h0⟩, _, _, rfl, ⟨x1, rfl, h1⟩, _, _, rfl, ⟨x2, rfl, h2⟩, _, _, rfl, ⟨x3, rfl, h3⟩, _, _, rfl, ⟨x4, rfl, h4⟩, rfl⟩ := h c List.mem_cons_self
    obtain ⟨es, e1, e2, e3⟩ := acs_of (R := R) fun c hc => h c (List.mem_cons_of_mem _ hc)
    refine ⟨⟨x0, x1, ⟨x2, x3, x4⟩⟩ :: es, by rw [List.flatten_cons, e1]; rfl, by simp [e2], fun y hy => ?_⟩
    rcases List.mem_cons.1 hy with rfl | hy
    · exact i64_of h1
    · exact e3 y hy

set_option maxHeartbeats 2000000 in
theorem gridPlays_law (W : World) (s : Int) (_hs : (Lit.int .i64 s).wf = true) (l : Option Addr) (len cap : Nat) (z : List (List Value)) (R : Reads W l z.flatten) (hL : z.length = len) (F0 : ∀ c ∈ z, FitsAll [.int .i64, .int .i64, .int .i64, .int .i64, .int .i64] c) (Y : len * 40 ≤ 140737488351232) :
    cl Try.prog 9 #[.int .i64 s, .slice l len cap] W fun v w' => v = .bool true ∧ Ext no W w' := by
  obtain ⟨es, hz, hl, hI⟩ := acs_of F0
  rw [hz] at R
  rw [hL] at hl
  clear hz hL F0
  apply F9_calls
  unfold F9
  refine gawake_k fun w2 hx2 => asB_i rfl ?_
  refine gnew_k (fun hbad => ?_) (fun w3 F g mb mc hso hg hx3 hF => ?_)
  · refine asT_i rfl rfl (asP_i rfl (asI_i rfl (lv_i ?_)))
    refine rnew_k (fun _ => ?_) (fun _ _ h => by rw [hbad] at h; cases h)
    refine asT_i rfl rfl (asP_i rfl (asI_i rfl (lv_i ?_)))
    refine jn_of (fun t w' => t = [.bool false] ∧ w' = w2) ?_ ?_
    · rintro _ w2 ⟨rfl, rfl⟩
      exact asB_i rfl (cond_f rfl (cond_t rfl ⟨rfl, hx2⟩))
    · intro J hJ
      exact cond_f rfl (cond_f rfl (hJ _ _ ⟨rfl, rfl⟩))
  refine asT_i rfl rfl (asP_i rfl (asI_i rfl (lv_i ?_)))
  refine rnew_k (fun h => by rw [hso] at h; cases h) (fun w4 x _ hr hx4 hxs => ?_)
  refine asT_i rfl rfl (asP_i rfl (asI_i rfl (lv_i ?_)))
  have hG : G4 W w4 [] s g [] [] 0 x [] := by
    have z2 := hx2.size
    have z3 := hx3.size
    refine ⟨⟨(hx2.trans hx3).trans hx4, by simp, List.Pairwise.nil⟩, F, fun k => k = x, none, 0, none, 0, ⟨mb, mc, [], [], 0, [], 0, hg.ext hx4 fun _ _ h => h, rfl, fun _ => Nat.zero_le _, by simp⟩, hr, fun k hk hk' => ?_, fun k hk => ⟨?_, by simp⟩⟩
    · have := hg.lt k hk
      have hk'' : k = x := hk'
      omega
    · rcases hk with hk | hk
      · have := hF k hk
        omega
      · have hk'' : k = x := hk
        omega
  clear hr hx4 hxs hg hx3 hF hx2
  refine jn_of (fun t w' => t = [.bool false] ∧ w' = w4) ?_ ?_
  rotate_left
  · intro J hJ
    exact cond_f rfl (cond_f rfl (hJ _ _ ⟨rfl, rfl⟩))
  rintro _ w4 ⟨rfl, rfl⟩
  refine asB_i rfl (cond_f rfl (cond_f rfl (lv_i ?_)))
  refine lp_mk (fun i : Nat => [.int .i64 (i : Int)]) (fun m i w' => m = len - i ∧ i ≤ len ∧ i ≤ 200 ∧ ∃ B D A, G4 W w' [] s g B D (1024 * i) x A ∧ Same s B D A ∧ KI B ∧ A.length ≤ i) len 0 rfl
    ⟨rfl, Nat.zero_le _, Nat.zero_le _, [], [], [], hG, Same.nil s, fun y b h => by simp [aget, afind] at h, Nat.le_refl _⟩ ?_
  clear hG
  rintro _ i w5 ⟨rfl, hi, hi2, B, D, A, hG, hS, hk, hA⟩ J hJ
  refine asI_i rfl ?_
  refine jn_of (fun t w' => ∃ b, t = [.bool b] ∧ w' = w5 ∧ (b = true → i < len ∧ i < 200)) ?_ ?_
  rotate_left
  · intro J2 hJ2
    refine cond_split (fun h1 => hJ2 _ _ ⟨_, rfl, rfl, fun h2 => ?_⟩) (fun _ => hJ2 _ _ ⟨_, rfl, rfl, fun h => by cases h⟩)
    have := of_decide_eq_true h1
    have := of_decide_eq_true h2
    omega
  rintro _ w5 ⟨b0, rfl, rfl, hb⟩
  refine asB_i rfl (cond_split (fun h => ?_) (fun _ => ⟨by first | trivial | rfl, hG.st.ext⟩))
  obtain ⟨hl1, hl2⟩ := hb h
  have he : es[i]? = some es[i] := List.getElem?_eq_getElem (by omega)
  have hIe := hI _ (List.getElem_mem (by omega : i < es.length))
  generalize es[i] = e at he hIe
  have ei : IntKind.wrap .i64 ((i : Int) + 1) = ((i + 1 : Nat) : Int) := by rw [wr64 (by omega) (by omega)]; omega
  rw [ei, Int.toNat_natCast]
  refine Reads.atN (f := Ac.cells) (s := 5) (fun _ => rfl) (R.ext hG.st.ext fun _ _ h => h) hl he (by decide) fun a' _ hca => ?_
  have hc0 := hca 0 (by decide)
  rw [Sx.add_zero'] at hc0
  refine ld_mk hc0 (asI_i rfl (ld_mk (hca 1 (by decide)) (asI_i rfl (ld_mk (hca 2 (by decide)) (asI_i rfl (ld_mk (hca 3 (by decide)) (asI_i rfl (ld_mk (hca 4 (by decide)) (asI_i rfl ?_)))))))))
  refine does_k hG hS hk (by omega) (by omega) (d := e.d) (id := e.id) (b := e.b) hIe fun w6 B' D' A' hG hS hk hA' => asB_i rfl ?_
  refine jn_of (fun t w' => t = [.bool false] ∧ G4 W w' [] s g B' D' (1024 * i + 1024) x A') ?_ ?_
  · rintro _ w7 ⟨rfl, hG⟩
    rw [show 1024 * i + 1024 = 1024 * (i + 1) from by omega] at hG
    exact asB_i rfl (cond_f rfl (lv_i (hJ (len - (i + 1)) (i + 1) w7 (by omega) ⟨rfl, by omega, by omega, B', D', A', hG, hS, hk, by omega⟩)))
  · intro J2 hJ2
    refine dw_mk ?_
    have hGd := hG.to (Ext.drew w6)
    obtain ⟨p, c, hid⟩ := hGd.ids
    have hcnt := hS.count hGd.nd.1
    refine cond_f rfl (dr_i (ld_mk hid (asS_i rfl (hGd.count (asI_i rfl (hd_i hid (hJ2 _ _ ⟨?_, hGd⟩)))))))
    rw [hcnt]
    simp
end Go.Proofs.Ytamobmjfdiecbaa
