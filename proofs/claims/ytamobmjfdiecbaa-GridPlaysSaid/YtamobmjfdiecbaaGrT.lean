/- GrT: two grids beside blocks of one's own. Conditions: those of each theorem, on its arguments. -/
import Derived.Test.YtamobmjfdiecbaaGrO
import Derived.Test.YtamobmjfdiecbaaGrL3
namespace Go.Proofs.Ytamobmjfdiecbaa
open Go Go.Sx Go.Fp
attribute [local irreducible] jn lv ld st nw asI asB asP asS asY asM asF asA asT lp rn ru rq cl dw dr bnd bn2 nz nn hd hr so eqW
attribute [local irreducible] callOk

theorem gdropD_len {s : Int} {B : List (Int × Bx)} {D : List ((Int × Int) × List Int)} (hD : (D.map (·.1)).Nodup) {id : Int} (x : Int × Int) : ((aget (gdropD s B D id) x).getD []).length ≤ ((aget D x).getD []).length := by
  unfold gdropD
  split
  · exact dropL_len hD x
  · exact Nat.le_refl _
theorem gmoveD_len {s : Int} {B : List (Int × Bx)} {D : List ((Int × Int) × List Int)} (hD : (D.map (·.1)).Nodup) {id : Int} {b : Bx} (x : Int × Int) : ((aget (gmoveD s B D id b) x).getD []).length ≤ ((aget D x).getD []).length + 1024 := by
  unfold gmoveD
  split
  · have := putL_len' (D := dropL D (cellsL' s (boxAt B id)) id) (l := cellsL' s b) (id := id) x
    have := dropL_len (l := cellsL' s (boxAt B id)) (id := id) hD x
    have := cells_len (s := s) (b := b)
    omega
  · omega

/-- a grid that lies in its own blocks -/
def G1 (w : World) (F : Nat → Prop) (g : Nat) (s : Int) (B : List (Int × Bx)) (D : List ((Int × Int) × List Int)) (N : Nat) : Prop :=
  ∃ mb mc C bb kb bc kc, Gr w F g mb mc s B C bb kb bc kc ∧ pl C = D ∧ (∀ x, ((aget D x).getD []).length ≤ N) ∧ (B.map (·.1)).Nodup

structure G2 (W w : World) (L : List (Nat × List Value × TypeId)) (s : Int) (g : Nat) (B : List (Int × Bx)) (D : List ((Int × Int) × List Int)) (N : Nat) (g' : Nat) (B' : List (Int × Bx)) (D' : List ((Int × Int) × List Int)) (N' : Nat) : Prop where
  st : St W w L
  gr : ∃ F F', G1 w F g s B D N ∧ G1 w F' g' s B' D' N' ∧ (∀ k, F k → ¬ F' k) ∧ ∀ k, (F k ∨ F' k) → W.heap.size ≤ k ∧ ∀ b ∈ L, b.1 ≠ k

section
variable {W w : World} {L : List (Nat × List Value × TypeId)} {s : Int} {g g' : Nat} {B B' : List (Int × Bx)} {D D' : List ((Int × Int) × List Int)} {N N' : Nat}

theorem G1.ext {F M : Nat → Prop} (h : G1 w F g s B D N) {w' : World} (hx : Ext M w w') (hm : ∀ k, F k → ¬ M k) : G1 w' F g s B D N := by
  obtain ⟨mb, mc, C, bb, kb, bc, kc, h1, h2⟩ := h
  exact ⟨mb, mc, C, bb, kb, bc, kc, h1.ext hx hm, h2⟩
theorem G1.lt {F : Nat → Prop} (h : G1 w F g s B D N) : ∀ k, F k → k < w.heap.size := by
  obtain ⟨mb, mc, C, bb, kb, bc, kc, h1, h2⟩ := h
  exact h1.lt

theorem G2.swap (h : G2 W w L s g B D N g' B' D' N') : G2 W w L s g' B' D' N' g B D N := by
  obtain ⟨F, F', h1, h2, h3, h4⟩ := h.gr
  exact ⟨h.st, F', F, h2, h1, fun k hk hk' => h3 k hk' hk, fun k hk => h4 k hk.symm⟩
theorem G2.to (h : G2 W w L s g B D N g' B' D' N') {w' : World} (hx : Ext no w w') : G2 W w' L s g B D N g' B' D' N' := by
  obtain ⟨F, F', h1, h2, h3, h4⟩ := h.gr
  exact ⟨h.st.to hx, F, F', h1.ext hx fun _ _ h => h, h2.ext hx fun _ _ h => h, h3, h4⟩
theorem G2.nd (h : G2 W w L s g B D N g' B' D' N') : (B.map (·.1)).Nodup ∧ (D.map (·.1)).Nodup ∧ (B'.map (·.1)).Nodup ∧ (D'.map (·.1)).Nodup := by
  obtain ⟨F, F', ⟨mb, mc, C, bb, kb, bc, kc, h1, rfl, _, h2⟩, ⟨mb', mc', C', bb', kb', bc', kc', h1', rfl, _, h2'⟩, _, _⟩ := h.gr
  exact ⟨h2, pl_nd h1.nd, h2', pl_nd h1'.nd⟩
theorem G2.len (h : G2 W w L s g B D N g' B' D' N') : (∀ x, ((aget D x).getD []).length ≤ N) ∧ ∀ x, ((aget D' x).getD []).length ≤ N' := by
  obtain ⟨F, F', ⟨mb, mc, C, bb, kb, bc, kc, h1, rfl, h3, h2⟩, ⟨mb', mc', C', bb', kb', bc', kc', h1', rfl, h3', h2'⟩, _, _⟩ := h.gr
  exact ⟨h3, h3'⟩
theorem G2.mono (h : G2 W w L s g B D N g' B' D' N') {M M' : Nat} (hM : N ≤ M) (hM' : N' ≤ M') : G2 W w L s g B D M g' B' D' M' := by
  obtain ⟨F, F', ⟨mb, mc, C, bb, kb, bc, kc, h1, h2, h3, h4⟩, ⟨mb', mc', C', bb', kb', bc', kc', h1', h2', h3', h4'⟩, h5, h6⟩ := h.gr
  exact ⟨h.st, F, F', ⟨mb, mc, C, bb, kb, bc, kc, h1, h2, fun x => Nat.le_trans (h3 x) hM, h4⟩, ⟨mb', mc', C', bb', kb', bc', kc', h1', h2', fun x => Nat.le_trans (h3' x) hM', h4'⟩, h5, h6⟩

theorem G2.step {F F' : Nat → Prop} (hs : St W w L) (h1 : G1 w F g s B D N) (h2 : G1 w F' g' s B' D' N') (h3 : ∀ k, F k → ¬ F' k) (h4 : ∀ k, (F k ∨ F' k) → W.heap.size ≤ k ∧ ∀ b ∈ L, b.1 ≠ k)
    {w' : World} {F2 : Nat → Prop} {B2 : List (Int × Bx)} {D2 : List ((Int × Int) × List Int)} {N2 : Nat} (hg : G1 w' F2 g s B2 D2 N2) (hx : Ext F w w') (hF : ∀ k, F2 k → F k ∨ w.heap.size ≤ k) : G2 W w' L s g B2 D2 N2 g' B' D' N' := by
  refine ⟨hs.toX hx (fun k hk => (h4 k (.inl hk)).1) (fun b hb hk => (h4 _ (.inl hk)).2 b hb rfl), F2, F', hg, h2.ext hx fun k hk hk' => h3 k hk' hk, fun k hk hk' => ?_, fun k hk => ?_⟩
  · rcases hF k hk with hk2 | hk2
    · exact h3 k hk2 hk'
    · have := h2.lt k hk'
      omega
  · rcases hk with hk | hk
    · rcases hF k hk with hk2 | hk2
      · exact h4 k (.inl hk2)
      · have := hs.ext.size
        refine ⟨by omega, fun b hb => ?_⟩
        have := blk_lt (hs.kn b hb).1
        omega
    · exact h4 k (.inr hk)

theorem G2.put (h : G2 W w L s g B D N g' B' D' N') (hN : N ≤ 549755813888) {id : Int} {b : Bx} {K : Value → World → Prop}
    (hK : ∀ w', G2 W w' L s g (gputB s B id b) (gputD s B D id b) (N + 1024) g' B' D' N' → K (.int .i64 (gputE s B id b)) w') :
    cl Try.prog 30 #[.pointer (some ⟨g, 0, none⟩), .int .i64 id, b.v] w K := by
  obtain ⟨F, F', h1, h2, h3, h4⟩ := h.gr
  have h1' := h1
  obtain ⟨mb, mc, C, bb, kb, bc, kc, hg, rfl, hl, hn⟩ := h1
  refine gPut_k hg (fun x => by have := hl x; omega) fun w' F2 C' bb' kb' bc' kc' hg' hp hx hF _ => hK w' ?_
  exact G2.step h.st h1' h2 h3 h4 ⟨mb, mc, C', bb', kb', bc', kc', hg', hp, fun x => Nat.le_trans (gputD_len x) (by have := hl x; omega), nd_put hn⟩ hx hF

theorem G2.move (h : G2 W w L s g B D N g' B' D' N') (hN : N ≤ 549755813888) {id : Int} {b : Bx} {K : Value → World → Prop}
    (hK : ∀ w', G2 W w' L s g (gmoveB s B id b) (gmoveD s B D id b) (N + 1024) g' B' D' N' → K (.int .i64 (gmoveE s B id b)) w') :
    cl Try.prog 35 #[.pointer (some ⟨g, 0, none⟩), .int .i64 id, b.v] w K := by
  obtain ⟨F, F', h1, h2, h3, h4⟩ := h.gr
  have h1' := h1
  obtain ⟨mb, mc, C, bb, kb, bc, kc, hg, rfl, hl, hn⟩ := h1
  refine gMove_k hg (fun x => by have := hl x; omega) fun w' F2 C' bb' kb' bc' kc' hg' hp hx hF _ => hK w' ?_
  exact G2.step h.st h1' h2 h3 h4 ⟨mb, mc, C', bb', kb', bc', kc', hg', hp, fun x => Nat.le_trans (gmoveD_len (pl_nd hg.nd) x) (by have := hl x; omega), nd_move hn⟩ hx hF

theorem G2.drop (h : G2 W w L s g B D N g' B' D' N') (hN : N ≤ 549755813888) {id : Int} {K : Value → World → Prop}
    (hK : ∀ w', G2 W w' L s g (gdropB B id) (gdropD s B D id) N g' B' D' N' → K (.int .i64 (gdropE B id)) w') :
    cl Try.prog 36 #[.pointer (some ⟨g, 0, none⟩), .int .i64 id] w K := by
  obtain ⟨F, F', h1, h2, h3, h4⟩ := h.gr
  have h1' := h1
  obtain ⟨mb, mc, C, bb, kb, bc, kc, hg, rfl, hl, hn⟩ := h1
  refine gDrop_k hg (fun x => by have := hl x; omega) fun w' C' bb' kb' bc' kc' hg' hp hx => hK w' ?_
  exact G2.step h.st h1' h2 h3 h4 ⟨mb, mc, C', bb', kb', bc', kc', hg', hp, fun x => Nat.le_trans (gdropD_len (pl_nd hg.nd) x) (hl x), nd_drop hn⟩ hx fun k hk => .inl hk

theorem G2.count (h : G2 W w L s g B D N g' B' D' N') {K : Value → World → Prop} (hK : K (.int .i64 (B.length : Int)) w) :
    cl Try.prog 34 #[.pointer (some ⟨g, 0, none⟩)] w K := by
  obtain ⟨F, F', h1, h2, h3, h4⟩ := h.gr
  obtain ⟨mb, mc, C, bb, kb, bc, kc, hg, rfl, hl, hn⟩ := h1
  apply F34_calls
  unfold F34
  refine lv_i (dr_i (ld_mk hg.ld1 (asM_i rfl (rq_mk (hg.bm.len_run und_mb) (asI_i rfl (lv_i hK))))))

/-- a block laid since -/
theorem G2.add (h : G2 W w L s g B D N g' B' D' N') {w' : World} (hx : Ext no w w') {q : Nat} {cs : List Value} {t : TypeId} (hq : w.heap.size ≤ q) (hb : w'.heap[q]? = some (.cells cs.toArray t (0, 0))) : G2 W w' ((q, cs, t) :: L) s g B D N g' B' D' N' := by
  obtain ⟨F, F', h1, h2, h3, h4⟩ := h.gr
  have hs' := h.st.to hx
  have := h.st.ext.size
  refine ⟨⟨hs'.ext, fun b hb' => ?_, List.Pairwise.cons (fun b hb' => ?_) hs'.nd⟩, F, F', h1.ext hx fun _ _ h => h, h2.ext hx fun _ _ h => h, h3, fun k hk => ⟨(h4 k hk).1, fun b hb' => ?_⟩⟩
  · rcases List.mem_cons.1 hb' with rfl | hb'
    · exact ⟨hb, by simp only; omega⟩
    · exact hs'.kn b hb'
  · have := blk_lt (h.st.kn b hb').1
    simp only
    omega
  · rcases List.mem_cons.1 hb' with rfl | hb'
    · have : k < w.heap.size := by
        rcases hk with hk | hk
        · exact h1.lt k hk
        · exact h2.lt k hk
      simp only
      omega
    · exact (h4 k hk).2 b hb'

theorem G2.near (h : G2 W w L s g B D N g' B' D' N') (hN : N ≤ 1000000000) {b : Bx} (hI : ∀ x ∈ metL B D b (cellsL' s b), I64 x.1) {K : Value → World → Prop}
    (hK : ∀ p c w' LL, G2 W w' (LL ++ L) s g B D N g' B' D' N' → HoldsV LL p (iv .i64 (gnearV s B D b)) → K (.tuple #[.slice p (gnearV s B D b).length c, .int .i64 (cellsE s b)]) w') :
    cl Try.prog 31 #[.pointer (some ⟨g, 0, none⟩), b.v] w K := by
  obtain ⟨F, F', h1, h2, h3, h4⟩ := h.gr
  obtain ⟨mb, mc, C, bb, kb, bc, kc, hg, hD, hl, hn⟩ := h1
  subst hD
  have hml := metL_len (B := B) (b := b) hl (cellsL' s b)
  have hcl := cells_len (s := s) (b := b)
  have hmul : (cellsL' s b).length * N ≤ 1024 * 1000000000 := Nat.mul_le_mul hcl hN
  refine gNear_k hg hI (by omega) (fun x => by have := hl x; omega) fun p c w' hx hr => ?_
  rcases hr.cases with ⟨rfl, _, h0⟩ | ⟨q, cur, rfl, hq, hb, _, _, _, ht⟩
  · exact hK none c w' [] (h.to hx) (fun _ _ => .inl h0)
  · refine hK _ c w' [(q, cur.toList, _)] (h.add hx hq (by simpa using hb)) (fun w1 hw1 => .inr ⟨q, 0, rfl, fun i v hv => ?_⟩)
    have hb1 := hw1 _ List.mem_cons_self
    rw [blk_cell hb1, Nat.zero_add]
    rw [← ht, List.getElem?_take] at hv
    split at hv
    · simpa using hv
    · cases hv
theorem G2.reads {LL : List (Nat × List Value × TypeId)} {p : Option Addr} {vs : List Value} (h : G2 W w L s g B D N g' B' D' N') (hH : HoldsV LL p vs) (hs : ∀ b ∈ LL, b ∈ L) : Reads w p vs := hH w fun b hb => (h.st.kn b (hs b hb)).1

theorem G2.start {w0 w1 : World} (hs : St W w0 L) {F : Nat → Prop} {mb mc : Nat} (h : Gr w1 F g mb mc s [] [] [] 0 [] 0) (hx : Ext no w0 w1) (hF : ∀ k, F k → w0.heap.size ≤ k)
    {F' : Nat → Prop} {mb' mc' : Nat} (h' : Gr w F' g' mb' mc' s [] [] [] 0 [] 0) (hx' : Ext no w1 w) (hF' : ∀ k, F' k → w1.heap.size ≤ k) : G2 W w L s g [] [] 0 g' [] [] 0 := by
  have h0 := hs.ext.size
  have h1 := hx.size
  refine ⟨(hs.to hx).to hx', F, F', ⟨mb, mc, [], [], 0, [], 0, h.ext hx' fun _ _ h => h, rfl, fun _ => Nat.zero_le _, by simp⟩, ⟨mb', mc', [], [], 0, [], 0, h', rfl, fun _ => Nat.zero_le _, by simp⟩, fun k hk hk' => ?_, fun k hk => ?_⟩
  · have := h.lt k hk
    have := hF' k hk'
    omega
  · have : w0.heap.size ≤ k := by
      rcases hk with hk | hk
      · exact hF k hk
      · have := hF' k hk; omega
    refine ⟨by omega, fun b hb => ?_⟩
    have := blk_lt (hs.kn b hb).1
    omega
end
end Go.Proofs.Ytamobmjfdiecbaa
