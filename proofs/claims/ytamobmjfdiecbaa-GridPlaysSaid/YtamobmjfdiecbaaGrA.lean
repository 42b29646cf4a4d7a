/- GrA: a grid beside blocks of one's own; cells of points; the document's examples of grids come out (awake). Conditions: those of each theorem, on its arguments. -/
import Derived.Test.YtamobmjfdiecbaaGrN
namespace Go.Proofs.Ytamobmjfdiecbaa
open Go Go.Sx Go.Fp
attribute [local irreducible] jn lv ld st nw asI asB asP asS asY asM asF asA asT lp rn ru rq cl dw dr bnd bn2 nz nn hd hr so eqW
attribute [local irreducible] callOk

/-! ### cells of points -/
def gcellE (s x y : Int) : Int := if sideOk s = true then if isCell (x / s) (y / s) = true then 0 else 40 else 1
def gcellP (s x y : Int) : Int × Int := if gcellE s x y = 0 then (x / s, y / s) else (0, 0)
theorem nat_div {x s : Int} (hx : I64 x) (hs : 1 ≤ s) : (x / s).natAbs < 18446744073709551616 := by
  obtain ⟨h1, h2⟩ := hx
  have d := div_bound (n := x) hs
  rcases Int.lt_or_le x 0 with h | h
  · have := d.2 h; omega
  · have := d.1 h; omega
theorem cv0 : cv (0, 0) = .complex .f64 0 0 := by
  have : F 0 = 0 := by decide
  unfold cv
  simp only [this]

theorem gCell_k {s x y : Int} (hx : I64 x) (hy : I64 y) {w : World} {K : Value → World → Prop} (hK : ∀ w', Ext no w w' → K (.tuple #[cv (gcellP s x y), .int .i64 (gcellE s x y)]) w') :
    cl Try.prog 23 #[.int .i64 s, .agg #[.int .i64 x, .int .i64 y]] w K := by
  apply F23_calls
  unfold F23
  have hS := St.start w
  (refine St.nw hS ?_; clear hS; intro r1 _ hS)
  refine lv_i (side_k (asB_i rfl ?_))
  refine cond_split (fun h => ?_) (fun h => ?_)
  · have hE : gcellE s x y = 1 := by unfold gcellE; rw [if_neg (by simpa using h)]
    have := hK _ hS.ext
    unfold gcellP at this
    rw [hE, if_neg (by decide), cv0] at this
    exact lv_i this
  have hs : sideOk s = true := by simpa using h
  have hs1 : 1 ≤ s ∧ s ≤ 1099511627776 := by simpa [sideOk] using hs
  refine hS.ld0 0 rfl rfl (asI_i rfl (hS.ld 0 rfl rfl (asI_i rfl ?_)))
  refine gcell_k hx hy hs1.1 (asC_i rfl (cellF_k (nat_div hx hs1.1) (nat_div hy hs1.1) (asB_i rfl ?_)))
  refine cond_split (fun h => ?_) (fun h => ?_)
  · have hE : gcellE s x y = 40 := by unfold gcellE; rw [if_pos hs, if_neg (by simpa using h)]
    have := hK _ hS.ext
    unfold gcellP at this
    rw [hE, if_neg (by decide), cv0] at this
    exact lv_i this
  · have hE : gcellE s x y = 0 := by unfold gcellE; rw [if_pos hs, if_pos (by simpa using h)]
    have := hK _ hS.ext
    unfold gcellP at this
    rw [hE, if_pos rfl] at this
    exact lv_i this

/-! ### a grid beside blocks of one's own -/
theorem putL_len' {l : List (Int × Int)} {id : Int} : ∀ {D : List ((Int × Int) × List Int)} (x : Int × Int), ((aget (putL D l id) x).getD []).length ≤ ((aget D x).getD []).length + l.length := by
  induction l with
  | nil => intro D x; exact Nat.le_refl _
  | cons c l ih =>
    intro D x
    have h1 := ih (D := addTo D c id) x
    have h2 := addTo_len (D := D) (c := c) (id := id) x
    have e : putL D (c :: l) id = putL (addTo D c id) l id := rfl
    rw [e, List.length_cons]
    omega
theorem gputD_len {s : Int} {B : List (Int × Bx)} {D : List ((Int × Int) × List Int)} {id : Int} {b : Bx} (x : Int × Int) : ((aget (gputD s B D id b) x).getD []).length ≤ ((aget D x).getD []).length + 1024 := by
  unfold gputD
  split
  · have := putL_len' (D := D) (l := cellsL' s b) (id := id) x
    have := cells_len (s := s) (b := b)
    omega
  · omega

structure Gw (W w : World) (L : List (Nat × List Value × TypeId)) (g : Nat) (s : Int) (B : List (Int × Bx)) (D : List ((Int × Int) × List Int)) (N : Nat) : Prop where
  st : St W w L
  gr : ∃ F mb mc C bb kb bc kc, Gr w F g mb mc s B C bb kb bc kc ∧ pl C = D ∧ (∀ x, ((aget D x).getD []).length ≤ N) ∧ ∀ k, F k → W.heap.size ≤ k ∧ ∀ b ∈ L, b.1 ≠ k

section
variable {W w : World} {L : List (Nat × List Value × TypeId)} {g : Nat} {s : Int} {B : List (Int × Bx)} {D : List ((Int × Int) × List Int)} {N : Nat}

theorem Gw.to (h : Gw W w L g s B D N) {w' : World} (hx : Ext no w w') : Gw W w' L g s B D N := by
  obtain ⟨F, mb, mc, C, bb, kb, bc, kc, h1, h2, h3, h4⟩ := h.gr
  exact ⟨h.st.to hx, F, mb, mc, C, bb, kb, bc, kc, h1.ext hx fun _ _ h => h, h2, h3, h4⟩

theorem Gw.start {w0 : World} (hs : St W w0 L) {F : Nat → Prop} {mb mc : Nat} (h : Gr w F g mb mc s [] [] [] 0 [] 0) (hx : Ext no w0 w) (hF : ∀ k, F k → w0.heap.size ≤ k) : Gw W w L g s [] [] 0 := by
  refine ⟨hs.to hx, F, mb, mc, [], [], 0, [], 0, h, rfl, fun x => Nat.zero_le _, fun k hk => ?_⟩
  have h1 := hF k hk
  have h2 := hs.ext.size
  refine ⟨by omega, fun b hb => ?_⟩
  have := blk_lt (hs.kn b hb).1
  omega

theorem Gw.put (h : Gw W w L g s B D N) (hN : N ≤ 549755813888) {id : Int} {b : Bx} {K : Value → World → Prop}
    (hK : ∀ w', Gw W w' L g s (gputB s B id b) (gputD s B D id b) (N + 1024) → K (.int .i64 (gputE s B id b)) w') :
    cl Try.prog 30 #[.pointer (some ⟨g, 0, none⟩), .int .i64 id, b.v] w K := by
  obtain ⟨F, mb, mc, C, bb, kb, bc, kc, h1, h2, h3, h4⟩ := h.gr
  refine gPut_k h1 (fun x => by rw [h2]; have := h3 x; omega) fun w' F' C' bb' kb' bc' kc' hg hp hx hF _ => hK w' ?_
  rw [h2] at hp
  refine ⟨h.st.toX hx (fun k hk => (h4 k hk).1) (fun b hb hk => (h4 _ hk).2 b hb rfl), F', mb, mc, C', bb', kb', bc', kc', hg, hp, fun x => ?_, fun k hk => ?_⟩
  · have := gputD_len (s := s) (B := B) (D := D) (id := id) (b := b) x
    have := h3 x
    omega
  · rcases hF k hk with hk | hk
    · exact h4 k hk
    · have := h.st.ext.size
      refine ⟨by omega, fun b hb => ?_⟩
      have := blk_lt (h.st.kn b hb).1
      omega

theorem Gw.move0 (h : Gw W w L g s B D N) (hN : N ≤ 549755813888) {id : Int} {b : Bx} (h0 : aget B id = none) {K : Value → World → Prop}
    (hK : ∀ w', Gw W w' L g s B D N → K (.int .i64 181) w') :
    cl Try.prog 35 #[.pointer (some ⟨g, 0, none⟩), .int .i64 id, b.v] w K := by
  obtain ⟨F, mb, mc, C, bb, kb, bc, kc, h1, h2, h3, h4⟩ := h.gr
  have hE : gmoveE s B id b = 181 := by unfold gmoveE; rw [h0]; rfl
  refine gMove_k h1 (fun x => by rw [h2]; have := h3 x; omega) fun w' F' C' bb' kb' bc' kc' hg hp hx hF _ => ?_
  rw [hE]
  rw [h2] at hp
  unfold gmoveB at hg
  unfold gmoveD at hp
  rw [hE, if_neg (by decide)] at hg hp
  refine hK w' ⟨h.st.toX hx (fun k hk => (h4 k hk).1) (fun b hb hk => (h4 _ hk).2 b hb rfl), F', mb, mc, C', bb', kb', bc', kc', hg, hp, h3, fun k hk => ?_⟩
  rcases hF k hk with hk | hk
  · exact h4 k hk
  · have := h.st.ext.size
    refine ⟨by omega, fun b hb => ?_⟩
    have := blk_lt (h.st.kn b hb).1
    omega

/-- a block laid since -/
theorem Gw.add (h : Gw W w L g s B D N) {w' : World} (hx : Ext no w w') {q : Nat} {cs : List Value} {t : TypeId} (hq : w.heap.size ≤ q) (hb : w'.heap[q]? = some (.cells cs.toArray t (0, 0))) : Gw W w' ((q, cs, t) :: L) g s B D N := by
  obtain ⟨F, mb, mc, C, bb, kb, bc, kc, h1, h2, h3, h4⟩ := h.gr
  have hs' := h.st.to hx
  have := h.st.ext.size
  refine ⟨⟨hs'.ext, fun b hb' => ?_, List.Pairwise.cons (fun b hb' => ?_) hs'.nd⟩, F, mb, mc, C, bb, kb, bc, kc, h1.ext hx fun _ _ h => h, h2, h3, fun k hk => ⟨(h4 k hk).1, fun b hb' => ?_⟩⟩
  · rcases List.mem_cons.1 hb' with rfl | hb'
    · exact ⟨hb, by simp only; omega⟩
    · exact hs'.kn b hb'
  · have := blk_lt (h.st.kn b hb').1
    simp only
    omega
  · rcases List.mem_cons.1 hb' with rfl | hb'
    · have := h1.lt k hk
      simp only
      omega
    · exact (h4 k hk).2 b hb'
theorem Gw.tail {x : Nat × List Value × TypeId} (h : Gw W w (x :: L) g s B D N) : Gw W w L g s B D N := by
  obtain ⟨F, mb, mc, C, bb, kb, bc, kc, h1, h2, h3, h4⟩ := h.gr
  exact ⟨h.st.tail, F, mb, mc, C, bb, kb, bc, kc, h1, h2, h3, fun k hk => ⟨(h4 k hk).1, fun b hb => (h4 k hk).2 b (List.mem_cons_of_mem _ hb)⟩⟩

def HoldsV (LL : List (Nat × List Value × TypeId)) (p : Option Addr) (vs : List Value) : Prop := ∀ w : World, (∀ b ∈ LL, w.heap[b.1]? = some (.cells b.2.1.toArray b.2.2 (0, 0))) → Reads w p vs
theorem Gw.reads {LL : List (Nat × List Value × TypeId)} {p : Option Addr} {vs : List Value} (h : Gw W w L g s B D N) (hH : HoldsV LL p vs) (hs : ∀ b ∈ LL, b ∈ L) : Reads w p vs := hH w fun b hb => (h.st.kn b (hs b hb)).1

theorem Gw.near (h : Gw W w L g s B D N) (hN : N ≤ 549755813888) {b : Bx} (hI : ∀ x ∈ metL B D b (cellsL' s b), I64 x.1) (hM : (metL B D b (cellsL' s b)).length ≤ 1099511627776) {K : Value → World → Prop}
    (hK : ∀ p c w' LL, Gw W w' (LL ++ L) g s B D N → HoldsV LL p (iv .i64 (gnearV s B D b)) → Row w' w.heap.size 3 p c (iv .i64 (gnearV s B D b)) → K (.tuple #[.slice p (gnearV s B D b).length c, .int .i64 (cellsE s b)]) w') :
    cl Try.prog 31 #[.pointer (some ⟨g, 0, none⟩), b.v] w K := by
  obtain ⟨F, mb, mc, C, bb, kb, bc, kc, h1, h2, h3, h4⟩ := h.gr
  rw [← h2] at hI hM hK
  refine gNear_k h1 hI hM (fun x => by rw [h2]; have := h3 x; omega) fun p c w' hx hr => ?_
  have hG : Gw W w L g s B (pl C) N := by rw [h2]; exact h
  rcases hr.cases with ⟨rfl, _, h0⟩ | ⟨q, cur, rfl, hq, hb, _, _, _, ht⟩
  · exact hK none c w' [] (hG.to hx) (fun _ _ => .inl h0) hr
  · refine hK _ c w' [(q, cur.toList, _)] (hG.add hx hq (by simpa using hb)) (fun w1 hw1 => .inr ⟨q, 0, rfl, fun i v hv => ?_⟩) hr
    have hb1 := hw1 _ List.mem_cons_self
    rw [blk_cell hb1, Nat.zero_add]
    rw [← ht, List.getElem?_take] at hv
    split at hv
    · simpa using hv
    · cases hv
end

/-! ### the document's examples -/
def aB1 : List (Int × Bx) := gputB 10 [] 7 ⟨0, 0, 2⟩
def aD1 : List ((Int × Int) × List Int) := gputD 10 [] [] 7 ⟨0, 0, 2⟩
def aB2 : List (Int × Bx) := gputB 10 aB1 3 ⟨3, 0, 2⟩
def aD2 : List ((Int × Int) × List Int) := gputD 10 aB1 aD1 3 ⟨3, 0, 2⟩
def aB3 : List (Int × Bx) := gputB 10 aB2 7 ⟨0, 0, 2⟩
theorem aMet : metL aB2 aD2 ⟨1, 0, 1⟩ (cellsL' 10 ⟨1, 0, 1⟩) = [(7, true), (3, true)] := by decide
theorem aNear : gnearV 10 aB2 aD2 ⟨1, 0, 1⟩ = [3, 7] := by
  unfold gnearV
  rw [aMet]
  have hp : ([7, 3] : List Int).Perm [3, 7] := List.Perm.swap _ _ _
  have h1 := Go.mergeSort_of_perm_i hp
  have h2 : ([3, 7] : List Int).mergeSort leI = [3, 7] := List.mergeSort_of_pairwise (by decide)
  rw [h2] at h1
  exact h1
theorem aCells : cellsL' 10 ⟨10, 0, 1⟩ = [(0, -1), (1, -1), (0, 0), (1, 0)] := by decide

set_option maxHeartbeats 1000000 in
theorem gawake_k {w : World} {K : Value → World → Prop} (hK : ∀ w', Ext no w w' → K (.bool true) w') : cl Try.prog 22 #[] w K := by
  apply F22_calls
  unfold F22
  have hS := St.start w
  refine gCell_k (by unfold I64; omega) (by unfold I64; omega) fun w1 hx1 => ?_
  replace hS := hS.to hx1
  have e1 : gcellE 10 (-1) 19 = 0 := by decide
  have e2 : gcellP 10 (-1) 19 = (-1, 1) := by decide
  rw [e1, e2]
  refine asT_i (l := [cv (-1, 1), .int .i64 0]) rfl rfl (asC_i rfl (asI_i rfl (lv_i ?_)))
  refine cells_k (b := ⟨10, 0, 1⟩) fun p c w2 hx2 hr2 => ?_
  replace hS := hS.to hx2
  rw [aCells] at hr2
  have e3 : cellsE 10 ⟨10, 0, 1⟩ = 0 := by decide
  rw [aCells, e3]
  refine asT_i rfl rfl (asS_i rfl (asI_i rfl (lv_i ?_)))
  refine gnew_k (fun h => absurd h (by decide)) fun w3 F g mb mc _ hg hx3 hF => ?_
  have hG := Gw.start hS hg hx3 hF
  have hr3 := hr2.reads.ext hx3 fun _ _ h => h
  refine asT_i rfl rfl (asP_i rfl (asI_i rfl (lv_i ?_)))
  refine gnew_k (fun _ => ?_) (fun _ _ _ _ _ h => absurd h (by decide))
  refine asT_i rfl rfl (asP_i rfl (asI_i rfl (lv_i ?_)))
  refine jn_of (fun t w' => t = [.bool false] ∧ w' = w3) ?_ ?_
  · rintro _ w3 ⟨rfl, rfl⟩
    refine asB_i rfl (cond_f rfl ?_)
    refine hG.put (by decide) (b := ⟨0, 0, 2⟩) fun w4 hG => ?_
    have e4 : gputE 10 [] 7 ⟨0, 0, 2⟩ = 0 := by decide
    rw [e4]
    refine asI_i rfl (lv_i ?_)
    replace hG : Gw w w4 [] g 10 aB1 aD1 _ := hG
    refine hG.put (by decide) (b := ⟨3, 0, 2⟩) fun w5 hG => ?_
    have e5 : gputE 10 aB1 3 ⟨3, 0, 2⟩ = 0 := by decide
    rw [e5]
    refine asI_i rfl (lv_i ?_)
    replace hG : Gw w w5 [] g 10 aB2 aD2 _ := hG
    refine hG.near (by decide) (b := ⟨1, 0, 1⟩) (by rw [aMet]; unfold I64; decide) (by rw [aMet]; decide) fun p5 c5 w6 LL hG hH _ => ?_
    have e6 : cellsE 10 ⟨1, 0, 1⟩ = 0 := by decide
    rw [aNear] at hH
    rw [aNear, e6]
    refine asT_i rfl rfl (asS_i rfl (asI_i rfl (lv_i ?_)))
    refine jn_of (fun t w' => t = [.bool true] ∧ Ext no w w') ?_ ?_
    · rintro _ w7 ⟨rfl, hx⟩
      exact asB_i rfl (hK w7 hx)
    · intro J hJ
      refine cond_t rfl (cond_t rfl ?_)
      refine hG.put (by decide) (b := ⟨0, 0, 2⟩) fun w7 hG => ?_
      have e7 : gputE 10 aB2 7 ⟨0, 0, 2⟩ = 180 := by decide
      rw [e7]
      refine asI_i rfl (cond_t rfl ?_)
      refine hG.move0 (by decide) (b := ⟨0, 0, 2⟩) (by decide) fun w8 hG => asI_i rfl (cond_t rfl (cond_t rfl (cond_t rfl ?_)))
      have hR := hG.reads hH fun b hb => List.mem_append_left _ hb
      refine hR.at (i := 0) (v := .int .i64 3) (by decide) rfl (asI_i rfl (cond_t rfl ?_)) (by decide)
      exact hR.at (i := 1) (v := .int .i64 7) (by decide) rfl (asI_i rfl (hJ _ _ ⟨rfl, hG.st.ext⟩)) (by decide)
  · intro J hJ
    refine cond_f rfl (cond_f ?_ (cond_f rfl (cond_f rfl ?_)))
    · decide
    · refine hr3.at (i := 0) (v := cv (0, -1)) (by decide) rfl (asC_i rfl (cond_f (by decide) ?_)) (by decide)
      refine hr3.at (i := 3) (v := cv (1, 0)) (by decide) rfl (asC_i rfl (cond_f (by decide) ?_)) (by decide)
      exact cond_f rfl (cond_f rfl (hJ _ _ ⟨rfl, rfl⟩))
end Go.Proofs.Ytamobmjfdiecbaa
