/- WoG: what a world's calls Set and List do, as contracts over lists of places. Conditions: those of each theorem, on its arguments. -/
import Derived.Test.YtamobmjfdiecbaaWoE
namespace Go.Proofs.Ytamobmjfdiecbaa
open Go Go.Sx Go.Fp
attribute [local irreducible] jn lv ld st nw asI asB asP asS asY asM asF asA asT lp rn ru rq cl dw dr bnd bn2 nz nn hd hr so eqW
attribute [local irreducible] callOk

def setE (S : List Spot) (h : Int) (e : Ent) : Int := if (atI S h).isSome = true then e.rightE else 190

theorem set_k {w : World} {F : Nat → Prop} {r g : Nat} {S : List Spot} {B : List (Int × Bx)} {D : List ((Int × Int) × List Int)} {N : Nat} (h : Wd w F r g S B D N) (hN : N ≤ 549755813888) {hh : Int} {e : Ent} {K : Value → World → Prop}
    (hbad : ∀ w', Ext no w w' → setE S hh e ≠ 0 → K (.int .i64 (setE S hh e)) w')
    (hok : ∀ w' F' i s, setE S hh e = 0 → e.rightE = 0 → atI S hh = some i → i = hh.toNat % 64 → hh = hh.toNat → S[i]? = some s → s.there = true → s.e.h = hh → Wd w' F' r g (S.set i ⟨s.gen, s.there, { e with h := hh }⟩) (gmoveB wside B i e.box) (gmoveD wside B D i e.box) (N + 1024) →
      Ext (wF F r) w w' → (∀ k, F' k → F k ∨ w.heap.size ≤ k) → (∀ k, F k → F' k) → K (.int .i64 0) w') :
    cl Try.prog 20 #[.pointer (some ⟨r, 0, none⟩), .int .i64 hh, e.v] w K := by
  apply F20_calls
  unfold F20
  have hS := St.start w
  (refine St.nw hS ?_; clear hS; intro r1 _ hS)
  have hw1 := h.ws.ext hS.ext fun h => h
  refine lv_i (at_k hw1 (fun hn => ?_) (fun i s hat hhn hi hs ht he => ?_))
  · have e1 : setE S hh e = 190 := by unfold setE; rw [hn]; rfl
    have := hbad _ hS.ext (by rw [e1]; decide)
    rw [e1] at this
    exact asP_i rfl (cond_t rfl (lv_i this))
  refine asP_i rfl (cond_f rfl ?_)
  have e1 : setE S hh e = e.rightE := by unfold setE; rw [hat]; rfl
  repeat (first | (refine asI_i rfl ?_) | (refine asB_i rfl ?_) | (refine asP_i rfl ?_) | (refine asS_i rfl ?_) | (refine asY_i rfl ?_) | (refine asM_i rfl ?_) | (refine asA_i rfl rfl ?_) | (refine asT_i rfl rfl ?_) | (refine lv_i ?_) | (refine St.nw hS ?_; clear hS; intro _ _ hS) | (refine St.dw hS ?_; clear hS; intro _ hS _) | (refine hS.ld0 0 rfl rfl ?_) | (refine hS.ld 0 rfl rfl ?_) | (refine hS.ld0 1 rfl rfl ?_) | (refine hS.ld 1 rfl rfl ?_) | (refine hS.ld0 2 rfl rfl ?_) | (refine hS.ld 2 rfl rfl ?_) | (refine hS.ld0 3 rfl rfl ?_) | (refine hS.ld 3 rfl rfl ?_) | (refine hS.ld0 4 rfl rfl ?_) | (refine hS.ld 4 rfl rfl ?_) | (refine hS.ld0 5 rfl rfl ?_) | (refine hS.ld 5 rfl rfl ?_) | (refine hS.ld0 6 rfl rfl ?_) | (refine hS.ld 6 rfl rfl ?_) | (refine hS.ld0 7 rfl rfl ?_) | (refine hS.ld 7 rfl rfl ?_) | (refine hS.hd0 0 rfl rfl ?_) | (refine hS.hd 0 rfl rfl ?_) | (refine hS.hd0 1 rfl rfl ?_) | (refine hS.hd 1 rfl rfl ?_) | (refine hS.hd0 2 rfl rfl ?_) | (refine hS.hd 2 rfl rfl ?_) | (refine hS.hd0 3 rfl rfl ?_) | (refine hS.hd 3 rfl rfl ?_) | (refine hS.hd0 4 rfl rfl ?_) | (refine hS.hd 4 rfl rfl ?_) | (refine hS.hd0 5 rfl rfl ?_) | (refine hS.hd 5 rfl rfl ?_) | (refine hS.hd0 6 rfl rfl ?_) | (refine hS.hd 6 rfl rfl ?_) | (refine hS.hd0 7 rfl rfl ?_) | (refine hS.hd 7 rfl rfl ?_) | (refine hS.st0 0 rfl rfl rfl ?_; clear hS; intro _ hS) | (refine hS.st 0 rfl rfl rfl ?_; clear hS; intro _ hS) | (refine hS.st0 1 rfl rfl rfl ?_; clear hS; intro _ hS) | (refine hS.st 1 rfl rfl rfl ?_; clear hS; intro _ hS) | (refine hS.st0 2 rfl rfl rfl ?_; clear hS; intro _ hS) | (refine hS.st 2 rfl rfl rfl ?_; clear hS; intro _ hS) | (refine hS.st0 3 rfl rfl rfl ?_; clear hS; intro _ hS) | (refine hS.st 3 rfl rfl rfl ?_; clear hS; intro _ hS) | (refine hS.st0 4 rfl rfl rfl ?_; clear hS; intro _ hS) | (refine hS.st 4 rfl rfl rfl ?_; clear hS; intro _ hS) | (refine hS.st0 5 rfl rfl rfl ?_; clear hS; intro _ hS) | (refine hS.st 5 rfl rfl rfl ?_; clear hS; intro _ hS) | (refine hS.st0 6 rfl rfl rfl ?_; clear hS; intro _ hS) | (refine hS.st 6 rfl rfl rfl ?_; clear hS; intro _ hS) | (refine hS.st0 7 rfl rfl rfl ?_; clear hS; intro _ hS) | (refine hS.st 7 rfl rfl rfl ?_; clear hS; intro _ hS) | (refine bnd_mk (by decide) (by decide) ?_) | (refine so_i rfl ?_))
  show cl Try.prog 15 #[e.v] _ _
  refine eright_k ?_
  intro w1 hx1
  replace hS := hS.to hx1
  clear hx1
  refine asI_i rfl (lv_i (cond_split (fun h0 => ?_) (fun h0 => ?_)))
  · have hne : e.rightE ≠ 0 := by simpa using h0
    have := hbad _ hS.ext (by rw [e1]; exact hne)
    rw [e1] at this
    exact lv_i this
  have hE : e.rightE = 0 := by simpa using h0
  have h1 := h.ext hS.ext fun _ _ hf => hf
  have hil := (List.getElem?_eq_some_iff.1 hs).1
  have hkn := hS.kn (r1, e.cells, 27) List.mem_cons_self
  have hr1 : r < w.heap.size := h.r_lt
  have hne : r1 ≠ r := by
    have := hkn.2
    simp only at this
    omega
  refine ld8b hkn.1 (o := 0) (e := e) (fun k _ => by simp) (dr_i ?_) rfl
  have ea2 : Addr.add ⟨r, 1 + i * 10, none⟩ 2 = ⟨r, 1 + (i * 10 + 2), none⟩ := by rw [add_mk]; congr 1
  rw [ea2]
  refine h1.ws.st8 hs e rfl ?_
  intro w2 hw2 hx2 hz2
  have g1 : ∀ q : Spot, (S.set i q)[i]? = some q := fun q => List.getElem?_set_self hil
  refine dr_i ?_
  rw [ea2]
  refine hw2.st (k := 2) ⟨s.gen, s.there, { e with h := hh }⟩ (g1 _) (by decide) rfl rfl ?_
  intro w3 hw3 hx3 hz3
  rw [List.set_set] at hw3
  refine dw_mk ?_
  have hX : Ext (onl r) w1 w3.drew := (hx2.trans hx3).trans (Ext.of_no (Ext.drew w3))
  have hw4 := hw3.ext (Ext.drew w3) fun h => h
  have hb4 : w3.drew.heap[r1]? = some (.cells e.cells.toArray 27 (0, 0)) := hX.blk hkn.1 hne
  refine dr_i (ld_mk hw4.cell0 (asP_i rfl ?_))
  have c1 : w3.drew.cell? (Addr.add ⟨r1, 0, none⟩ 1) = some (.int .i64 e.x) := by rw [add_mk, blk_cell hb4]; rfl
  have c2 : w3.drew.cell? (Addr.add (Addr.add ⟨r1, 0, none⟩ 1) 1) = some (.int .i64 e.y) := by rw [add_mk, add_mk, blk_cell hb4]; rfl
  have c3 : w3.drew.cell? (Addr.add (Addr.add ⟨r1, 0, none⟩ 1) 2) = some (.int .i64 e.r) := by rw [add_mk, add_mk, blk_cell hb4]; rfl
  refine ld_mk c1 (asI_i rfl (ld_mk c2 (asI_i rfl (ld_mk c3 (asI_i rfl ?_)))))
  have em : Int.tmod hh 64 = (i : Int) := by
    rw [hi]
    conv => lhs; rw [hhn]
    rfl
  rw [em]
  obtain ⟨mb, mc, C, bb, kb, bc, kc, hg, hp⟩ := h1.gr
  have hg4 := hg.ext hX fun k hk e => h.nr (by
    have : k = r := e
    rw [← this]; exact hk)
  show cl Try.prog 35 #[.pointer (some ⟨g, 0, none⟩), .int .i64 (i : Int), e.box.v] w3.drew _
  refine gMove_k hg4 (fun x => ?_) ?_
  · rw [hp]
    have := h.bd x
    omega
  intro w5 F' C' bb' kb' bc' kc' hg5 hpl hx5 hF1 hF2
  have hXX : Ext (wF F r) w w5 := by
    have a1 : Ext (wF F r) w w1 := Ext.of_no hS.ext
    have a2 : Ext (wF F r) w w3.drew := a1.then hX fun k _ hk => .inr hk
    exact a2.then hx5 fun k _ hk => .inl hk
  have hsz := hS.ext.size
  have hsz2 := hX.size
  have hG : ∀ k, F' k → F k ∨ w.heap.size ≤ k := fun k hk => by
    rcases hF1 k hk with h | h
    · exact .inl h
    · exact .inr (by omega)
  refine asI_i rfl (lv_i (hok w5 F' i s (by rw [e1]; exact hE) hE hat hi hhn hs ht he ⟨hw4.ext hx5 h.nr, ⟨mb, mc, C', bb', kb', bc', kc', hg5, by rw [hpl, hp]⟩, fun hf => ?_, fun x => ?_, fun q hq => ?_⟩ hXX hG hF2))
  · rcases hG r hf with h' | h'
    · exact h.nr h'
    · omega
  · unfold gmoveD
    split
    · have := putL_len (l := cellsL' wside e.box) (id := (i : Int)) (D := dropL D (cellsL' wside (boxAt B (i : Int))) (i : Int)) x
      have := dropL_len (l := cellsL' wside (boxAt B (i : Int))) (id := (i : Int)) h.nd x
      have := h.bd x
      have := @cells_len wside e.box
      omega
    · have := h.bd x
      omega
  · rcases List.mem_or_eq_of_mem_set hq with hq | rfl
    · exact h.gen q hq
    · exact h.gen s (List.mem_of_getElem? hs)

/-! ### List -/
def listS (S : List Spot) : List Ent := (S.filter fun s => s.there).map fun s => s.e

theorem hold_of {P : Program} {w : World} {a : Addr} : ∀ (vs : List Value) (i : Nat), (∀ j v, vs[j]? = some v → w.cell? (a.add (i + j)) = some v) → Hold P w (factsOf a i vs)
  | [], _, _ => fun x hx => by simp [factsOf] at hx
  | v :: vs, i, h => by
    intro x hx
    simp only [factsOf, List.mem_cons] at hx
    rcases hx with rfl | hx
    · exact h 0 v rfl
    · exact hold_of vs (i + 1) (fun j u hj => by have := h (j + 1) u (by simpa using hj); rwa [show i + (j + 1) = i + 1 + j by omega] at this) x hx

theorem extract_spot {S : List Spot} {i : Nat} {s : Spot} (hi : S[i]? = some s) : ((S.flatMap Spot.cells).toArray.extract (i * 10) (i * 10 + 10)) = s.cells.toArray := by
  apply Array.ext_getElem?
  intro j
  have hl := fl_lenN (f := Spot.cells) Spot.cells_length S
  have hil := (List.getElem?_eq_some_iff.1 hi).1
  by_cases hj : j < 10
  · have := fl_getN (f := Spot.cells) Spot.cells_length hi j hj
    rw [Array.getElem?_extract]
    simp only [List.size_toArray, hl]
    rw [if_pos (by omega)]
    simpa using this
  · rw [Array.getElem?_extract]
    simp only [List.size_toArray, hl]
    rw [if_neg (by omega)]
    have : s.cells.length ≤ j := by rw [Spot.cells_length]; omega
    simp [this]

set_option maxRecDepth 100000 in
theorem sE : SlN Try.prog 43 27 8 64 := ⟨rfl, ⟨_, _, rfl, rfl, rfl, rfl, rfl⟩, by decide⟩
theorem Ent.cells_length (e : Ent) : e.cells.length = 8 := rfl
theorem Ent.one (e : Ent) : ∀ u ∈ e.cells, one u = true := by
  intro u hu
  simp only [Ent.cells, List.mem_cons, List.not_mem_nil, or_false] at hu
  rcases hu with rfl | rfl | rfl | rfl | rfl | rfl | rfl | rfl <;> rfl

theorem listS_take (S : List Spot) (i : Nat) {s : Spot} (hs : S[i]? = some s) : listS (S.take (i + 1)) = listS (S.take i) ++ (if s.there = true then [s.e] else []) := by
  unfold listS
  rw [List.take_add_one, hs, List.filter_append, List.map_append]
  congr 1
  simp only [Option.toList_some, List.filter_cons, List.filter_nil]
  split <;> simp

theorem listS_len (S : List Spot) : (listS S).length ≤ S.length := by
  unfold listS
  rw [List.length_map]
  exact List.length_filter_le _ _

theorem list_k {w : World} {r g : Nat} {S : List Spot} (hw : WS w r g S) {K : Value → World → Prop}
    (hK : ∀ p c w', Ext no w w' → RowN w' w.heap.size 27 8 p c (listS S).length ((listS S).flatMap Ent.cells) → K (.slice p (listS S).length c) w') :
    cl Try.prog 19 #[.pointer (some ⟨r, 0, none⟩)] w K := by
  apply F19_calls
  unfold F19
  have hl := fl_lenN (f := Spot.cells) Spot.cells_length S
  have h64 := hw.len
  refine dr_i ⟨S.flatMap Spot.cells, by rw [hl, h64], ?_, ?_⟩
  · refine hold_of _ 0 fun j v hj => ?_
    rw [Nat.zero_add, add_mk, add_mk, blk_cell hw.blk]
    unfold wc
    rw [List.getElem?_toArray, Nat.zero_add, Nat.add_comm 1, List.getElem?_cons_succ]
    exact hj
  refine lp_mk (fun t : (Option Addr × Nat × Nat) × Nat => [.slice t.1.1 t.1.2.1 t.1.2.2, .int .i64 (t.2 : Int)])
    (fun m t w' => m = 64 - t.2 ∧ t.2 ≤ 64 ∧ Ext no w w' ∧ t.1.2.1 = (listS (S.take t.2)).length ∧ RowN w' w.heap.size 27 8 t.1.1 t.1.2.2 t.1.2.1 ((listS (S.take t.2)).flatMap Ent.cells)) 64 ((none, 0, 0), 0) rfl
    ⟨rfl, Nat.zero_le _, Ext.refl _ _, rfl, RowN.nil _ _ _ _⟩ ?_
  rintro _ ⟨⟨p, n, c⟩, i⟩ w1 ⟨rfl, hi, hx1, hn, hr1⟩ J hJ
  simp only at hi hn hr1 hJ ⊢
  refine asS_i rfl (asI_i rfl (cond_split (fun hc => ?_) (fun hc => ?_)))
  · have hil : i < S.length := by
      have := of_decide_eq_true hc
      omega
    have hs : S[i]? = some S[i] := List.getElem?_eq_getElem hil
    generalize S[i] = s at hs
    have ei : IntKind.wrap .i64 ((i : Int) + 1) = ((i + 1 : Nat) : Int) := by rw [wr64 (by omega) (by omega)]; omega
    refine jn_of (fun t w' => ∃ p' c', t = [.slice p' (listS (S.take (i + 1))).length c'] ∧ Ext no w w' ∧ RowN w' w.heap.size 27 8 p' c' (listS (S.take (i + 1))).length ((listS (S.take (i + 1))).flatMap Ent.cells)) ?_ ?_
    · rintro _ w2 ⟨p', c', rfl, hx2, hr2⟩
      refine asS_i rfl ?_
      rw [ei]
      exact hJ (64 - (i + 1)) ((p', _, c'), i + 1) w2 (by omega) ⟨rfl, by simp only; omega, hx2, rfl, hr2⟩
    · intro J2 hJ2
      refine bnd_mk (by omega) (by omega) ?_
      rw [Int.toNat_natCast, extract_spot hs]
      refine asA_i (l := s.cells) rfl rfl (asI_i rfl (asB_i rfl (asI_i rfl (asI_i rfl (asI_i rfl (asI_i rfl (asI_i rfl (asI_i rfl (asI_i rfl (asI_i rfl ?_))))))))))
      have hS := St.start w1
      (refine St.nw hS ?_; clear hS; intro r2 _ hS)
      refine hS.st0 0 rfl rfl rfl fun w2 h2 => h2.st 0 rfl rfl rfl fun w3 h3 => h3.st 0 rfl rfl rfl fun w4 h4 => h4.st 0 rfl rfl rfl fun w5 h5 => h5.st 0 rfl rfl rfl fun w6 h6 => ?_
      refine h6.st 0 rfl rfl rfl fun w7 h7 => h7.st 0 rfl rfl rfl fun w8 h8 => h8.st 0 rfl rfl rfl fun w9 h9 => h9.st 0 rfl rfl rfl fun w10 h10 => h10.st 0 rfl rfl rfl fun w11 h11 => ?_
      have hb : w11.heap[r2]? = some (.cells s.cells.toArray 100 (0, 0)) := (h11.kn _ List.mem_cons_self).1
      have c1 : w11.cell? (Addr.add ⟨r2, 0, none⟩ 1) = some (.bool s.there) := by rw [add_mk, blk_cell hb]; rfl
      have hxx : Ext no w w11 := hx1.trans h11.ext
      refine ld_mk c1 (asB_i rfl (cond_split (fun ht => ?_) (fun ht => hJ2 _ _ ⟨p, c, ?_, hxx, ?_⟩)))
      · refine ld8b (o := 2) (e := s.e) hb (fun k hk => ?_) ?_ (by rw [add_mk])
        · simp only [List.getElem?_toArray]
          rw [Nat.add_comm]
          rfl
        have hlen := listS_len (S.take i)
        rw [List.length_take] at hlen
        refine sE.app1 (vs := s.e.cells) (hr1.ext h11.ext fun _ _ h => h) hxx.size rfl s.e.one (le_maxLen (by omega)) (by omega) ?_
        intro p' c' w12 hr12 hE12 hM12
        have hx12 : Ext no w w12 := hxx.then hE12 fun k hk ⟨a, ha, hab⟩ => by
          have := ((hr1.ext h11.ext fun _ _ h => h).at ha).1
          omega
        have el : listS (S.take (i + 1)) = listS (S.take i) ++ [s.e] := by rw [listS_take S i hs, if_pos ht]
        have el2 : n + 1 = (listS (S.take (i + 1))).length := by rw [el, List.length_append, ← hn]; rfl
        refine asS_i rfl (hJ2 _ _ ⟨p', c', by rw [el2], hx12, ?_⟩)
        rw [← el2, el, List.flatMap_append]
        simpa using hr12
      · have el : listS (S.take (i + 1)) = listS (S.take i) := by rw [listS_take S i hs, if_neg (by rw [ht]; decide)]; simp
        rw [el, ← hn]
      · have el : listS (S.take (i + 1)) = listS (S.take i) := by rw [listS_take S i hs, if_neg (by rw [ht]; decide)]; simp
        rw [el, ← hn]
        exact hr1.ext h11.ext fun _ _ h => h
  · have hi64 : i = 64 := by
      have := of_decide_eq_false hc
      omega
    subst hi64
    have et : S.take 64 = S := List.take_of_length_le (by omega)
    rw [et] at hn hr1
    subst hn
    exact hK p c w1 hx1 hr1
end Go.Proofs.Ytamobmjfdiecbaa
