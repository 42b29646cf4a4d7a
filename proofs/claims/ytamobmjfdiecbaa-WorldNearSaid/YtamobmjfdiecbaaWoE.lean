/- WoE: what a world's calls Spawn, Kill, Get, Set, List do, as contracts over lists of places. Conditions: those of each theorem, on its arguments. -/
import Derived.Test.YtamobmjfdiecbaaWoD
namespace Go.Proofs.Ytamobmjfdiecbaa
open Go Go.Sx Go.Fp
attribute [local irreducible] jn lv ld st nw asI asB asP asS asY asM asF asA asT lp rn ru rq cl dw dr bnd bn2 nz nn hd hr so eqW
attribute [local irreducible] callOk

def free (s : Spot) : Bool := !s.there && !(s.gen == 1099511627776)
/-- the first place that is free -/
def IsFree (S : List Spot) (i : Nat) (s : Spot) : Prop := S[i]? = some s ∧ free s = true ∧ ∀ j s', j < i → S[j]? = some s' → free s' = false
def spn (s : Spot) (i : Nat) (e : Ent) : Spot := ⟨s.gen + 1, true, { e with h := (s.gen + 1) * 64 + (i : Int) }⟩

theorem putL_len {l : List (Int × Int)} {id : Int} : ∀ {D : List ((Int × Int) × List Int)} (x : Int × Int), ((aget (putL D l id) x).getD []).length ≤ ((aget D x).getD []).length + l.length := by
  induction l with
  | nil => intro D x; exact Nat.le_refl _
  | cons c l ih =>
    intro D x
    have h1 := ih (D := addTo D c id) x
    have h2 := addTo_len (D := D) (c := c) (id := id) x
    have e : putL D (c :: l) id = putL (addTo D c id) l id := rfl
    rw [e, List.length_cons]
    omega

def wF (F : Nat → Prop) (r : Nat) : Nat → Prop := fun k => F k ∨ k = r

theorem Wd.nd {w : World} {F : Nat → Prop} {r g : Nat} {S : List Spot} {B : List (Int × Bx)} {D : List ((Int × Int) × List Int)} {N : Nat} (h : Wd w F r g S B D N) : (D.map (·.1)).Nodup := by
  obtain ⟨mb, mc, C, bb, kb, bc, kc, hg, hp⟩ := h.gr
  rw [← hp]
  exact pl_nd hg.nd

theorem spawn_k {w : World} {F : Nat → Prop} {r g : Nat} {S : List Spot} {B : List (Int × Bx)} {D : List ((Int × Int) × List Int)} {N : Nat} (h : Wd w F r g S B D N) (hN : N ≤ 549755813888) {e : Ent} {K : Value → World → Prop}
    (hbad : ∀ w', Ext no w w' → e.rightE ≠ 0 → K (.tuple #[.int .i64 0, .int .i64 e.rightE]) w')
    (hfull : ∀ w', Ext no w w' → e.rightE = 0 → (∀ (j : Nat) s, S[j]? = some s → free s = false) → K (.tuple #[.int .i64 0, .int .i64 2]) w')
    (hok : ∀ w' F' i s, e.rightE = 0 → IsFree S i s → Wd w' F' r g (S.set i (spn s i e)) (gputB wside B i e.box) (gputD wside B D i e.box) (N + 1024) → Ext (wF F r) w w' → (∀ k, F' k → F k ∨ w.heap.size ≤ k) → (∀ k, F k → F' k) →
      K (.tuple #[.int .i64 ((s.gen + 1) * 64 + (i : Int)), .int .i64 0]) w') :
    cl Try.prog 16 #[.pointer (some ⟨r, 0, none⟩), e.v] w K := by
  apply F16_calls
  unfold F16
  have hS := St.start w
  (refine St.nw hS ?_; clear hS; intro r1 _ hS)
  refine lv_i (lv_i ?_)
  repeat (first | (refine asI_i rfl ?_) | (refine asB_i rfl ?_) | (refine asP_i rfl ?_) | (refine asS_i rfl ?_) | (refine asY_i rfl ?_) | (refine asM_i rfl ?_) | (refine asA_i rfl rfl ?_) | (refine asT_i rfl rfl ?_) | (refine lv_i ?_) | (refine St.nw hS ?_; clear hS; intro _ _ hS) | (refine St.dw hS ?_; clear hS; intro _ hS _) | (refine hS.ld0 0 rfl rfl ?_) | (refine hS.ld 0 rfl rfl ?_) | (refine hS.ld0 1 rfl rfl ?_) | (refine hS.ld 1 rfl rfl ?_) | (refine hS.ld0 2 rfl rfl ?_) | (refine hS.ld 2 rfl rfl ?_) | (refine hS.ld0 3 rfl rfl ?_) | (refine hS.ld 3 rfl rfl ?_) | (refine hS.ld0 4 rfl rfl ?_) | (refine hS.ld 4 rfl rfl ?_) | (refine hS.ld0 5 rfl rfl ?_) | (refine hS.ld 5 rfl rfl ?_) | (refine hS.ld0 6 rfl rfl ?_) | (refine hS.ld 6 rfl rfl ?_) | (refine hS.ld0 7 rfl rfl ?_) | (refine hS.ld 7 rfl rfl ?_) | (refine hS.hd0 0 rfl rfl ?_) | (refine hS.hd 0 rfl rfl ?_) | (refine hS.hd0 1 rfl rfl ?_) | (refine hS.hd 1 rfl rfl ?_) | (refine hS.hd0 2 rfl rfl ?_) | (refine hS.hd 2 rfl rfl ?_) | (refine hS.hd0 3 rfl rfl ?_) | (refine hS.hd 3 rfl rfl ?_) | (refine hS.hd0 4 rfl rfl ?_) | (refine hS.hd 4 rfl rfl ?_) | (refine hS.hd0 5 rfl rfl ?_) | (refine hS.hd 5 rfl rfl ?_) | (refine hS.hd0 6 rfl rfl ?_) | (refine hS.hd 6 rfl rfl ?_) | (refine hS.hd0 7 rfl rfl ?_) | (refine hS.hd 7 rfl rfl ?_) | (refine hS.st0 0 rfl rfl rfl ?_; clear hS; intro _ hS) | (refine hS.st 0 rfl rfl rfl ?_; clear hS; intro _ hS) | (refine hS.st0 1 rfl rfl rfl ?_; clear hS; intro _ hS) | (refine hS.st 1 rfl rfl rfl ?_; clear hS; intro _ hS) | (refine hS.st0 2 rfl rfl rfl ?_; clear hS; intro _ hS) | (refine hS.st 2 rfl rfl rfl ?_; clear hS; intro _ hS) | (refine hS.st0 3 rfl rfl rfl ?_; clear hS; intro _ hS) | (refine hS.st 3 rfl rfl rfl ?_; clear hS; intro _ hS) | (refine hS.st0 4 rfl rfl rfl ?_; clear hS; intro _ hS) | (refine hS.st 4 rfl rfl rfl ?_; clear hS; intro _ hS) | (refine hS.st0 5 rfl rfl rfl ?_; clear hS; intro _ hS) | (refine hS.st 5 rfl rfl rfl ?_; clear hS; intro _ hS) | (refine hS.st0 6 rfl rfl rfl ?_; clear hS; intro _ hS) | (refine hS.st 6 rfl rfl rfl ?_; clear hS; intro _ hS) | (refine hS.st0 7 rfl rfl rfl ?_; clear hS; intro _ hS) | (refine hS.st 7 rfl rfl rfl ?_; clear hS; intro _ hS) | (refine bnd_mk (by decide) (by decide) ?_) | (refine so_i rfl ?_))
  show cl Try.prog 15 #[e.v] _ _
  refine eright_k ?_
  intro w1 hx1
  replace hS := hS.to hx1
  clear hx1
  refine asI_i rfl (lv_i (cond_split (fun h0 => ?_) (fun h0 => ?_)))
  · exact lv_i (lv_i (hbad _ hS.ext (by simpa using h0)))
  have hE : e.rightE = 0 := by simpa using h0
  have hr1 : r < w.heap.size := h.r_lt
  refine lp_mk (fun i : Nat => [.int .i64 (i : Int)]) (fun m i w' => m = 64 - i ∧ i ≤ 64 ∧ St w w' [(r1, e.cells, 27)] ∧ ∀ (j : Nat) s, j < i → S[j]? = some s → free s = false) 64 0 rfl ⟨rfl, Nat.zero_le _, hS, fun j s hj => by omega⟩ ?_
  clear hS
  rintro _ i w2 ⟨rfl, hi, hS, hall⟩ J hJ
  refine asI_i rfl (cond_split (fun hc => ?_) (fun hc => ?_))
  · have hil : i < S.length := by
      rw [h.ws.len]
      have := of_decide_eq_true hc
      omega
    have hs : S[i]? = some S[i] := List.getElem?_eq_getElem hil
    have hgm := h.gen S[i] (List.getElem_mem hil)
    generalize S[i] = s at hs hgm
    have h2 := h.ext hS.ext fun _ _ hf => hf
    have hi64 : i < 64 := by rw [h.ws.len] at hil; exact hil
    refine lv_i (dr_i (bnd_mk (by omega) (by omega) ?_))
    have ea : Addr.add (Addr.add ⟨r, 0, none⟩ 1) (Int.toNat (i : Int) * 10) = ⟨r, 1 + (i * 10 + 0), none⟩ := by rw [add_mk, add_mk, Int.toNat_natCast]; congr 1 <;> omega
    rw [ea]
    have ea1 : Addr.add ⟨r, 1 + (i * 10 + 0), none⟩ 1 = ⟨r, 1 + (i * 10 + 1), none⟩ := by rw [add_mk]; congr 1
    have ea2 : Addr.add ⟨r, 1 + (i * 10 + 0), none⟩ 2 = ⟨r, 1 + (i * 10 + 2), none⟩ := by rw [add_mk]; congr 1
    rw [ea1, ea2]
    refine jn_of (fun t w' => t = [.bool (!free s)] ∧ w2 = w') ?_ ?_
    · rintro _ _ ⟨rfl, rfl⟩
      refine asB_i rfl (cond_split (fun hb => ?_) (fun hb => ?_))
      · have ei : IntKind.wrap .i64 ((i : Int) + 1) = ((i + 1 : Nat) : Int) := by rw [wr64 (by omega) (by omega)]; omega
        rw [ei]
        refine hJ (64 - (i + 1)) (i + 1) w2 (by omega) ⟨rfl, by omega, hS, fun j s' hj hs' => ?_⟩
        by_cases hji : j = i
        · subst hji
          rw [hs] at hs'
          cases hs'
          simpa using hb
        · exact hall j s' (by omega) hs'
      have hfr : free s = true := by simpa using hb
      have hgen : s.gen + 1 ≤ 1099511627776 := by
        have : s.gen ≠ 1099511627776 := by
          intro hg
          unfold free at hfr
          rw [hg] at hfr
          simp at hfr
        omega
      refine ld_mk (h2.ws.cell hs (k := 0) rfl) (asI_i rfl ?_)
      rw [wr64 (n := s.gen + 1) (by omega) (by omega)]
      refine h2.ws.st (k := 0) ⟨s.gen + 1, s.there, s.e⟩ hs (by decide) rfl rfl ?_
      intro w3 hw3 hx3 hz3
      have g1 : ∀ q : Spot, (S.set i q)[i]? = some q := fun q => List.getElem?_set_self hil
      refine hw3.st (k := 1) ⟨s.gen + 1, true, s.e⟩ (g1 _) (by decide) rfl rfl ?_
      intro w4 hw4 hx4 hz4
      rw [List.set_set] at hw4
      have hkn := hS.kn (r1, e.cells, 27) List.mem_cons_self
      have hne : r1 ≠ r := by
        have := hkn.2
        simp only at this
        omega
      have hb4 : w4.heap[r1]? = some (.cells e.cells.toArray 27 (0, 0)) := hx4.blk (hx3.blk hkn.1 hne) hne
      refine ld8b hb4 (o := 0) (e := e) (fun k _ => by simp) ?_ rfl
      refine hw4.st8 (g1 _) e rfl ?_
      intro w5 hw5 hx5 hz5
      rw [List.set_set] at hw5
      refine ld_mk (hw5.cell (g1 _) (k := 0) rfl) (asI_i rfl ?_)
      have ew : IntKind.wrap .i64 (IntKind.wrap .i64 ((s.gen + 1) * 64) + (i : Int)) = (s.gen + 1) * 64 + (i : Int) := by rw [wr64 (n := (s.gen + 1) * 64) (by omega) (by omega), wr64 (by omega) (by omega)]
      simp only
      rw [ew]
      refine hw5.st (k := 2) (spn s i e) (g1 _) (by decide) rfl rfl ?_
      intro w6 hw6 hx6 hz6
      rw [List.set_set] at hw6
      refine dw_mk ?_
      have hX26 : Ext (onl r) w2 w6.drew := ((((hx3.trans hx4).trans hx5).trans hx6).trans (Ext.of_no (Ext.drew w6)))
      have hw7 := hw6.ext (Ext.drew w6) fun h => h
      have hb7 : w6.drew.heap[r1]? = some (.cells e.cells.toArray 27 (0, 0)) := hX26.blk hkn.1 hne
      refine dr_i (ld_mk hw7.cell0 (asP_i rfl ?_))
      have c1 : w6.drew.cell? (Addr.add ⟨r1, 0, none⟩ 1) = some (.int .i64 e.x) := by rw [add_mk, blk_cell hb7]; rfl
      have c2 : w6.drew.cell? (Addr.add (Addr.add ⟨r1, 0, none⟩ 1) 1) = some (.int .i64 e.y) := by rw [add_mk, add_mk, blk_cell hb7]; rfl
      have c3 : w6.drew.cell? (Addr.add (Addr.add ⟨r1, 0, none⟩ 1) 2) = some (.int .i64 e.r) := by rw [add_mk, add_mk, blk_cell hb7]; rfl
      refine ld_mk c1 (asI_i rfl (ld_mk c2 (asI_i rfl (ld_mk c3 (asI_i rfl ?_)))))
      obtain ⟨mb, mc, C, bb, kb, bc, kc, hg, hp⟩ := h2.gr
      have hg7 := hg.ext hX26 fun k hk e => h.nr (by
        have : k = r := e
        rw [← this]; exact hk)
      show cl Try.prog 30 #[.pointer (some ⟨g, 0, none⟩), .int .i64 (i : Int), e.box.v] w6.drew _
      refine gPut_k hg7 (fun x => ?_) ?_
      · rw [hp]
        have := h.bd x
        omega
      intro w8 F' C' bb' kb' bc' kc' hg8 hpl hx8 hF1 hF2
      have hw8 := hw7.ext hx8 h.nr
      refine asI_i rfl (ld_mk (hw8.cell (g1 _) (k := 2) rfl) (asI_i rfl (lv_i (lv_i ?_))))
      have hX : Ext (wF F r) w w8 := by
        have a1 : Ext (wF F r) w w2 := Ext.of_no hS.ext
        have a2 : Ext (wF F r) w w6.drew := a1.then hX26 fun k _ hk => .inr hk
        exact a2.then hx8 fun k _ hk => .inl hk
      have hsz := hS.ext.size
      have hsz2 := hX26.size
      have hG : ∀ k, F' k → F k ∨ w.heap.size ≤ k := fun k hk => by
        rcases hF1 k hk with h | h
        · exact .inl h
        · exact .inr (by omega)
      refine hok w8 F' i s hE ⟨hs, hfr, fun j s' hj hs' => hall j s' hj hs'⟩ ⟨hw8, ⟨mb, mc, C', bb', kb', bc', kc', hg8, by rw [hpl, hp]⟩, fun hf => ?_, fun x => ?_, fun q hq => ?_⟩ hX hG hF2
      · rcases hG r hf with h' | h'
        · exact h.nr h'
        · omega
      · unfold gputD
        split
        · have := putL_len (l := cellsL' wside e.box) (id := (i : Int)) (D := D) x
          have := h.bd x
          have := @cells_len wside e.box
          omega
        · have := h.bd x
          omega
      · rcases List.mem_or_eq_of_mem_set hq with hq | rfl
        · exact h.gen q hq
        · simp only [spn]; omega
    · intro J2 hJ2
      refine ld_mk (h2.ws.cell hs (k := 1) rfl) (asB_i rfl (cond_split (fun hb => hJ2 _ _ ⟨?_, rfl⟩) (fun hb => ld_mk (h2.ws.cell hs (k := 0) rfl) (asI_i rfl (hJ2 _ _ ⟨?_, rfl⟩)))))
      · unfold free
        rw [hb]; rfl
      · unfold free
        rw [hb]
        simp
  · have hi64 : i = 64 := by
      have := of_decide_eq_false hc
      omega
    subst hi64
    refine lv_i (lv_i (hfull _ hS.ext hE fun j s hs => hall j s ?_ hs))
    have := (List.getElem?_eq_some_iff.1 hs).1
    rw [h.ws.len] at this
    exact this

/-- an entity that is written to a block of one's own -/
theorem _root_.Go.Sx.St.st8 {w0 w : World} {L : List (Nat × List Value × TypeId)} (h : St w0 w L) (i : Nat) {r : Nat} {cs : List Value} {t : TypeId} (hL : L[i]? = some (r, cs, t)) (hc : cs.length = 8) (e : Ent) {K : World → Prop}
    (hK : ∀ w', St w0 w' (L.set i (r, e.cells, t)) → K w') :
    Sx.st w ⟨r, 0, none⟩ (.int .i64 e.h) fun w1 => Sx.st w1 (Addr.add ⟨r, 0, none⟩ 1) (.int .i64 e.x) fun w2 => Sx.st w2 (Addr.add ⟨r, 0, none⟩ 2) (.int .i64 e.y) fun w3 => Sx.st w3 (Addr.add ⟨r, 0, none⟩ 3) (.int .i64 e.r) fun w4 =>
      Sx.st w4 (Addr.add ⟨r, 0, none⟩ 4) (.int .i64 e.vx) fun w5 => Sx.st w5 (Addr.add ⟨r, 0, none⟩ 5) (.int .i64 e.vy) fun w6 => Sx.st w6 (Addr.add ⟨r, 0, none⟩ 6) (.int .i64 e.o) fun w7 => Sx.st w7 (Addr.add ⟨r, 0, none⟩ 7) (.int .i64 e.t) fun w8 => K w8 := by
  match cs, hc with
  | [a0, a1, a2, a3, a4, a5, a6, a7], _ =>
    have hil := (List.getElem?_eq_some_iff.1 hL).1
    have g1 : ∀ q : Nat × List Value × TypeId, (L.set i q)[i]? = some q := fun q => List.getElem?_set_self hil
    refine h.st0 i hL rfl rfl fun w1 h1 => ?_
    refine h1.st i (g1 _) rfl rfl fun w2 h2 => ?_
    rw [List.set_set] at h2
    refine h2.st i (g1 _) rfl rfl fun w3 h3 => ?_
    rw [List.set_set] at h3
    refine h3.st i (g1 _) rfl rfl fun w4 h4 => ?_
    rw [List.set_set] at h4
    refine h4.st i (g1 _) rfl rfl fun w5 h5 => ?_
    rw [List.set_set] at h5
    refine h5.st i (g1 _) rfl rfl fun w6 h6 => ?_
    rw [List.set_set] at h6
    refine h6.st i (g1 _) rfl rfl fun w7 h7 => ?_
    rw [List.set_set] at h7
    refine h7.st i (g1 _) rfl rfl fun w8 h8 => ?_
    rw [List.set_set] at h8
    exact hK w8 h8

theorem kill_k {w : World} {F : Nat → Prop} {r g : Nat} {S : List Spot} {B : List (Int × Bx)} {D : List ((Int × Int) × List Int)} {N : Nat} (h : Wd w F r g S B D N) (hN : N ≤ 549755813888) {hh : Int} {K : Value → World → Prop}
    (hnone : atI S hh = none → K (.int .i64 190) w)
    (hok : ∀ w' i s, atI S hh = some i → i = hh.toNat % 64 → hh = hh.toNat → S[i]? = some s → s.there = true → s.e.h = hh → Wd w' F r g (S.set i ⟨s.gen, false, s.e⟩) (gdropB B i) (gdropD wside B D i) N → Ext (wF F r) w w' → K (.int .i64 0) w') :
    cl Try.prog 17 #[.pointer (some ⟨r, 0, none⟩), .int .i64 hh] w K := by
  apply F17_calls
  unfold F17
  refine lv_i (at_k h.ws (fun hn => asP_i rfl (cond_t rfl (lv_i (hnone hn)))) ?_)
  intro i s hat hhn hi hs ht he
  refine asP_i rfl (cond_f rfl (dr_i ?_))
  have ea1 : Addr.add ⟨r, 1 + i * 10, none⟩ 1 = ⟨r, 1 + (i * 10 + 1), none⟩ := by rw [add_mk]; congr 1
  rw [ea1]
  refine h.ws.st (k := 1) ⟨s.gen, false, s.e⟩ hs (by decide) rfl rfl ?_
  intro w1 hw1 hx1 hz1
  refine dr_i (ld_mk hw1.cell0 (asP_i rfl ?_))
  have em : Int.tmod hh 64 = (i : Int) := by
    rw [hi]
    conv => lhs; rw [hhn]
    rfl
  rw [em]
  obtain ⟨mb, mc, C, bb, kb, bc, kc, hg, hp⟩ := h.gr
  have hg1 := hg.ext hx1 fun k hk e => h.nr (by
    have : k = r := e
    rw [← this]; exact hk)
  refine gDrop_k hg1 (fun x => ?_) ?_
  · rw [hp]
    have := h.bd x
    omega
  intro w2 C' bb' kb' bc' kc' hg2 hpl hx2
  refine asI_i rfl (lv_i (hok w2 i s hat hi hhn hs ht he ⟨hw1.ext hx2 h.nr, ⟨mb, mc, C', bb', kb', bc', kc', hg2, by rw [hpl, hp]⟩, h.nr, fun x => ?_, fun q hq => ?_⟩ ?_))
  · unfold gdropD
    split
    · exact Nat.le_trans (dropL_len h.nd x) (h.bd x)
    · exact h.bd x
  · rcases List.mem_or_eq_of_mem_set hq with hq | rfl
    · exact h.gen q hq
    · exact h.gen s (List.mem_of_getElem? hs)
  · have a1 : Ext (wF F r) w w1 := hx1.mono fun k _ hk => .inr hk
    exact a1.then hx2 fun k _ hk => .inl hk

def getE (S : List Spot) (h : Int) : Ent := match atI S h with
  | some i => match S[i]? with | some s => s.e | none => Ent.zero
  | none => Ent.zero
def getC (S : List Spot) (h : Int) : Int := if (atI S h).isSome = true then 0 else 190

theorem get_k {w : World} {r g : Nat} {S : List Spot} (hw : WS w r g S) {hh : Int} {K : Value → World → Prop}
    (hK : ∀ w', Ext no w w' → K (.tuple #[(getE S hh).v, .int .i64 (getC S hh)]) w') :
    cl Try.prog 18 #[.pointer (some ⟨r, 0, none⟩), .int .i64 hh] w K := by
  apply F18_calls
  unfold F18
  have hS := St.start w
  (refine St.nw hS ?_; clear hS; intro r1 _ hS)
  have hw1 := hw.ext hS.ext fun h => h
  refine lv_i (at_k hw1 (fun hn => ?_) (fun i s hat hhn hi hs ht he => ?_))
  · refine asP_i rfl (cond_t rfl ?_)
    refine hS.st8 0 rfl rfl Ent.zero ?_
    intro w2 hS2
    refine lv_i (ld8b (e := Ent.zero) (o := 0) (hS2.kn _ List.mem_cons_self).1 (fun k _ => by simp) ?_ rfl)
    have e1 : getE S hh = Ent.zero := by unfold getE; rw [hn]
    have e2 : getC S hh = 190 := by unfold getC; rw [hn]; rfl
    have := hK _ hS2.ext
    rw [e1, e2] at this
    exact this
  · refine asP_i rfl (cond_f rfl (dr_i ?_))
    have ea2 : Addr.add ⟨r, 1 + i * 10, none⟩ 2 = ⟨r, 1 + (i * 10 + 2), none⟩ := by rw [add_mk]; congr 1
    rw [ea2]
    refine ld8b (e := s.e) hw1.blk (fun k hk => ?_) ?_ rfl
    · have := wc_get (g := g) hs (k := 2 + k) (by omega)
      rw [show 1 + (i * 10 + 2) + k = 1 + (i * 10 + (2 + k)) by omega]
      simp only [List.getElem?_toArray, this]
      rw [Nat.add_comm 2 k]
      rfl
    refine hS.st8 0 rfl rfl s.e ?_
    intro w2 hS2
    refine lv_i (ld8b (e := s.e) (o := 0) (hS2.kn _ List.mem_cons_self).1 (fun k _ => by simp) ?_ rfl)
    have e1 : getE S hh = s.e := by unfold getE; rw [hat]; simp only [hs]
    have e2 : getC S hh = 0 := by unfold getC; rw [hat]; rfl
    have := hK _ hS2.ext
    rw [e1, e2] at this
    exact this
end Go.Proofs.Ytamobmjfdiecbaa
