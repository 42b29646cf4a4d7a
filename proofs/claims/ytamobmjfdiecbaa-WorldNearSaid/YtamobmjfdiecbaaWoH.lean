/- WoH: a world beside blocks of one's own: its calls again, told so; the document's examples of worlds come out (awake). Conditions: those of each theorem, on its arguments. -/
import Derived.Test.YtamobmjfdiecbaaWoG
namespace Go.Proofs.Ytamobmjfdiecbaa
open Go Go.Sx Go.Fp
attribute [local irreducible] jn lv ld st nw asI asB asP asS asY asM asF asA asT lp rn ru rq cl dw dr bnd bn2 nz nn hd hr so eqW
attribute [local irreducible] callOk

theorem _root_.Go.Sx.St.toM {w0 w w' : World} {L : List (Nat × List Value × TypeId)} (h : St w0 w L) {M : Nat → Prop} (hx : Ext M w w') (hM : ∀ k, M k → w0.heap.size ≤ k) (hL : ∀ b ∈ L, ¬ M b.1) : St w0 w' L :=
  ⟨h.ext.then hx fun k hk hm => by have := hM k hm; omega, fun b hb => ⟨hx.blk (h.kn b hb).1 (hL b hb), (h.kn b hb).2⟩, h.nd⟩

structure Pw (W w : World) (L : List (Nat × List Value × TypeId)) (F : Nat → Prop) (r g : Nat) (S : List Spot) (B : List (Int × Bx)) (D : List ((Int × Int) × List Int)) (N : Nat) : Prop where
  st : St W w L
  wd : Wd w F r g S B D N
  fr : ∀ k, wF F r k → W.heap.size ≤ k ∧ ∀ b ∈ L, b.1 ≠ k

section
variable {W w : World} {L : List (Nat × List Value × TypeId)} {F : Nat → Prop} {r g : Nat} {S : List Spot} {B : List (Int × Bx)} {D : List ((Int × Int) × List Int)} {N : Nat}

theorem Pw.to (h : Pw W w L F r g S B D N) {w' : World} (hx : Ext no w w') : Pw W w' L F r g S B D N := ⟨h.st.to hx, h.wd.ext hx fun _ _ hf => hf, h.fr⟩

theorem Pw.lt (h : Pw W w L F r g S B D N) : ∀ k, wF F r k → k < w.heap.size := by
  rintro k (hk | rfl)
  · exact h.wd.f_lt k hk
  · exact h.wd.r_lt

theorem Pw.nw (h : Pw W w L F r g S B D N) {cs : List Value} {t : TypeId} {K : Nat → World → Prop} (hK : ∀ q w', Pw W w' ((q, cs, t) :: L) F r g S B D N → K q w') : nw w (.cells cs.toArray t) K := by
  have hx := Ext.alloc w (.cells cs.toArray t)
  refine nw_mk (hK _ _ ⟨h.st.alloc cs t, h.wd.ext hx fun _ _ hf => hf, fun k hk => ⟨(h.fr k hk).1, fun b hb => ?_⟩⟩)
  · rcases List.mem_cons.1 hb with rfl | hb
    · have := h.lt k hk
      simp only
      omega
    · exact (h.fr k hk).2 b hb

/-- behind a step of the world -/
theorem Pw.step (h : Pw W w L F r g S B D N) {w' : World} {F' : Nat → Prop} {S' : List Spot} {B' : List (Int × Bx)} {D' : List ((Int × Int) × List Int)} {N' : Nat} (hw : Wd w' F' r g S' B' D' N') (hx : Ext (wF F r) w w') (hG : ∀ k, F' k → F k ∨ w.heap.size ≤ k) : Pw W w' L F' r g S' B' D' N' := by
  refine ⟨h.st.toM hx (fun k hk => (h.fr k hk).1) (fun b hb hk => (h.fr _ hk).2 b hb rfl), hw, ?_⟩
  have key : ∀ k, wF F' r k → wF F r k ∨ w.heap.size ≤ k := by
    rintro k (hk | rfl)
    · rcases hG k hk with h | h
      · exact .inl (.inl h)
      · exact .inr h
    · exact .inl (.inr rfl)
  intro k hk
  rcases key k hk with h' | h'
  · exact h.fr k h'
  · have := h.st.ext.size
    refine ⟨by omega, fun b hb => ?_⟩
    have := blk_lt (h.st.kn b hb).1
    omega

theorem Pw.start {F : Nat → Prop} {r g : Nat} {W w : World} (hs : St W w L) {w' : World} (hx : Ext no w w') (hw : Wd w' F r g S B D N) (hF : ∀ k, F k → w.heap.size ≤ k) (hr : w.heap.size ≤ r) : Pw W w' L F r g S B D N := by
  refine ⟨hs.to hx, hw, ?_⟩
  have := hs.ext.size
  rintro k (hk | rfl)
  · have := hF k hk
    refine ⟨by omega, fun b hb => ?_⟩
    have := blk_lt (hs.kn b hb).1
    omega
  · refine ⟨by omega, fun b hb => ?_⟩
    have := blk_lt (hs.kn b hb).1
    omega

theorem Pw.spawn (h : Pw W w L F r g S B D N) (hN : N ≤ 549755813888) {e : Ent} {K : Value → World → Prop}
    (hbad : ∀ w', Pw W w' L F r g S B D N → e.rightE ≠ 0 → K (.tuple #[.int .i64 0, .int .i64 e.rightE]) w')
    (hfull : ∀ w', Pw W w' L F r g S B D N → e.rightE = 0 → (∀ (j : Nat) s, S[j]? = some s → free s = false) → K (.tuple #[.int .i64 0, .int .i64 2]) w')
    (hok : ∀ w' F' i s, e.rightE = 0 → IsFree S i s → Pw W w' L F' r g (S.set i (spn s i e)) (gputB wside B i e.box) (gputD wside B D i e.box) (N + 1024) → K (.tuple #[.int .i64 ((s.gen + 1) * 64 + (i : Int)), .int .i64 0]) w') :
    cl Try.prog 16 #[.pointer (some ⟨r, 0, none⟩), e.v] w K :=
  spawn_k h.wd hN (fun w' hx he => hbad w' (h.to hx) he) (fun w' hx he hf => hfull w' (h.to hx) he hf) fun w' F' i s he hf hw hx hG _ => hok w' F' i s he hf (h.step hw hx hG)

theorem Pw.kill (h : Pw W w L F r g S B D N) (hN : N ≤ 549755813888) {hh : Int} {K : Value → World → Prop}
    (hnone : atI S hh = none → K (.int .i64 190) w)
    (hok : ∀ w' i s, atI S hh = some i → i = hh.toNat % 64 → hh = hh.toNat → S[i]? = some s → s.there = true → s.e.h = hh → Pw W w' L F r g (S.set i ⟨s.gen, false, s.e⟩) (gdropB B i) (gdropD wside B D i) N → K (.int .i64 0) w') :
    cl Try.prog 17 #[.pointer (some ⟨r, 0, none⟩), .int .i64 hh] w K :=
  kill_k h.wd hN hnone fun w' i s h1 h2 h3 h4 h5 h6 hw hx => hok w' i s h1 h2 h3 h4 h5 h6 (h.step hw hx fun k hk => .inl hk)

theorem Pw.get (h : Pw W w L F r g S B D N) {hh : Int} {K : Value → World → Prop} (hK : ∀ w', Pw W w' L F r g S B D N → K (.tuple #[(getE S hh).v, .int .i64 (getC S hh)]) w') :
    cl Try.prog 18 #[.pointer (some ⟨r, 0, none⟩), .int .i64 hh] w K := get_k h.wd.ws fun w' hx => hK w' (h.to hx)

theorem Pw.set (h : Pw W w L F r g S B D N) (hN : N ≤ 549755813888) {hh : Int} {e : Ent} {K : Value → World → Prop}
    (hbad : ∀ w', Pw W w' L F r g S B D N → setE S hh e ≠ 0 → K (.int .i64 (setE S hh e)) w')
    (hok : ∀ w' F' i s, setE S hh e = 0 → e.rightE = 0 → atI S hh = some i → i = hh.toNat % 64 → hh = hh.toNat → S[i]? = some s → s.there = true → s.e.h = hh → Pw W w' L F' r g (S.set i ⟨s.gen, s.there, { e with h := hh }⟩) (gmoveB wside B i e.box) (gmoveD wside B D i e.box) (N + 1024) → K (.int .i64 0) w') :
    cl Try.prog 20 #[.pointer (some ⟨r, 0, none⟩), .int .i64 hh, e.v] w K :=
  set_k h.wd hN (fun w' hx he => hbad w' (h.to hx) he) fun w' F' i s h0 h1 h2 h3 h4 h5 h6 h7 hw hx hG _ => hok w' F' i s h0 h1 h2 h3 h4 h5 h6 h7 (h.step hw hx hG)

theorem Pw.right (h : Pw W w L F r g S B D N) {e : Ent} {K : Value → World → Prop} (hK : ∀ w', Pw W w' L F r g S B D N → K (.int .i64 e.rightE) w') : cl Try.prog 15 #[e.v] w K := eright_k fun w' hx => hK w' (h.to hx)

theorem Pw.drew (h : Pw W w L F r g S B D N) {K : World → Prop} (hK : Pw W w.drew L F r g S B D N → K w.drew) : dw w K := dw_mk (hK (h.to (Ext.drew w)))

/-- an entity in a block of one's own, read -/
theorem Pw.ld8 (h : Pw W w L F r g S B D N) (i : Nat) {q : Nat} {e : Ent} (hL : L[i]? = some (q, e.cells, 27)) {K : Int → Int → Int → Int → Int → Int → Int → Int → Prop} (hK : K e.h e.x e.y e.r e.vx e.vy e.o e.t) :
    ld w ⟨q, 0, none⟩ fun v1 => asI .i64 v1 fun x0 => ld w (Addr.add ⟨q, 0, none⟩ 1) fun v2 => asI .i64 v2 fun x1 => ld w (Addr.add ⟨q, 0, none⟩ 2) fun v3 => asI .i64 v3 fun x2 => ld w (Addr.add ⟨q, 0, none⟩ 3) fun v4 => asI .i64 v4 fun x3 =>
      ld w (Addr.add ⟨q, 0, none⟩ 4) fun v5 => asI .i64 v5 fun x4 => ld w (Addr.add ⟨q, 0, none⟩ 5) fun v6 => asI .i64 v6 fun x5 => ld w (Addr.add ⟨q, 0, none⟩ 6) fun v7 => asI .i64 v7 fun x6 => ld w (Addr.add ⟨q, 0, none⟩ 7) fun v8 => asI .i64 v8 fun x7 => K x0 x1 x2 x3 x4 x5 x6 x7 :=
  ld8b (o := 0) (e := e) (h.st.kn _ (List.mem_of_getElem? hL)).1 (fun k _ => by simp) hK rfl

/-- an entity into the newest block of one's own -/
theorem Pw.st8 {q : Nat} {cs : List Value} {t : TypeId} (h : Pw W w ((q, cs, t) :: L) F r g S B D N) (hc : cs.length = 8) (e : Ent) {K : World → Prop} (hK : ∀ w', Pw W w' ((q, e.cells, t) :: L) F r g S B D N → K w') :
    Sx.st w ⟨q, 0, none⟩ (.int .i64 e.h) fun w1 => Sx.st w1 (Addr.add ⟨q, 0, none⟩ 1) (.int .i64 e.x) fun w2 => Sx.st w2 (Addr.add ⟨q, 0, none⟩ 2) (.int .i64 e.y) fun w3 => Sx.st w3 (Addr.add ⟨q, 0, none⟩ 3) (.int .i64 e.r) fun w4 =>
      Sx.st w4 (Addr.add ⟨q, 0, none⟩ 4) (.int .i64 e.vx) fun w5 => Sx.st w5 (Addr.add ⟨q, 0, none⟩ 5) (.int .i64 e.vy) fun w6 => Sx.st w6 (Addr.add ⟨q, 0, none⟩ 6) (.int .i64 e.o) fun w7 => Sx.st w7 (Addr.add ⟨q, 0, none⟩ 7) (.int .i64 e.t) fun w8 => K w8 := by
  have one : ∀ {w : World} {cs : List Value} {j : Nat} {v u : Value} {K : World → Prop}, Pw W w ((q, cs, t) :: L) F r g S B D N → cs[j]? = some u → Sx.one v = true → (∀ w', Pw W w' ((q, cs.set j v, t) :: L) F r g S B D N → K w') → Sx.st w ⟨q, j, none⟩ v K := by
    intro w cs j v u K h hj h1 hK
    refine h.st.stj 0 rfl hj h1 fun w' hs hx => hK w' ⟨hs, h.wd.ext hx fun k hk e => ?_, fun k hk => ⟨(h.fr k hk).1, fun b hb => ?_⟩⟩
    · have e' : k = q := e
      exact (h.fr k hk).2 (q, cs, t) List.mem_cons_self e'.symm
    · rcases List.mem_cons.1 hb with rfl | hb
      · exact (h.fr k hk).2 (q, cs, t) List.mem_cons_self
      · exact (h.fr k hk).2 b (List.mem_cons_of_mem _ hb)
  match cs, hc with
  | [a0, a1, a2, a3, a4, a5, a6, a7], _ =>
    simp only [add_mk, Nat.zero_add]
    exact one h rfl rfl fun w1 h1 => one h1 rfl rfl fun w2 h2 => one h2 rfl rfl fun w3 h3 => one h3 rfl rfl fun w4 h4 => one h4 rfl rfl fun w5 h5 => one h5 rfl rfl fun w6 h6 => one h6 rfl rfl fun w7 h7 => one h7 rfl rfl fun w8 h8 => hK w8 h8
end

theorem IsFree.unique {S : List Spot} {i j : Nat} {s t : Spot} (h : IsFree S i s) (h' : IsFree S j t) : i = j ∧ s = t := by
  have key : ∀ {i j : Nat} {s t : Spot}, IsFree S i s → IsFree S j t → ¬ i < j := fun h h' hlt => by
    have := h'.2.2 _ _ hlt h.1
    rw [h.2.1] at this
    cases this
  have h1 := key h h'
  have h2 := key h' h
  have e : i = j := by omega
  subst e
  have := h.1.symm.trans h'.1
  exact ⟨rfl, by simpa using this⟩

def one1 : Ent := ⟨0, 0, 0, 1, 0, 0, 0, 0⟩
def aS0 : List Spot := List.replicate 64 Spot.zero
def aS1 : List Spot := aS0.set 0 (spn Spot.zero 0 one1)
def aS2 : List Spot := aS1.set 1 (spn Spot.zero 1 one1)
def aS3 : List Spot := aS2.set 0 ⟨1, false, { one1 with h := 64 }⟩
def aS4 : List Spot := aS3.set 0 (spn ⟨1, false, { one1 with h := 64 }⟩ 0 one1)

theorem wawake_k {w : World} {K : Value → World → Prop} (hK : ∀ w', Ext no w w' → K (.bool true) w') : cl Try.prog 13 #[] w K := by
  apply F13_calls
  unfold F13
  refine wnew_k ?_
  intro w1 F r g hw hx1 hF hr
  refine asP_i rfl (cond_f rfl ?_)
  have hP := Pw.start (St.start w) hx1 hw hF hr
  refine hP.nw (cs := Ent.zero.cells) fun q w2 hP => ?_
  refine hP.st8 rfl one1 fun w3 hP => ?_
  have h1 : one1.rightE = 0 := by decide
  have f0 : IsFree aS0 0 Spot.zero := ⟨rfl, rfl, fun j s hj => absurd hj (by omega)⟩
  refine hP.ld8 0 rfl (hP.spawn (e := one1) (by decide) (fun w' _ he => absurd h1 he) (fun w' _ _ hf => absurd (hf 0 _ f0.1) (by decide)) ?_)
  intro w4 F4 i s _ hf hP
  obtain ⟨rfl, rfl⟩ := hf.unique f0
  refine asT_i rfl rfl (asI_i rfl (asI_i rfl (lv_i (lv_i ?_))))
  replace hP : Pw w w4 _ F4 r g aS1 _ _ _ := hP
  have f1 : IsFree aS1 1 Spot.zero := ⟨rfl, rfl, fun j s hj hs => by
    have : j = 0 := by omega
    subst this
    cases hs
    rfl⟩
  refine hP.ld8 0 rfl (hP.spawn (e := one1) (by decide) (fun w' _ he => absurd h1 he) (fun w' _ _ hf => absurd (hf 1 _ f1.1) (by decide)) ?_)
  intro w5 F5 i s _ hf hP
  obtain ⟨rfl, rfl⟩ := hf.unique f1
  refine asT_i rfl rfl (asI_i rfl (asI_i rfl (lv_i (lv_i ?_))))
  replace hP : Pw w w5 _ F5 r g aS2 _ _ _ := hP
  have hat : atI aS2 64 = some 0 := by decide
  refine hP.kill (by decide) (fun hn => ?_) ?_
  · have : atI aS2 64 = none := hn
    rw [hat] at this
    cases this
  intro w6 i s ha _ _ hs _ _ hP
  have : atI aS2 64 = some i := ha
  rw [hat] at this
  cases this
  have hs' : aS2[0]? = some s := hs
  have hs2 : aS2[0]? = some ⟨1, true, { one1 with h := 64 }⟩ := rfl
  rw [hs2] at hs'
  cases hs'
  refine asI_i rfl (lv_i ?_)
  replace hP : Pw w w6 _ F5 r g aS3 _ _ _ := hP
  have f3 : IsFree aS3 0 ⟨1, false, { one1 with h := 64 }⟩ := ⟨rfl, rfl, fun j s hj => absurd hj (by omega)⟩
  refine hP.ld8 0 rfl (hP.spawn (e := one1) (by decide) (fun w' _ he => absurd h1 he) (fun w' _ _ hf => absurd (hf 0 _ f3.1) (by decide)) ?_)
  intro w7 F7 i s _ hf hP
  obtain ⟨rfl, rfl⟩ := hf.unique f3
  refine asT_i rfl rfl (asI_i rfl (asI_i rfl (lv_i (lv_i ?_))))
  replace hP : Pw w w7 _ F7 r g aS4 _ _ _ := hP
  have hat4 : atI aS4 64 = none := by decide
  refine hP.get fun w8 hP => ?_
  have eC : getC aS4 64 = 190 := by unfold getC; rw [hat4]; rfl
  rw [eC]
  refine asT_i (l := [(getE _ 64).v, .int .i64 190]) rfl rfl (asI8 ?_)
  generalize getE _ 64 = z
  refine asI_i rfl (asI_i rfl (asI_i rfl (asI_i rfl (asI_i rfl (asI_i rfl (asI_i rfl (asI_i rfl (asI_i rfl ?_))))))))
  refine hP.nw (cs := Ent.zero.cells) fun q2 w9 hP => ?_
  refine hP.st8 rfl z fun w10 hP => lv_i ?_
  have hz : Ent.zero.rightE = 60 := by decide
  refine hP.spawn (e := Ent.zero) (by decide) ?_ (fun w' _ he => absurd he (by decide)) (fun w' F' i s he => absurd he (by decide))
  intro w11 hP _
  rw [hz]
  refine asT_i rfl rfl (asI_i rfl (asI_i rfl (lv_i (lv_i ?_))))
  have h9 : (⟨0, 0, 0, 1, 0, 0, 9, 0⟩ : Ent).rightE = 1 := by decide
  refine hP.spawn (e := ⟨0, 0, 0, 1, 0, 0, 9, 0⟩) (by decide) ?_ (fun w' _ he => absurd he (by decide)) (fun w' F' i s he => absurd he (by decide))
  intro w12 hP _
  rw [h9]
  refine asT_i rfl rfl (asI_i rfl (asI_i rfl (lv_i (lv_i (jn_mk ?_)))))
  refine cond_t rfl (cond_t rfl (cond_t rfl (cond_t rfl (cond_t rfl (cond_t rfl (cond_t rfl (cond_t rfl (cond_t rfl (cond_t rfl ?_)))))))))
  refine hP.ld8 1 rfl (hP.right (e := one1) fun w13 hP => ?_)
  rw [h1]
  exact asI_i rfl (asB_i rfl (hK w13 hP.st.ext))
end Go.Proofs.Ytamobmjfdiecbaa
