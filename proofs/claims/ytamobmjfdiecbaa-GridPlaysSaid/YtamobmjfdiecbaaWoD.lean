/- WoD: a world as a thing in memory: its places are read and written; New and at. Conditions: those of each theorem, on its arguments. -/
import Derived.Test.YtamobmjfdiecbaaWoC
namespace Go.Proofs.Ytamobmjfdiecbaa
open Go Go.Sx Go.Fp
attribute [local irreducible] jn lv ld st nw asI asB asP asS asY asM asF asA asT lp rn ru rq cl dw dr bnd bn2 nz nn hd hr so eqW
attribute [local irreducible] callOk

structure Spot where
  gen : Int
  there : Bool
  e : Ent

def Ent.zero : Ent := ⟨0, 0, 0, 0, 0, 0, 0, 0⟩
def Spot.zero : Spot := ⟨0, false, Ent.zero⟩
def Spot.cells (s : Spot) : List Value := [.int .i64 s.gen, .bool s.there] ++ s.e.cells
theorem Spot.cells_length (s : Spot) : s.cells.length = 10 := rfl
def wc (g : Nat) (S : List Spot) : List Value := .pointer (some ⟨g, 0, none⟩) :: S.flatMap Spot.cells

theorem wc_length (g : Nat) (S : List Spot) : (wc g S).length = 1 + S.length * 10 := by
  unfold wc
  rw [List.length_cons, fl_lenN (f := Spot.cells) Spot.cells_length]
  omega

theorem wc_get {g : Nat} {S : List Spot} {i : Nat} {s : Spot} (hi : S[i]? = some s) {k : Nat} (hk : k < 10) : (wc g S)[1 + (i * 10 + k)]? = s.cells[k]? := by
  unfold wc
  rw [Nat.add_comm 1, List.getElem?_cons_succ]
  exact fl_getN (f := Spot.cells) Spot.cells_length hi k hk

theorem fl_setN {α : Type} {f : α → List Value} {n : Nat} (hf : ∀ x, (f x).length = n) : ∀ {l : List α} {i : Nat} {x y : α} {k : Nat} {v : Value}, l[i]? = some x → k < n → (f x).set k v = f y → (l.flatMap f).set (i * n + k) v = (l.set i y).flatMap f
  | [], _, _, _, _, _, h, _, _ => by simp at h
  | z :: l, 0, x, y, k, v, h, hk, hs => by
    simp only [List.getElem?_cons_zero, Option.some.injEq] at h
    subst h
    rw [List.flatMap_cons, Nat.zero_mul, Nat.zero_add, List.set_append_left _ _ (by rw [hf]; exact hk), hs]
    simp
  | z :: l, i + 1, x, y, k, v, h, hk, hs => by
    rw [List.flatMap_cons, List.set_append_right _ _ (by rw [hf, Nat.add_mul]; omega), hf]
    have e : (i + 1) * n + k - n = i * n + k := by rw [Nat.add_mul]; omega
    rw [e, fl_setN hf (by simpa using h) hk hs]
    simp

theorem wc_set {g : Nat} {S : List Spot} {i : Nat} {s s' : Spot} (hi : S[i]? = some s) {k : Nat} (hk : k < 10) {v : Value} (hs : s.cells.set k v = s'.cells) : (wc g S).set (1 + (i * 10 + k)) v = wc g (S.set i s') := by
  unfold wc
  rw [Nat.add_comm 1, List.set_cons_succ, fl_setN (f := Spot.cells) Spot.cells_length hi hk hs]

/-- the block of a world -/
structure WS (w : World) (r g : Nat) (S : List Spot) : Prop where
  blk : w.heap[r]? = some (.cells (wc g S).toArray 103 (0, 0))
  len : S.length = 64

theorem WS.ext {w w' : World} {M : Nat → Prop} {r g : Nat} {S : List Spot} (h : WS w r g S) (hx : Ext M w w') (hm : ¬ M r) : WS w' r g S := ⟨hx.blk h.blk hm, h.len⟩
theorem WS.cell0 {w : World} {r g : Nat} {S : List Spot} (h : WS w r g S) : w.cell? ⟨r, 0, none⟩ = some (.pointer (some ⟨g, 0, none⟩)) := by rw [blk_cell h.blk]; rfl
theorem WS.cell {w : World} {r g : Nat} {S : List Spot} (h : WS w r g S) {i : Nat} {s : Spot} (hi : S[i]? = some s) {k : Nat} {v : Value} (hv : s.cells[k]? = some v) : w.cell? ⟨r, 1 + (i * 10 + k), none⟩ = some v := by
  have hk : k < 10 := by
    have := (List.getElem?_eq_some_iff.1 hv).1
    simpa [Spot.cells_length] using this
  rw [blk_cell h.blk]
  have := wc_get (g := g) hi hk
  simpa [this] using hv

/-- one write to a place -/
theorem WS.st {w : World} {r g : Nat} {S : List Spot} (h : WS w r g S) {i : Nat} {s : Spot} (s' : Spot) (hi : S[i]? = some s) {k : Nat} (hk : k < 10) {v : Value} (hs : s.cells.set k v = s'.cells) (h1 : one v = true) {K : World → Prop}
    (hK : ∀ w', WS w' r g (S.set i s') → Ext (onl r) w w' → w'.heap.size = w.heap.size → K w') : Sx.st w ⟨r, 1 + (i * 10 + k), none⟩ v K := by
  have hil := (List.getElem?_eq_some_iff.1 hi).1
  have hlen := wc_length g S
  have hsz : 1 + (i * 10 + k) < (wc g S).toArray.size := by
    simp only [List.size_toArray, hlen]
    omega
  refine st_mk h.blk hsz h1 (hK _ ⟨?_, by simpa using h.len⟩ (Ext.set w ⟨r, 1 + (i * 10 + k), none⟩ v) (by simp [World.setCell]))
  rw [blk_set h.blk]
  have : (wc g S).toArray.setIfInBounds (1 + (i * 10 + k)) v = (wc g (S.set i s')).toArray := by
    rw [← wc_set hi hk hs]
    simp
  rw [this]

theorem asI8 {e : Ent} {P : (Nat → Value) → Prop} (h : P fun i => e.cells.getD i undef) : asA 8 e.v P := asA_i (l := e.cells) rfl rfl h

/-- an entity that is read, cell by cell -/
theorem ld8 {w : World} {A : Addr} {e : Ent} (h0 : w.cell? A = some (.int .i64 e.h)) (h1 : w.cell? (Addr.add A 1) = some (.int .i64 e.x)) (h2 : w.cell? (Addr.add A 2) = some (.int .i64 e.y)) (h3 : w.cell? (Addr.add A 3) = some (.int .i64 e.r))
    (h4 : w.cell? (Addr.add A 4) = some (.int .i64 e.vx)) (h5 : w.cell? (Addr.add A 5) = some (.int .i64 e.vy)) (h6 : w.cell? (Addr.add A 6) = some (.int .i64 e.o)) (h7 : w.cell? (Addr.add A 7) = some (.int .i64 e.t))
    {K : Int → Int → Int → Int → Int → Int → Int → Int → Prop} (hK : K e.h e.x e.y e.r e.vx e.vy e.o e.t) :
    ld w A fun v1 => asI .i64 v1 fun x0 => ld w (Addr.add A 1) fun v2 => asI .i64 v2 fun x1 => ld w (Addr.add A 2) fun v3 => asI .i64 v3 fun x2 => ld w (Addr.add A 3) fun v4 => asI .i64 v4 fun x3 =>
      ld w (Addr.add A 4) fun v5 => asI .i64 v5 fun x4 => ld w (Addr.add A 5) fun v6 => asI .i64 v6 fun x5 => ld w (Addr.add A 6) fun v7 => asI .i64 v7 fun x6 => ld w (Addr.add A 7) fun v8 => asI .i64 v8 fun x7 => K x0 x1 x2 x3 x4 x5 x6 x7 :=
  ld_mk h0 (asI_i rfl (ld_mk h1 (asI_i rfl (ld_mk h2 (asI_i rfl (ld_mk h3 (asI_i rfl (ld_mk h4 (asI_i rfl (ld_mk h5 (asI_i rfl (ld_mk h6 (asI_i rfl (ld_mk h7 (asI_i rfl hK)))))))))))))))

theorem ld8b {w : World} {b o : Nat} {cs : Array Value} {t : TypeId} {fr : Nat × Nat} {e : Ent} (hb : w.heap[b]? = some (.cells cs t fr)) (hc : ∀ k, k < 8 → cs[o + k]? = e.cells[k]?)
    {K : Int → Int → Int → Int → Int → Int → Int → Int → Prop} (hK : K e.h e.x e.y e.r e.vx e.vy e.o e.t) {A : Addr} (hA : A = ⟨b, o, none⟩) :
    ld w A fun v1 => asI .i64 v1 fun x0 => ld w (Addr.add A 1) fun v2 => asI .i64 v2 fun x1 => ld w (Addr.add A 2) fun v3 => asI .i64 v3 fun x2 => ld w (Addr.add A 3) fun v4 => asI .i64 v4 fun x3 =>
      ld w (Addr.add A 4) fun v5 => asI .i64 v5 fun x4 => ld w (Addr.add A 5) fun v6 => asI .i64 v6 fun x5 => ld w (Addr.add A 6) fun v7 => asI .i64 v7 fun x6 => ld w (Addr.add A 7) fun v8 => asI .i64 v8 fun x7 => K x0 x1 x2 x3 x4 x5 x6 x7 := by
  subst hA
  have key : ∀ k, k < 8 → w.cell? (Addr.add ⟨b, o, none⟩ k) = e.cells[k]? := fun k hk => by rw [add_mk, blk_cell hb, hc k hk]
  exact ld8 (by have := key 0 (by decide); rwa [Sx.add_zero'] at this) (key 1 (by decide)) (key 2 (by decide)) (key 3 (by decide)) (key 4 (by decide)) (key 5 (by decide)) (key 6 (by decide)) (key 7 (by decide)) hK

/-- an entity that is written to a place, cell by cell -/
theorem WS.st8 {w : World} {r g : Nat} {S : List Spot} (h : WS w r g S) {i : Nat} {s : Spot} (hi : S[i]? = some s) (e : Ent) {A : Addr} (hA : A = ⟨r, 1 + (i * 10 + 2), none⟩) {K : World → Prop}
    (hK : ∀ w', WS w' r g (S.set i ⟨s.gen, s.there, e⟩) → Ext (onl r) w w' → w'.heap.size = w.heap.size → K w') :
    Sx.st w A (.int .i64 e.h) fun w1 => Sx.st w1 (Addr.add A 1) (.int .i64 e.x) fun w2 => Sx.st w2 (Addr.add A 2) (.int .i64 e.y) fun w3 => Sx.st w3 (Addr.add A 3) (.int .i64 e.r) fun w4 =>
      Sx.st w4 (Addr.add A 4) (.int .i64 e.vx) fun w5 => Sx.st w5 (Addr.add A 5) (.int .i64 e.vy) fun w6 => Sx.st w6 (Addr.add A 6) (.int .i64 e.o) fun w7 => Sx.st w7 (Addr.add A 7) (.int .i64 e.t) fun w8 => K w8 := by
  subst hA
  have hil := (List.getElem?_eq_some_iff.1 hi).1
  have ea : ∀ k, Addr.add ⟨r, 1 + (i * 10 + 2), none⟩ k = ⟨r, 1 + (i * 10 + (2 + k)), none⟩ := fun k => by rw [add_mk]; congr 1; omega
  simp only [ea, Nat.reduceAdd]
  refine h.st ⟨s.gen, s.there, { s.e with h := e.h }⟩ hi (by decide) rfl rfl fun w1 h1 x1 z1 => ?_
  have g1 : ∀ q : Spot, (S.set i q)[i]? = some q := fun q => List.getElem?_set_self hil
  refine h1.st ⟨s.gen, s.there, { s.e with h := e.h, x := e.x }⟩ (g1 _) (by decide) rfl rfl fun w2 h2 x2 z2 => ?_
  rw [List.set_set] at h2
  refine h2.st ⟨s.gen, s.there, { s.e with h := e.h, x := e.x, y := e.y }⟩ (g1 _) (by decide) rfl rfl fun w3 h3 x3 z3 => ?_
  rw [List.set_set] at h3
  refine h3.st ⟨s.gen, s.there, { s.e with h := e.h, x := e.x, y := e.y, r := e.r }⟩ (g1 _) (by decide) rfl rfl fun w4 h4 x4 z4 => ?_
  rw [List.set_set] at h4
  refine h4.st ⟨s.gen, s.there, { s.e with h := e.h, x := e.x, y := e.y, r := e.r, vx := e.vx }⟩ (g1 _) (by decide) rfl rfl fun w5 h5 x5 z5 => ?_
  rw [List.set_set] at h5
  refine h5.st ⟨s.gen, s.there, { s.e with h := e.h, x := e.x, y := e.y, r := e.r, vx := e.vx, vy := e.vy }⟩ (g1 _) (by decide) rfl rfl fun w6 h6 x6 z6 => ?_
  rw [List.set_set] at h6
  refine h6.st ⟨s.gen, s.there, { s.e with h := e.h, x := e.x, y := e.y, r := e.r, vx := e.vx, vy := e.vy, o := e.o }⟩ (g1 _) (by decide) rfl rfl fun w7 h7 x7 z7 => ?_
  rw [List.set_set] at h7
  refine h7.st ⟨s.gen, s.there, e⟩ (g1 _) (by decide) rfl rfl fun w8 h8 x8 z8 => ?_
  rw [List.set_set] at h8
  exact hK w8 h8 (((((((x1.trans x2).trans x3).trans x4).trans x5).trans x6).trans x7).trans x8) (by omega)

/-! ### the world -/
def wside : Int := 34359738368
structure Wd (w : World) (F : Nat → Prop) (r g : Nat) (S : List Spot) (B : List (Int × Bx)) (D : List ((Int × Int) × List Int)) (N : Nat) : Prop where
  ws : WS w r g S
  gr : ∃ mb mc C bb kb bc kc, Gr w F g mb mc wside B C bb kb bc kc ∧ pl C = D
  nr : ¬ F r
  bd : ∀ x, ((aget D x).getD []).length ≤ N
  gen : ∀ s ∈ S, 0 ≤ s.gen ∧ s.gen ≤ 1099511627776

theorem Wd.ext {w w' : World} {F M : Nat → Prop} {r g : Nat} {S : List Spot} {B : List (Int × Bx)} {D : List ((Int × Int) × List Int)} {N : Nat} (h : Wd w F r g S B D N) (hx : Ext M w w') (hm : ∀ k, (F k ∨ k = r) → ¬ M k) : Wd w' F r g S B D N := by
  obtain ⟨mb, mc, C, bb, kb, bc, kc, hg, hp⟩ := h.gr
  exact ⟨h.ws.ext hx (hm _ (.inr rfl)), ⟨mb, mc, C, bb, kb, bc, kc, hg.ext hx fun k hk => hm _ (.inl hk), hp⟩, h.nr, h.bd, h.gen⟩

theorem Wd.mono {w : World} {F : Nat → Prop} {r g : Nat} {S : List Spot} {B : List (Int × Bx)} {D : List ((Int × Int) × List Int)} {N N' : Nat} (h : Wd w F r g S B D N) (hN : N ≤ N') : Wd w F r g S B D N' :=
  ⟨h.ws, h.gr, h.nr, fun x => Nat.le_trans (h.bd x) hN, h.gen⟩

theorem Wd.r_lt {w : World} {F : Nat → Prop} {r g : Nat} {S : List Spot} {B : List (Int × Bx)} {D : List ((Int × Int) × List Int)} {N : Nat} (h : Wd w F r g S B D N) : r < w.heap.size := blk_lt h.ws.blk
theorem Wd.f_lt {w : World} {F : Nat → Prop} {r g : Nat} {S : List Spot} {B : List (Int × Bx)} {D : List ((Int × Int) × List Int)} {N : Nat} (h : Wd w F r g S B D N) : ∀ k, F k → k < w.heap.size := by
  obtain ⟨mb, mc, C, bb, kb, bc, kc, hg, hp⟩ := h.gr
  exact hg.lt

set_option maxRecDepth 100000 in
theorem wnew_k {w : World} {K : Value → World → Prop} (hK : ∀ w' F r g, Wd w' F r g (List.replicate 64 Spot.zero) [] [] 0 → Ext no w w' → (∀ k, F k → w.heap.size ≤ k) → w.heap.size ≤ r → K (.pointer (some ⟨r, 0, none⟩)) w') :
    cl Try.prog 14 #[] w K := by
  apply F14_calls
  unfold F14
  refine gnew_k (fun h => absurd h (by decide)) ?_
  intro w1 F g mb mc _ hg hx1 hF
  refine asT_i rfl rfl (asP_i rfl (asI_i rfl (lv_i (nw_mk ?_))))
  have hx2 := Ext.alloc w1 (.cells (wc g (List.replicate 64 Spot.zero)).toArray 103)
  refine hK _ F w1.heap.size g ⟨⟨new_blk w1 _, by simp⟩, ⟨mb, mc, [], [], 0, [], 0, hg.ext hx2 fun _ _ h => h, rfl⟩, fun hf => ?_, fun x => by simp [aget_nil], ?_⟩ (hx1.trans hx2) hF hx1.size
  · have := hg.lt _ hf
    omega
  · intro s hs
    rw [List.eq_of_mem_replicate hs]
    simp [Spot.zero]

/-- where the entity of a handle stands -/
def atI (S : List Spot) (h : Int) : Option Nat :=
  if h < 64 then none else match S[h.toNat % 64]? with
    | some s => if s.there = true ∧ s.e.h = h then some (h.toNat % 64) else none
    | none => none

theorem at_k {w : World} {r g : Nat} {S : List Spot} (hw : WS w r g S) {h : Int} {K : Value → World → Prop}
    (hnone : atI S h = none → K (.pointer none) w) (hsome : ∀ i s, atI S h = some i → h = h.toNat → i = h.toNat % 64 → S[i]? = some s → s.there = true → s.e.h = h → K (.pointer (some ⟨r, 1 + i * 10, none⟩)) w) :
    cl Try.prog 43 #[.pointer (some ⟨r, 0, none⟩), .int .i64 h] w K := by
  apply F43_calls
  unfold F43
  refine cond_split (fun hc => hnone ?_) (fun hc => ?_)
  · unfold atI
    rw [if_pos (of_decide_eq_true hc)]
  have h64 : ¬ h < 64 := of_decide_eq_false hc
  obtain ⟨n, rfl⟩ : ∃ n : Nat, h = (n : Int) := ⟨h.toNat, by omega⟩
  have em : Int.tmod (n : Int) 64 = ((n % 64 : Nat) : Int) := rfl
  have hlt : n % 64 < S.length := by rw [hw.len]; exact Nat.mod_lt _ (by decide)
  have hi : S[n % 64]? = some S[n % 64] := List.getElem?_eq_getElem hlt
  generalize S[n % 64] = s at hi
  rw [em]
  refine dr_i (bnd_mk (by omega) (by omega) ?_)
  simp only [add_mk, Int.toNat_natCast, Nat.zero_add, Nat.add_assoc]
  have hat : atI S n = if s.there = true ∧ s.e.h = n then some (n % 64) else none := by
    unfold atI
    rw [if_neg h64]
    simp only [Int.toNat_natCast, hi]
  refine jn_of (fun t w' => t = [.bool (decide (s.there = true ∧ s.e.h = n))] ∧ w = w') ?_ ?_
  · rintro _ _ ⟨rfl, rfl⟩
    refine asB_i rfl (cond_split (fun hb => ?_) (fun hb => hnone ?_))
    · have hb' := of_decide_eq_true hb
      refine hsome (n % 64) s ?_ (by simp) (by simp) hi hb'.1 hb'.2
      rw [hat, if_pos hb']
    · rw [hat, if_neg (of_decide_eq_false hb)]
  · intro J hJ
    have c1 : w.cell? ⟨r, 1 + (n % 64 * 10 + 1), none⟩ = some (.bool s.there) := hw.cell hi rfl
    have c2 : w.cell? ⟨r, 1 + (n % 64 * 10 + 2), none⟩ = some (.int .i64 s.e.h) := hw.cell hi rfl
    refine ld_mk c1 (asB_i rfl (cond_split (fun hb => ld_mk c2 (asI_i rfl (hJ _ _ ⟨?_, rfl⟩))) (fun hb => hJ _ _ ⟨?_, rfl⟩)))
    · congr 2
      rw [hb, Bool.eq_iff_iff]
      simp
    · congr 2
      rw [hb]
      simp
end Go.Proofs.Ytamobmjfdiecbaa
