/- WoL3: the law WorldHandles comes out true for every input. Conditions: those of the law's arguments as they are read. -/
import Derived.Test.YtamobmjfdiecbaaWoK
namespace Go.Proofs.Ytamobmjfdiecbaa
open Go Go.Sx Go.Fp
attribute [local irreducible] jn lv ld st nw asI asB asP asS asY asM asF asA asT lp rn ru rq cl dw dr bnd bn2 nz nn hd hr so eqW
attribute [local irreducible] callOk

structure Act where
  k : Int
  h : Int
  e : Ent
def Act.cells (a : Act) : List Value := .int .i64 a.k :: .int .i64 a.h :: a.e.cells
theorem Act.cells_length (a : Act) : a.cells.length = 10 := rfl

theorem acts_of : ∀ {R : List (List Value)}, (∀ c ∈ R, FitsAll [.int .i64, .int .i64, .int .i64, .int .i64, .int .i64, .int .i64, .int .i64, .int .i64, .int .i64, .int .i64] c) → ∃ es : List Act, R.flatten = es.flatMap Act.cells ∧ es.length = R.length ∧ ∀ a ∈ es, a.e.I
  | [], _ => ⟨[], rfl, rfl, by simp⟩
  | c :: R, h => by
    have hc := h c List.mem_cons_self
    obtain ⟨_, _, rfl, ⟨k, rfl, _⟩, hc⟩ := hc
    obtain ⟨_, _, rfl, ⟨hh, rfl, _⟩, hc⟩ := hc
    obtain ⟨e, rfl, he⟩ := ent_of hc
    obtain ⟨es, h1, h2, h3⟩ := acts_of (R := R) fun c hc => h c (List.mem_cons_of_mem _ hc)
    refine ⟨⟨k, hh, e⟩ :: es, by rw [List.flatten_cons, h1]; rfl, by simp [h2], fun x hx => ?_⟩
    rcases List.mem_cons.1 hx with rfl | hx
    · exact he
    · exact h3 x hx

theorem ld10c {w : World} {A : Addr} {a : Act} (hc : ∀ k, k < 10 → w.cell? (Addr.add A k) = a.cells[k]?) {K : Int → Int → Int → Int → Int → Int → Int → Int → Int → Int → Prop} (hK : K a.k a.h a.e.h a.e.x a.e.y a.e.r a.e.vx a.e.vy a.e.o a.e.t) :
    ld w A fun v1 => asI .i64 v1 fun x0 => ld w (Addr.add A 1) fun v2 => asI .i64 v2 fun x1 => ld w (Addr.add A 2) fun v3 => asI .i64 v3 fun x2 => ld w (Addr.add A 3) fun v4 => asI .i64 v4 fun x3 =>
      ld w (Addr.add A 4) fun v5 => asI .i64 v5 fun x4 => ld w (Addr.add A 5) fun v6 => asI .i64 v6 fun x5 => ld w (Addr.add A 6) fun v7 => asI .i64 v7 fun x6 => ld w (Addr.add A 7) fun v8 => asI .i64 v8 fun x7 =>
      ld w (Addr.add A 8) fun v9 => asI .i64 v9 fun x8 => ld w (Addr.add A 9) fun v10 => asI .i64 v10 fun x9 => K x0 x1 x2 x3 x4 x5 x6 x7 x8 x9 :=
  ld_mk (by have := hc 0 (by decide); rwa [Sx.add_zero'] at this) (asI_i rfl (ld_mk (hc 1 (by decide)) (asI_i rfl (ld_mk (hc 2 (by decide)) (asI_i rfl (ld_mk (hc 3 (by decide)) (asI_i rfl (ld_mk (hc 4 (by decide)) (asI_i rfl
    (ld_mk (hc 5 (by decide)) (asI_i rfl (ld_mk (hc 6 (by decide)) (asI_i rfl (ld_mk (hc 7 (by decide)) (asI_i rfl (ld_mk (hc 8 (by decide)) (asI_i rfl (ld_mk (hc 9 (by decide)) (asI_i rfl hK)))))))))))))))))))

structure Pq (W w : World) (L : List (Nat × List Value × TypeId)) (F : Nat → Prop) (r g : Nat) (S : List Spot) (B : List (Int × Bx)) (D : List ((Int × Int) × List Int)) (N : Nat) (p : Option Addr) (c : Nat) (G : List Int) (q : Option Addr) (c' : Nat) (Q : List Int) : Prop where
  pw : Pw W w L F r g S B D N
  gv : Pr W w L F r p c G
  dd : Pr W w L F r q c' Q
  ap : Apart p q

section
variable {W w : World} {L : List (Nat × List Value × TypeId)} {F : Nat → Prop} {r g : Nat} {S : List Spot} {B : List (Int × Bx)} {D : List ((Int × Int) × List Int)} {N : Nat} {p q : Option Addr} {c c' : Nat} {G Q : List Int}

theorem Pq.to (h : Pq W w L F r g S B D N p c G q c' Q) {w' : World} (hx : Ext no w w') : Pq W w' L F r g S B D N p c G q c' Q := ⟨h.pw.to hx, h.gv.to hx, h.dd.to hx, h.ap⟩
theorem Pq.tail {x : Nat × List Value × TypeId} (h : Pq W w (x :: L) F r g S B D N p c G q c' Q) : Pq W w L F r g S B D N p c G q c' Q := ⟨h.pw.tail, h.gv.tail, h.dd.tail, h.ap⟩
theorem Pq.mono (h : Pq W w L F r g S B D N p c G q c' Q) {M : Nat} (hM : N ≤ M) : Pq W w L F r g S B D M p c G q c' Q := ⟨⟨h.pw.st, h.pw.wd.mono hM, h.pw.fr⟩, h.gv, h.dd, h.ap⟩

theorem Pq.nw (h : Pq W w L F r g S B D N p c G q c' Q) {cs : List Value} {t : TypeId} {K : Nat → World → Prop} (hK : ∀ b w', Pq W w' ((b, cs, t) :: L) F r g S B D N p c G q c' Q → K b w') : nw w (.cells cs.toArray t) K := by
  have hx := Ext.alloc w (.cells cs.toArray t)
  have key : Pw W (w.alloc (.cells cs.toArray t)) ((w.heap.size, cs, t) :: L) F r g S B D N := by
    have key := h.pw.nw (cs := cs) (t := t) (K := fun b w' => b = w.heap.size → w' = w.alloc (.cells cs.toArray t) → Pw W w' ((b, cs, t) :: L) F r g S B D N) fun b w' hP _ _ => hP
    unfold Sx.nw at key
    exact key rfl rfl
  have hg := h.gv.cons (x := (w.heap.size, cs, t)) (Nat.le_refl _)
  have hd := h.dd.cons (x := (w.heap.size, cs, t)) (Nat.le_refl _)
  exact nw_mk (hK _ _ ⟨key, hg.to hx, hd.to hx, h.ap⟩)

theorem Pq.one {b j : Nat} {cs : List Value} {t : TypeId} (h : Pq W w ((b, cs, t) :: L) F r g S B D N p c G q c' Q) {v u : Value} {K : World → Prop} (hj : cs[j]? = some u) (h1 : Sx.one v = true) (hK : ∀ w', Pq W w' ((b, cs.set j v, t) :: L) F r g S B D N p c G q c' Q → K w') :
    Sx.st w ⟨b, j, none⟩ v K := by
  refine h.pw.st.stj 0 rfl hj h1 fun w' hs hx => hK w' ⟨⟨hs, h.pw.wd.ext hx fun k hk e => ?_, fun k hk => ⟨(h.pw.fr k hk).1, fun x hb => ?_⟩⟩, ?_, ?_, h.ap⟩
  · have e' : k = b := e
    exact (h.pw.fr k hk).2 (b, cs, t) List.mem_cons_self e'.symm
  · rcases List.mem_cons.1 hb with rfl | hb
    · exact (h.pw.fr k hk).2 (b, cs, t) List.mem_cons_self
    · exact (h.pw.fr k hk).2 x (List.mem_cons_of_mem _ hb)
  · exact (h.gv.onl ⟨_, List.mem_cons_self, rfl⟩ hx).cells rfl
  · exact (h.dd.onl ⟨_, List.mem_cons_self, rfl⟩ hx).cells rfl

theorem Pq.st8 {b : Nat} {cs : List Value} {t : TypeId} (h : Pq W w ((b, cs, t) :: L) F r g S B D N p c G q c' Q) (hc : cs.length = 8) (e : Ent) {K : World → Prop} (hK : ∀ w', Pq W w' ((b, e.cells, t) :: L) F r g S B D N p c G q c' Q → K w') :
    Sx.st w ⟨b, 0, none⟩ (.int .i64 e.h) fun w1 => Sx.st w1 (Addr.add ⟨b, 0, none⟩ 1) (.int .i64 e.x) fun w2 => Sx.st w2 (Addr.add ⟨b, 0, none⟩ 2) (.int .i64 e.y) fun w3 => Sx.st w3 (Addr.add ⟨b, 0, none⟩ 3) (.int .i64 e.r) fun w4 =>
      Sx.st w4 (Addr.add ⟨b, 0, none⟩ 4) (.int .i64 e.vx) fun w5 => Sx.st w5 (Addr.add ⟨b, 0, none⟩ 5) (.int .i64 e.vy) fun w6 => Sx.st w6 (Addr.add ⟨b, 0, none⟩ 6) (.int .i64 e.o) fun w7 => Sx.st w7 (Addr.add ⟨b, 0, none⟩ 7) (.int .i64 e.t) fun w8 => K w8 := by
  match cs, hc with
  | [a0, a1, a2, a3, a4, a5, a6, a7], _ =>
    simp only [add_mk, Nat.zero_add]
    exact h.one rfl rfl fun w1 h1 => h1.one rfl rfl fun w2 h2 => h2.one rfl rfl fun w3 h3 => h3.one rfl rfl fun w4 h4 => h4.one rfl rfl fun w5 h5 => h5.one rfl rfl fun w6 h6 => h6.one rfl rfl fun w7 h7 => h7.one rfl rfl fun w8 h8 => hK w8 h8

theorem Pq.st10 {b : Nat} {cs : List Value} {t : TypeId} (h : Pq W w ((b, cs, t) :: L) F r g S B D N p c G q c' Q) (hc : cs.length = 10) (a : Act) {K : World → Prop} (hK : ∀ w', Pq W w' ((b, a.cells, t) :: L) F r g S B D N p c G q c' Q → K w') :
    Sx.st w ⟨b, 0, none⟩ (.int .i64 a.k) fun w1 => Sx.st w1 (Addr.add ⟨b, 0, none⟩ 1) (.int .i64 a.h) fun w2 => Sx.st w2 (Addr.add ⟨b, 0, none⟩ 2) (.int .i64 a.e.h) fun w3 => Sx.st w3 (Addr.add ⟨b, 0, none⟩ 3) (.int .i64 a.e.x) fun w4 =>
      Sx.st w4 (Addr.add ⟨b, 0, none⟩ 4) (.int .i64 a.e.y) fun w5 => Sx.st w5 (Addr.add ⟨b, 0, none⟩ 5) (.int .i64 a.e.r) fun w6 => Sx.st w6 (Addr.add ⟨b, 0, none⟩ 6) (.int .i64 a.e.vx) fun w7 => Sx.st w7 (Addr.add ⟨b, 0, none⟩ 7) (.int .i64 a.e.vy) fun w8 =>
      Sx.st w8 (Addr.add ⟨b, 0, none⟩ 8) (.int .i64 a.e.o) fun w9 => Sx.st w9 (Addr.add ⟨b, 0, none⟩ 9) (.int .i64 a.e.t) fun w10 => K w10 := by
  match cs, hc with
  | [a0, a1, a2, a3, a4, a5, a6, a7, a8, a9], _ =>
    simp only [add_mk, Nat.zero_add]
    exact h.one rfl rfl fun w1 h1 => h1.one rfl rfl fun w2 h2 => h2.one rfl rfl fun w3 h3 => h3.one rfl rfl fun w4 h4 => h4.one rfl rfl fun w5 h5 => h5.one rfl rfl fun w6 h6 => h6.one rfl rfl fun w7 h7 => h7.one rfl rfl fun w8 h8 => h8.one rfl rfl fun w9 h9 => h9.one rfl rfl fun w10 h10 => hK w10 h10

theorem Pq.step (h : Pq W w L F r g S B D N p c G q c' Q) {w' : World} {F' : Nat → Prop} {S' : List Spot} {B' : List (Int × Bx)} {D' : List ((Int × Int) × List Int)} {N' : Nat} (hw : Wd w' F' r g S' B' D' N') (hx : Ext (wF F r) w w') (hG : ∀ k, F' k → F k ∨ w.heap.size ≤ k) : Pq W w' L F' r g S' B' D' N' p c G q c' Q :=
  ⟨h.pw.step hw hx hG, h.gv.step hx hG, h.dd.step hx hG, h.ap⟩

theorem Pq.spawn (h : Pq W w L F r g S B D N p c G q c' Q) (hN : N ≤ 549755813888) {e : Ent} {K : Value → World → Prop}
    (hno : ∀ w' x, Pq W w' L F r g S B D N p c G q c' Q → x ≠ 0 → K (.tuple #[.int .i64 0, .int .i64 x]) w')
    (hok : ∀ w' F' B' D' i s, e.rightE = 0 → IsFree S i s → Pq W w' L F' r g (S.set i (spn s i e)) B' D' (N + 1024) p c G q c' Q → K (.tuple #[.int .i64 ((s.gen + 1) * 64 + (i : Int)), .int .i64 0]) w') :
    cl Try.prog 16 #[.pointer (some ⟨r, 0, none⟩), e.v] w K :=
  spawn_k h.pw.wd hN (fun w' hx he => hno w' _ (h.to hx) he) (fun w' hx he hf => hno w' _ (h.to hx) (by decide)) fun w' F' i s he hf hw hx hG _ => hok w' F' _ _ i s he hf (h.step hw hx hG)

theorem Pq.kill (h : Pq W w L F r g S B D N p c G q c' Q) (hN : N ≤ 549755813888) {hh : Int} {K : Value → World → Prop}
    (hnone : atI S hh = none → K (.int .i64 190) w)
    (hok : ∀ w' B' D' i s, atI S hh = some i → i = hh.toNat % 64 → hh = hh.toNat → S[i]? = some s → s.there = true → s.e.h = hh → Pq W w' L F r g (S.set i ⟨s.gen, false, s.e⟩) B' D' N p c G q c' Q → K (.int .i64 0) w') :
    cl Try.prog 17 #[.pointer (some ⟨r, 0, none⟩), .int .i64 hh] w K :=
  kill_k h.pw.wd hN hnone fun w' i s h1 h2 h3 h4 h5 h6 hw hx => hok w' _ _ i s h1 h2 h3 h4 h5 h6 (h.step hw hx fun k hk => .inl hk)

theorem Pq.get (h : Pq W w L F r g S B D N p c G q c' Q) {hh : Int} {K : Value → World → Prop} (hK : ∀ w', Pq W w' L F r g S B D N p c G q c' Q → K (.tuple #[(getE S hh).v, .int .i64 (getC S hh)]) w') :
    cl Try.prog 18 #[.pointer (some ⟨r, 0, none⟩), .int .i64 hh] w K := get_k h.pw.wd.ws fun w' hx => hK w' (h.to hx)

theorem Pq.list (h : Pq W w L F r g S B D N p c G q c' Q) {K : Value → World → Prop}
    (hK : ∀ p0 c0 w', Pq W w' L F r g S B D N p c G q c' Q → K (.slice p0 (listS S).length c0) w') :
    cl Try.prog 19 #[.pointer (some ⟨r, 0, none⟩)] w K := list_k h.pw.wd.ws fun p0 c0 w' hx _ => hK p0 c0 w' (h.to hx)

/-- a whole number out of a row -/
theorem Pr.at (h : Pr W w L F r p c G) {i n : Nat} (hn : G.length = n) (hi : i < n) {K : Addr → Prop} (hK : ∀ a, w.cell? (Addr.add a (i * 1)) = some (.int .i64 (G.getD i 0)) → K a) : dr p fun a => bnd (i : Int) n (K a) := by
  have e : iv .i64 G = G.flatMap fun x => [.int .i64 x] := by
    clear h hn hK
    induction G with
    | nil => rfl
    | cons x G ih => rw [List.flatMap_cons, ← ih]; rfl
  have hr := h.row.reads
  rw [e] at hr
  have hx : G[i]? = some (G.getD i 0) := by
    rw [List.getD_eq_getElem?_getD, List.getElem?_eq_getElem (by omega)]
    rfl
  refine Reads.atN (f := fun x => [.int .i64 x]) (s := 1) (fun _ => rfl) hr hn hx (by decide) fun a _ hc => hK a ?_
  have := hc 0 (by decide)
  rw [Sx.add_zero'] at this
  exact this
end
end Go.Proofs.Ytamobmjfdiecbaa
