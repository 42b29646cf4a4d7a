/- WoJ: entities that equal themselves, lists of entities that are read, the list of a world beside it. Conditions: those of each theorem, on its arguments. -/
import Derived.Test.YtamobmjfdiecbaaWoL1
import Derived.Test.YtamobmjfdiecbaaChecked
import Derived.DeepKeys
namespace Go.Proofs.Ytamobmjfdiecbaa
open Go Go.Sx Go.Fp
attribute [local irreducible] jn lv ld st nw asI asB asP asS asY asM asF asA asT lp rn ru rq cl dw dr bnd bn2 nz nn hd hr so eqW
attribute [local irreducible] callOk

theorem _root_.Go.Sx.Reads.no {w w' : World} (hx : Ext no w w') {p : Option Addr} {vs : List Value} (h : Reads w p vs) : Reads w' p vs := h.ext hx fun _ _ h => h

theorem equal_self {t : TypeId} {x : Value} {m : Nat} (hk : Try.prog.keyTypeAt m t = true) (hm : m ≤ 10000) (hf : x.formed Try.prog t = true) {D : Nat} {l : List Lit} (hl : Try.prog.keyLits D t x.cells.toList = some l) (w : World) :
    (Op.equal t x x).run Try.prog w = .ok true w := by
  obtain ⟨r, hr, hiff⟩ := run_equalIn_deep (P := Try.prog) (10000 - m) m t hk w D D x x l l hf hf hl hl
  have e : 10000 - m + m = 10000 := by omega
  rw [e] at hr
  have : r = true := hiff.2 rfl
  subst this
  exact hr
theorem eqW_self {t : TypeId} {x : Value} {m : Nat} (hg : Try.prog.eqGuardType Try.prog.depth t = false) (hk : Try.prog.keyTypeAt m t = true) (hm : m ≤ 10000) (hf : x.formed Try.prog t = true) {D : Nat} {l : List Lit} (hl : Try.prog.keyLits D t x.cells.toList = some l)
    {K : Bool → Prop} (h : K true) : eqW Try.prog t x x K := eqW_mk hg (fun w => equal_self hk hm hf hl w) h

theorem wfI {n : Int} (h : I64 n) : (Lit.int .i64 n).wf = true := by
  obtain ⟨h1, h2⟩ := h
  simp only [Lit.wf, Bool.and_eq_true, decide_eq_true_eq, IntKind.min, IntKind.max, IntKind.bits, IntKind.signed]
  simp
  omega
theorem cE : Try.prog.cellsOf 27 = 8 := by kernel_rfl
theorem cB : Try.prog.cellsOf 25 = 3 := by kernel_rfl
theorem cV : Try.prog.cellsOf 23 = 2 := by kernel_rfl
theorem cI : Try.prog.cellsOf 3 = 1 := by kernel_rfl
theorem lits8 {e : Ent} (h : e.I) : Try.prog.keyLits 4 27 e.v.cells.toList = some [.int .i64 e.h, .int .i64 e.x, .int .i64 e.y, .int .i64 e.r, .int .i64 e.vx, .int .i64 e.vy, .int .i64 e.o, .int .i64 e.t] := by
  obtain ⟨h0, h1, h2, h3, h4, h5, h6, h7⟩ := h
  simp [Program.keyLits, Try.underlying27, Try.underlying25, Try.underlying23, Try.underlying3, cE, cB, cV, cI, Ent.v, Ent.cells, Value.cells, wfI h0, wfI h1, wfI h2, wfI h3, wfI h4, wfI h5, wfI h6, wfI h7]
  try rw [if_pos (by decide)]
  try rfl
set_option maxRecDepth 100000 in
theorem eqEnt {e : Ent} (h : e.I) {K : Bool → Prop} (hK : K true) : eqW Try.prog 27 e.v e.v K :=
  eqW_self (m := 4) (by kernel_rfl) (by kernel_rfl) (by decide) rfl (lits8 h) hK

theorem ents_of {ls : List Lf} (hl : ls = [.int .i64, .int .i64, .int .i64, .int .i64, .int .i64, .int .i64, .int .i64, .int .i64]) : ∀ {R : List (List Value)}, (∀ c ∈ R, FitsAll ls c) → ∃ es : List Ent, R.flatten = es.flatMap Ent.cells ∧ es.length = R.length ∧ ∀ e ∈ es, e.I
  | [], _ => ⟨[], rfl, rfl, by simp⟩
  | c :: R, h => by
    subst hl
    obtain ⟨e, rfl, he⟩ := ent_of (h c List.mem_cons_self)
    obtain ⟨es, h1, h2, h3⟩ := ents_of rfl (R := R) fun c hc => h c (List.mem_cons_of_mem _ hc)
    refine ⟨e :: es, by rw [List.flatten_cons, h1]; rfl, by simp [h2], fun x hx => ?_⟩
    rcases List.mem_cons.1 hx with rfl | hx
    · exact he
    · exact h3 x hx

theorem ld8c {w : World} {A : Addr} {e : Ent} (hc : ∀ k, k < 8 → w.cell? (Addr.add A k) = e.cells[k]?) {K : Int → Int → Int → Int → Int → Int → Int → Int → Prop} (hK : K e.h e.x e.y e.r e.vx e.vy e.o e.t) :
    ld w A fun v1 => asI .i64 v1 fun x0 => ld w (Addr.add A 1) fun v2 => asI .i64 v2 fun x1 => ld w (Addr.add A 2) fun v3 => asI .i64 v3 fun x2 => ld w (Addr.add A 3) fun v4 => asI .i64 v4 fun x3 =>
      ld w (Addr.add A 4) fun v5 => asI .i64 v5 fun x4 => ld w (Addr.add A 5) fun v6 => asI .i64 v6 fun x5 => ld w (Addr.add A 6) fun v7 => asI .i64 v7 fun x6 => ld w (Addr.add A 7) fun v8 => asI .i64 v8 fun x7 => K x0 x1 x2 x3 x4 x5 x6 x7 :=
  ld8 (by have := hc 0 (by decide); rwa [Sx.add_zero'] at this) (hc 1 (by decide)) (hc 2 (by decide)) (hc 3 (by decide)) (hc 4 (by decide)) (hc 5 (by decide)) (hc 6 (by decide)) (hc 7 (by decide)) hK

theorem hd8c {w : World} {A : Addr} {e : Ent} (hc : ∀ k, k < 8 → w.cell? (Addr.add A k) = e.cells[k]?) {X : Prop} (hX : X) :
    hd w A (.int .i64 e.h) (hd w (Addr.add A 1) (.int .i64 e.x) (hd w (Addr.add A 2) (.int .i64 e.y) (hd w (Addr.add A 3) (.int .i64 e.r) (hd w (Addr.add A 4) (.int .i64 e.vx) (hd w (Addr.add A 5) (.int .i64 e.vy) (hd w (Addr.add A 6) (.int .i64 e.o) (hd w (Addr.add A 7) (.int .i64 e.t) X))))))) :=
  hd_i (by have := hc 0 (by decide); rwa [Sx.add_zero'] at this) (hd_i (hc 1 (by decide)) (hd_i (hc 2 (by decide)) (hd_i (hc 3 (by decide)) (hd_i (hc 4 (by decide)) (hd_i (hc 5 (by decide)) (hd_i (hc 6 (by decide)) (hd_i (hc 7 (by decide)) hX)))))))

theorem rsame_k {w : World} {a b : Option Addr} {n m ca cb : Nat} {es : List Ent} (hI : ∀ e ∈ es, e.I) (ha : Reads w a (es.flatMap Ent.cells)) (hb : Reads w b (es.flatMap Ent.cells)) (hn : es.length = n) (hm : es.length = m) (hM : n ≤ 140737488351232) {K : Value → World → Prop}
    (hK : ∀ w', Ext no w w' → K (.bool true) w') : cl Try.prog 21 #[.slice a n ca, .slice b m cb] w K := by
  subst hm
  subst hn
  apply F21_calls
  unfold F21
  refine cond_f (by simp) (lv_i ?_)
  refine lp_mk (fun i : Nat => [.int .i64 (i : Int)]) (fun m i w' => m = es.length - i ∧ i ≤ es.length ∧ Ext no w w') es.length 0 rfl ⟨rfl, Nat.zero_le _, Ext.refl _ _⟩ ?_
  rintro _ i w1 ⟨rfl, hi, hx⟩ J hJ
  refine asI_i rfl (cond_split (fun hc => ?_) (fun _ => hK w1 hx))
  have hlt : i < es.length := by
    have := of_decide_eq_true hc
    omega
  have he : es[i]? = some es[i] := List.getElem?_eq_getElem hlt
  have hIe := hI _ (List.getElem_mem hlt)
  generalize es[i] = e at he hIe
  refine dw_mk ?_
  have hx' : Ext no w w1.drew := hx.trans (Ext.drew w1)
  have hl8 : ∀ a, (∀ k, k < 8 → w1.drew.cell? (Addr.add (Addr.add a (i * 8)) k) = e.cells[k]?) → ∀ k, k < 8 → w1.cell? (Addr.add (Addr.add a (i * 8)) k) = e.cells[k]? := fun a h k hk => h k hk
  refine Reads.atN (f := Ent.cells) Ent.cells_length (Reads.no hx' ha) rfl he (by decide) fun a' _ hca => ?_
  rw [Int.toNat_natCast]
  refine ld8c hca ?_
  refine Reads.atN (f := Ent.cells) Ent.cells_length (Reads.no hx' hb) rfl he (by decide) fun b' _ hcb => ?_
  refine ld8c hcb (eqEnt hIe (cond_f rfl (lv_i ?_)))
  have ei : IntKind.wrap .i64 ((i : Int) + 1) = ((i + 1 : Nat) : Int) := by rw [wr64 (by omega) (by omega)]; omega
  rw [ei]
  exact hJ (es.length - (i + 1)) (i + 1) _ (by omega) ⟨rfl, by omega, hx'⟩

section
variable {W w : World} {L : List (Nat × List Value × TypeId)} {F : Nat → Prop} {r g : Nat} {S : List Spot} {B : List (Int × Bx)} {D : List ((Int × Int) × List Int)} {N : Nat}

theorem Pw.tail {x : Nat × List Value × TypeId} (h : Pw W w (x :: L) F r g S B D N) : Pw W w L F r g S B D N := ⟨h.st.tail, h.wd, fun k hk => ⟨(h.fr k hk).1, fun b hb => (h.fr k hk).2 b (List.mem_cons_of_mem _ hb)⟩⟩

/-- a block laid since -/
theorem Pw.add (h : Pw W w L F r g S B D N) {w' : World} (hx : Ext no w w') {q : Nat} {cs : List Value} {t : TypeId} (hq : w.heap.size ≤ q) (hb : w'.heap[q]? = some (.cells cs.toArray t (0, 0))) : Pw W w' ((q, cs, t) :: L) F r g S B D N := by
  have h' := h.to hx
  have := h.st.ext.size
  refine ⟨⟨h'.st.ext, fun b hb' => ?_, List.Pairwise.cons (fun b hb' => ?_) h'.st.nd⟩, h'.wd, fun k hk => ⟨(h.fr k hk).1, fun b hb' => ?_⟩⟩
  · rcases List.mem_cons.1 hb' with rfl | hb'
    · exact ⟨hb, by simp only; omega⟩
    · exact h'.st.kn b hb'
  · have := blk_lt (h.st.kn b hb').1
    simp only
    omega
  · rcases List.mem_cons.1 hb' with rfl | hb'
    · have := h.lt k hk
      simp only
      omega
    · exact (h.fr k hk).2 b hb'

/-- the blocks of LL hold the list es at p -/
def Holds (LL : List (Nat × List Value × TypeId)) (p : Option Addr) (es : List Ent) : Prop := ∀ w : World, (∀ b ∈ LL, w.heap[b.1]? = some (.cells b.2.1.toArray b.2.2 (0, 0))) → Reads w p (es.flatMap Ent.cells)

theorem Pw.reads {LL : List (Nat × List Value × TypeId)} {p : Option Addr} {es : List Ent} (h : Pw W w L F r g S B D N) (hH : Holds LL p es) (hs : ∀ b ∈ LL, b ∈ L) : Reads w p (es.flatMap Ent.cells) := hH w fun b hb => (h.st.kn b (hs b hb)).1

theorem Pw.list (h : Pw W w L F r g S B D N) {K : Value → World → Prop}
    (hK : ∀ p c w' LL, Pw W w' (LL ++ L) F r g S B D N → Holds LL p (listS S) → K (.slice p (listS S).length c) w') :
    cl Try.prog 19 #[.pointer (some ⟨r, 0, none⟩)] w K := by
  refine list_k h.wd.ws fun p c w' hx hr => ?_
  rcases hr.cases with ⟨rfl, _, _, h0⟩ | ⟨q, cur, rfl, hq, hb, _, _, _, ht⟩
  · exact hK none c w' [] (h.to hx) fun _ _ => .inl h0
  · refine hK _ c w' [(q, cur.toList, _)] (h.add hx hq (by simpa using hb)) fun w1 hw1 => .inr ⟨q, 0, rfl, fun i v hv => ?_⟩
    have hb1 := hw1 _ List.mem_cons_self
    rw [blk_cell hb1, Nat.zero_add]
    rw [← ht, List.getElem?_take] at hv
    split at hv
    · simpa using hv
    · cases hv
end
end Go.Proofs.Ytamobmjfdiecbaa
