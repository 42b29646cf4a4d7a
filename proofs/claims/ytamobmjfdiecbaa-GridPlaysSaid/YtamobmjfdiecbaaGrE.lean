/- GrE: the grid as a thing in memory, and what its functions do to it, as contracts over lists of numbers and boxes. Conditions: those of each theorem, on its arguments. -/
import Derived.Test.YtamobmjfdiecbaaGrD
namespace Go.Proofs.Ytamobmjfdiecbaa
open Go Go.Sx Go.Fp
attribute [local irreducible] jn lv ld st nw asI asB asP asS asY asM asF asA asT lp rn ru rq cl dw dr bnd bn2 nz nn hd hr so eqW
attribute [local irreducible] callOk

/-! ### keys that are cells -/
def okc (p : Int × Int) : Prop := p.1.natAbs < 2 ^ 52 ∧ p.2.natAbs < 2 ^ 52

set_option maxRecDepth 100000 in
theorem und_c : Try.prog.underlying 49 = some (.complex .f64) := rfl

theorem eq_c {p q : Int × Int} (hp : okc p) (hq : okc q) (w : World) : (Op.equal 49 (cv p) (cv q)).run Try.prog w = .ok (decide (q = p)) w := by
  have n1 := N_F (n := p.1) (by have := hp.1; omega)
  have n2 := N_F (n := p.2) (by have := hp.2; omega)
  have m1 := N_F (n := q.1) (by have := hq.1; omega)
  have m2 := N_F (n := q.2) (by have := hq.2; omega)
  have e1 := ord_eq n1 m1
  have e2 := ord_eq n2 m2
  have key : ∀ d, (Op.equalIn (d + 1) 49 (cv p) (cv q)).run Try.prog w = .ok (decide (p.1 = q.1) && decide (p.2 = q.2)) w := by
    intro d
    simp only [Op.equalIn, Sem.run_bind, und_run und_c, Result.andThen_ok, cv, Op.floatEq, if_true, Sem.run_pure, e1, e2]
  have e : (decide (p.1 = q.1) && decide (p.2 = q.2)) = decide (q = p) := by
    obtain ⟨a, b⟩ := p
    obtain ⟨c, d⟩ := q
    simp only [Prod.mk.injEq]
    rw [Bool.eq_iff_iff]
    simp only [Bool.and_eq_true, decide_eq_true_eq]
    constructor
    · rintro ⟨rfl, rfl⟩; exact ⟨rfl, rfl⟩
    · rintro ⟨rfl, rfl⟩; exact ⟨rfl, rfl⟩
  rw [← e]
  exact key 9999

theorem keyC : KeyT Try.prog 49 cv okc := by
  refine ⟨?_, ?_, ?_⟩
  · intro β val a A bs w ha hA hl
    have key : ∀ (A : List ((Int × Int) × β)) (bs : List Nat) (i : Nat), (∀ x ∈ A, okc x.1) → A.length = bs.length → (Instr.findAsking 49 (cv a) (ents cv val A bs) i).run Try.prog w = .ok ((afind a A i).map fun p => (p.1, val p.2)) w := by
      intro A
      induction A with
      | nil => intro bs i _ _; rfl
      | cons x A ih =>
        intro bs i hA hl
        cases bs with
        | nil => simp at hl
        | cons b bs =>
          have := ih bs (i + 1) (fun y hy => hA y (by simp [hy])) (by simpa using hl)
          unfold ents afind Instr.findAsking
          simp only [Sem.run_bind, eq_c ha (hA x (by simp)), Result.andThen_ok]
          by_cases h : x.1 = a
          · rw [if_pos h, decide_eq_true h]
            simp
          · rw [if_neg h, decide_eq_false h]
            simp [this]
    unfold Instr.findKey
    cases A with
    | nil =>
      simp only [Sem.run_bind, und_run und_c, Result.andThen_ok]
      rfl
    | cons x A =>
      cases bs with
      | nil => simp at hl
      | cons b bs =>
        have hn : Instr.findNow (.complex .f64) (cv a) (ents cv val (x :: A) (b :: bs)) 0 = none := rfl
        simp only [Sem.run_bind, und_run und_c, Result.andThen_ok, hn]
        exact key _ _ 0 hA hl
  · intro b a w
    have key : ∀ d, (Instr.checkKey b (d + 1) 49 (cv a)).run Try.prog w = .ok () w := by
      intro d
      simp [Instr.checkKey, und_run und_c]
    exact key 9999
  · intro a
    have key : ∀ d, Instr.sameBits d (cv a) (cv a) = true := by
      intro d
      simp [Instr.sameBits, cv]
    exact key _

set_option maxRecDepth 100000 in
theorem und_i : Try.prog.underlying 3 = some (.int .i64) := rfl
set_option maxRecDepth 100000 in
theorem und_mb : Try.prog.underlying 114 = some (.map 3 25) := rfl
set_option maxRecDepth 100000 in
theorem und_mc : Try.prog.underlying 115 = some (.map 49 38) := rfl
theorem keyI : KeyT Try.prog 3 (fun x : Int => Value.int .i64 x) (fun _ => True) := keyT_int und_i
set_option maxRecDepth 100000 in
theorem zero_box (w : World) : (zeroValue 25).run Try.prog w = .ok (Bx.v ⟨0, 0, 0⟩) w := rfl

/-! ### the grid -/
abbrev CellV := Option Addr × Nat × List Int
def cval (v : CellV) : Value := .slice v.1 v.2.2.length v.2.1
def nilV : CellV := (none, 0, [])
set_option maxRecDepth 100000 in
theorem zero_ints (w : World) : (zeroValue 38).run Try.prog w = .ok (cval nilV) w := rfl
def ki (x : Int) : Value := .int .i64 x

structure Gr (w : World) (F : Nat → Prop) (g mb mc : Nat) (s : Int) (B : List (Int × Bx)) (C : List ((Int × Int) × CellV)) (bb : List Nat) (kb : Nat) (bc : List Nat) (kc : Nat) : Prop where
  hd : w.heap[g]? = some (.cells #[.int .i64 s, .map (some mb), .map (some mc)] 117 (0, 0))
  bm : Mp w mb ki Bx.v B bb kb
  cm : Mp w mc cv cval C bc kc
  ok : ∀ x ∈ C, okc x.1
  nd : (C.map (·.1)).Nodup
  row : ∀ x ∈ C, Row w 0 3 x.2.1 x.2.2.1 (iv .i64 x.2.2.2)
  ap : C.Pairwise fun x y => Apart x.2.1 y.2.1
  ne : g ≠ mb ∧ g ≠ mc ∧ mb ≠ mc
  rne : ∀ x ∈ C, ∀ a, x.2.1 = some a → a.block ≠ g ∧ a.block ≠ mb ∧ a.block ≠ mc
  fp : F g ∧ F mb ∧ F mc ∧ ∀ x ∈ C, ∀ a, x.2.1 = some a → F a.block
  lt : ∀ k, F k → k < w.heap.size

theorem Gr.ext {w w' : World} {F M : Nat → Prop} {g mb mc : Nat} {s : Int} {B : List (Int × Bx)} {C : List ((Int × Int) × CellV)} {bb : List Nat} {kb : Nat} {bc : List Nat} {kc : Nat}
    (h : Gr w F g mb mc s B C bb kb bc kc) (hx : Ext M w w') (hm : ∀ k, F k → ¬ M k) : Gr w' F g mb mc s B C bb kb bc kc :=
  ⟨hx.blk h.hd (hm _ h.fp.1), h.bm.ext hx (hm _ h.fp.2.1), h.cm.ext hx (hm _ h.fp.2.2.1), h.ok, h.nd, fun x hx' => (h.row x hx').ext hx fun a ha => hm _ (h.fp.2.2.2 x hx' a ha), h.ap, h.ne, h.rne, h.fp, fun k hk => Nat.lt_of_lt_of_le (h.lt k hk) hx.size⟩

theorem Gr.ld0 {w : World} {F : Nat → Prop} {g mb mc : Nat} {s : Int} {B : List (Int × Bx)} {C : List ((Int × Int) × CellV)} {bb : List Nat} {kb : Nat} {bc : List Nat} {kc : Nat}
    (h : Gr w F g mb mc s B C bb kb bc kc) : w.cell? ⟨g, 0, none⟩ = some (.int .i64 s) := by rw [blk_cell h.hd]; rfl
theorem Gr.ld1 {w : World} {F : Nat → Prop} {g mb mc : Nat} {s : Int} {B : List (Int × Bx)} {C : List ((Int × Int) × CellV)} {bb : List Nat} {kb : Nat} {bc : List Nat} {kc : Nat}
    (h : Gr w F g mb mc s B C bb kb bc kc) : w.cell? (Addr.add ⟨g, 0, none⟩ 1) = some (.map (some mb)) := by rw [add_mk, blk_cell h.hd]; rfl
theorem Gr.ld2 {w : World} {F : Nat → Prop} {g mb mc : Nat} {s : Int} {B : List (Int × Bx)} {C : List ((Int × Int) × CellV)} {bb : List Nat} {kb : Nat} {bc : List Nat} {kc : Nat}
    (h : Gr w F g mb mc s B C bb kb bc kc) : w.cell? (Addr.add ⟨g, 0, none⟩ 2) = some (.map (some mc)) := by rw [add_mk, blk_cell h.hd]; rfl

theorem Gr.getRow {w : World} {F : Nat → Prop} {g mb mc : Nat} {s : Int} {B : List (Int × Bx)} {C : List ((Int × Int) × CellV)} {bb : List Nat} {kb : Nat} {bc : List Nat} {kc : Nat}
    (h : Gr w F g mb mc s B C bb kb bc kc) (c : Int × Int) :
    Row w 0 3 ((aget C c).getD nilV).1 ((aget C c).getD nilV).2.1 (iv .i64 ((aget C c).getD nilV).2.2) ∧
      (∀ a, ((aget C c).getD nilV).1 = some a → F a.block ∧ a.block ≠ g ∧ a.block ≠ mb ∧ a.block ≠ mc) ∧
      (∀ x ∈ C, x.1 ≠ c → Apart x.2.1 ((aget C c).getD nilV).1) := by
  cases hg : aget C c with
  | none => exact ⟨Row.nil _ _ _, fun a ha => by simp [nilV] at ha, fun x _ _ => Apart.symm (Apart.none _)⟩
  | some v =>
    have hm := aget_mem hg
    refine ⟨h.row _ hm, fun a ha => ⟨h.fp.2.2.2 _ hm a ha, h.rne _ hm a ha⟩, fun x hx hne => ?_⟩
    have hp := h.ap
    rw [List.pairwise_iff_getElem] at hp
    obtain ⟨i, hi⟩ := List.getElem?_of_mem hx
    obtain ⟨j, hj⟩ := List.getElem?_of_mem hm
    have hi' := List.getElem?_eq_some_iff.1 hi
    have hj' := List.getElem?_eq_some_iff.1 hj
    have hij : i ≠ j := by
      rintro rfl
      rw [hi] at hj
      cases hj
      exact hne rfl
    rcases Nat.lt_or_gt_of_ne hij with hlt | hlt
    · have := hp i j hi'.1 hj'.1 hlt
      rw [hi'.2, hj'.2] at this
      exact this
    · have := hp j i hj'.1 hi'.1 hlt
      rw [hi'.2, hj'.2] at this
      exact this.symm

/-- the numbers of a cell, plainly -/
def pl (C : List ((Int × Int) × CellV)) : List ((Int × Int) × List Int) := C.map fun x => (x.1, x.2.2.2)
theorem pl_get (C : List ((Int × Int) × CellV)) (c : Int × Int) : (aget (pl C) c).getD [] = ((aget C c).getD nilV).2.2 := by
  unfold pl
  rw [map_aget (f := fun v : CellV => v.2.2)]
  cases aget C c <;> rfl

def addTo (D : List ((Int × Int) × List Int)) (c : Int × Int) (id : Int) : List ((Int × Int) × List Int) := aset D c ((aget D c).getD [] ++ [id])
def putL (D : List ((Int × Int) × List Int)) (l : List (Int × Int)) (id : Int) : List ((Int × Int) × List Int) := l.foldl (fun D c => addTo D c id) D

/-- one more number in one cell: what is written, step by step -/
theorem gput_cell {w : World} {F : Nat → Prop} {g mb mc : Nat} {s : Int} {B : List (Int × Bx)} {C : List ((Int × Int) × CellV)} {bb : List Nat} {kb : Nat} {bc : List Nat} {kc : Nat}
    (h : Gr w F g mb mc s B C bb kb bc kc) {c : Int × Int} (hc : okc c) {id : Int} (hlen : ((aget (pl C) c).getD []).length ≤ 1099511627776) {K : World → Prop}
    (hK : ∀ w' F' C' bc' kc', Gr w' F' g mb mc s B C' bb kb bc' kc' → pl C' = addTo (pl C) c id → Ext F w w' → (∀ k, F' k → F k ∨ w.heap.size ≤ k) → (∀ k, F k → F' k) → K w') :
    nw w (.cells #[(.int .i64 id)] 3) fun r25 w26 => (rn Try.prog (Instr.mapEntry 115 (.map (some mc)) (cv c)) w26 fun v27 w28 => asT 2 v27 fun t29 => asS (t29 0) fun p30 n31 c32 => asI .i64 (t29 1) fun x33 => (rn Try.prog (Builtin.append_ #[38, 38] 38 #[(.slice p30 n31 c32), (.slice (some (⟨r25, 0, none⟩ : Addr)) 1 1)]) w28 fun v34 w35 => asS v34 fun p36 n37 c38 => (ru Try.prog (Instr.entryStore 115 (.map (some mc)) (.int .i64 x33) (.slice p36 n37 c38)) w35 fun w39 => K w39))) := by
  refine nw_mk ?_
  have hx1 : Ext no w (w.alloc (.cells #[.int .i64 id] 3)) := Ext.alloc w _
  have h1 := h.ext hx1 fun _ _ hf => hf
  have hsrc : Reads (w.alloc (.cells #[.int .i64 id] 3)) (some ⟨w.heap.size, 0, none⟩) (iv .i64 [id]) := Reads.new w [.int .i64 id] 3
  generalize w.alloc (.cells #[.int .i64 id] 3) = w1 at *
  refine h1.cm.entry keyC und_mc (z := nilV) zero_ints c ⟨hc, h1.ok⟩ ?_
  intro w2 bs' clk' i st hE hi hset hx2 hz2
  refine asT_i rfl rfl (asS_i rfl (asI_i rfl ?_))
  obtain ⟨hrow, hfp, hap⟩ := h1.getRow c
  generalize hv : (aget C c).getD nilV = v at *
  have hlen' : v.2.2.length ≤ 1099511627776 := by
    rw [pl_get, hv] at hlen
    exact hlen
  have hrow2 : Row w2 0 3 v.1 v.2.1 (iv .i64 v.2.2) := hrow.ext hx2 fun a ha e => (hfp a ha).2.2.2 e
  have hmc : mc ≠ w.heap.size := fun e => by
    have := blk_lt h.cm.blk
    omega
  have hsrc2 : Reads w2 (some ⟨w.heap.size, 0, none⟩) (iv .i64 [id]) := hsrc.ext hx2 fun a ha e => by
    cases ha
    exact hmc e.symm
  refine sI.app (m := 1) hrow2 (by simp [iv]) (Nat.zero_le _) hsrc2 rfl (by simp [iv, one]) (le_maxLen (by omega)) (by omega) ?_
  intro p' c' w3 hr3 hE3 hM3 _
  refine asS_i rfl ?_
  have hmE : MpE w3 mc cv cval (aset C c v) bs' clk' i st := ⟨hE.mp.ext hE3 fun ⟨a, ha, hab⟩ => (hfp a ha).2.2.2 hab, hE.st⟩
  have hlen3 : v.2.2.length + 1 = (v.2.2 ++ [id]).length := by simp
  have hcv : (.slice p' (v.2.2.length + 1) c' : Value) = cval (p', c', v.2.2 ++ [id]) := by unfold cval; rw [hlen3]
  rw [hcv]
  refine hmE.store (t := 115) hi (p', c', v.2.2 ++ [id]) ?_
  intro w4 hm4 hx4 hz4
  rw [hset] at hm4
  have hX : Ext F w w4 := by
    have a1 : Ext F w w1 := Ext.of_no hx1
    have a2 : Ext F w w2 := a1.then hx2 fun k _ hk => by
      have : k = mc := hk
      rw [this]; exact h.fp.2.2.1
    have a3 : Ext F w w3 := a2.then hE3 fun k _ ⟨a, ha, hab⟩ => hab ▸ (hfp a ha).1
    exact a3.then hx4 fun k _ hk => by
      have : k = mc := hk
      rw [this]; exact h.fp.2.2.1
  have hg1 := blk_lt h1.hd
  have hmb1 := blk_lt h1.bm.blk
  have hmc1 := blk_lt h1.cm.blk
  have hz12 := hx2.size
  have hpn : ∀ a, p' = some a → a.block ≠ g ∧ a.block ≠ mb ∧ a.block ≠ mc := by
    intro a ha
    rcases hM3 with e | e
    · exact (hfp a (e ▸ ha)).2
    · have := e a ha
      omega
  have k2 : ∀ x ∈ C, Row w2 0 3 x.2.1 x.2.2.1 (iv .i64 x.2.2.2) := fun x hx => (h1.row x hx).ext hx2 fun a ha e => (h1.rne x hx a ha).2.2 e
  have hpa : ∀ x ∈ C, x.1 ≠ c → Apart p' x.2.1 := fun x hx hne => hM3.apart (hap x hx hne).symm fun a ha => ((k2 x hx).at ha).2
  have hiv : iv .i64 v.2.2 ++ iv .i64 [id] = iv .i64 (v.2.2 ++ [id]) := by simp [iv]
  rw [hiv] at hr3
  refine hK w4 (fun k => F k ∨ ∃ a, p' = some a ∧ a.block = k) (aset C c (p', c', v.2.2 ++ [id])) _ _ ⟨?_, ?_, hm4, ?_, nodup_aset h1.nd, ?_, ?_, h1.ne, ?_, ?_, ?_⟩ ?_ hX ?_ fun k hk => .inl hk
  · exact hx4.blk (hE3.blk (hx2.blk h1.hd h1.ne.2.1) fun ⟨a, ha, hab⟩ => (hfp a ha).2.1 hab) h1.ne.2.1
  · exact ((h1.bm.ext hx2 h1.ne.2.2).ext hE3 fun ⟨a, ha, hab⟩ => (hfp a ha).2.2.1 hab).ext hx4 h1.ne.2.2
  · intro x hx
    rcases mem_aset h1.nd hx with rfl | ⟨hx, _⟩
    · exact hc
    · exact h1.ok x hx
  · intro x hx
    rcases mem_aset h1.nd hx with rfl | ⟨hx, hne⟩
    · exact hr3.ext hx4 fun a ha e => (hpn a ha).2.2 e
    · exact ((k2 x hx).keep hE3 (hap x hx hne)).ext hx4 fun a ha e => (h1.rne x hx a ha).2.2 e
  · exact pairwise_aset h1.ap h1.nd fun x hx hne => ⟨(hpa x hx hne).symm, hpa x hx hne⟩
  · intro x hx
    rcases mem_aset h1.nd hx with rfl | ⟨hx, _⟩
    · exact hpn
    · exact h1.rne x hx
  · refine ⟨.inl h1.fp.1, .inl h1.fp.2.1, .inl h1.fp.2.2.1, fun x hx a ha => ?_⟩
    rcases mem_aset h1.nd hx with rfl | ⟨hx, _⟩
    · exact .inr ⟨a, ha, rfl⟩
    · exact .inl (h1.fp.2.2.2 x hx a ha)
  · rintro k (hk | ⟨a, ha, rfl⟩)
    · exact Nat.lt_of_lt_of_le (h.lt k hk) hX.size
    · exact Nat.lt_of_lt_of_le (hr3.at ha).2 hx4.size
  · unfold addTo
    rw [pl_get, hv]
    exact map_aset (f := fun v : CellV => v.2.2)
  · rintro k (hk | ⟨a, ha, rfl⟩)
    · exact .inl hk
    · rcases hM3 with e | e
      · exact .inl (hfp a (e ▸ ha)).1
      · have := e a ha
        have := hx1.size
        exact .inr (by omega)

theorem addTo_len {D : List ((Int × Int) × List Int)} {c : Int × Int} {id : Int} (d : Int × Int) : ((aget (addTo D c id) d).getD []).length ≤ ((aget D d).getD []).length + 1 := by
  unfold addTo
  rw [aget_aset]
  split
  · rename_i h
    subst h
    simp
  · omega

/-- the box and its cells -/
theorem gput_k {w : World} {F : Nat → Prop} {g mb mc : Nat} {s : Int} {B : List (Int × Bx)} {C : List ((Int × Int) × CellV)} {bb : List Nat} {kb : Nat} {bc : List Nat} {kc : Nat}
    (h : Gr w F g mb mc s B C bb kb bc kc) {id : Int} {b : Bx} {l : Option Addr} {n c : Nat} {lst : List (Int × Int)} (hl : Reads w l (lst.map cv)) (hn : lst.length = n) (hn2 : n ≤ 1099511627776)
    (hok : ∀ x ∈ lst, okc x) (hlb : ∀ a, l = some a → ¬ F a.block) (hlen : ∀ x, ((aget (pl C) x).getD []).length + lst.length ≤ 1099511627776) {K : Value → World → Prop}
    (hK : ∀ w' F' C' bb' kb' bc' kc', Gr w' F' g mb mc s (aset B id b) C' bb' kb' bc' kc' → pl C' = putL (pl C) lst id → Ext F w w' → (∀ k, F' k → F k ∨ w.heap.size ≤ k) → (∀ k, F k → F' k) → K (.tuple #[]) w') :
    cl Try.prog 52 #[.pointer (some ⟨g, 0, none⟩), .int .i64 id, b.v, .slice l n c] w K := by
  subst hn
  apply F52_calls
  unfold F52
  have hS := St.start w
  (refine St.nw hS ?_; clear hS; intro r1 _ hS)
  refine St.dw hS ?_
  clear hS
  intro w1 hS _
  have h1 := h.ext hS.ext fun _ _ hf => hf
  refine dr_i (ld_mk h1.ld1 (asM_i rfl ?_))
  repeat (first | (refine asI_i rfl ?_) | (refine asB_i rfl ?_) | (refine asP_i rfl ?_) | (refine asS_i rfl ?_) | (refine asY_i rfl ?_) | (refine asM_i rfl ?_) | (refine asA_i rfl rfl ?_) | (refine asT_i rfl rfl ?_) | (refine lv_i ?_) | (refine St.nw hS ?_; clear hS; intro _ _ hS) | (refine St.dw hS ?_; clear hS; intro _ hS _) | (refine hS.ld0 0 rfl rfl ?_) | (refine hS.ld 0 rfl rfl ?_) | (refine hS.ld0 1 rfl rfl ?_) | (refine hS.ld 1 rfl rfl ?_) | (refine hS.ld0 2 rfl rfl ?_) | (refine hS.ld 2 rfl rfl ?_) | (refine hS.ld0 3 rfl rfl ?_) | (refine hS.ld 3 rfl rfl ?_) | (refine hS.ld0 4 rfl rfl ?_) | (refine hS.ld 4 rfl rfl ?_) | (refine hS.ld0 5 rfl rfl ?_) | (refine hS.ld 5 rfl rfl ?_) | (refine hS.ld0 6 rfl rfl ?_) | (refine hS.ld 6 rfl rfl ?_) | (refine hS.ld0 7 rfl rfl ?_) | (refine hS.ld 7 rfl rfl ?_) | (refine hS.hd0 0 rfl rfl ?_) | (refine hS.hd 0 rfl rfl ?_) | (refine hS.hd0 1 rfl rfl ?_) | (refine hS.hd 1 rfl rfl ?_) | (refine hS.hd0 2 rfl rfl ?_) | (refine hS.hd 2 rfl rfl ?_) | (refine hS.hd0 3 rfl rfl ?_) | (refine hS.hd 3 rfl rfl ?_) | (refine hS.hd0 4 rfl rfl ?_) | (refine hS.hd 4 rfl rfl ?_) | (refine hS.hd0 5 rfl rfl ?_) | (refine hS.hd 5 rfl rfl ?_) | (refine hS.hd0 6 rfl rfl ?_) | (refine hS.hd 6 rfl rfl ?_) | (refine hS.hd0 7 rfl rfl ?_) | (refine hS.hd 7 rfl rfl ?_) | (refine hS.st0 0 rfl rfl rfl ?_; clear hS; intro _ hS) | (refine hS.st 0 rfl rfl rfl ?_; clear hS; intro _ hS) | (refine hS.st0 1 rfl rfl rfl ?_; clear hS; intro _ hS) | (refine hS.st 1 rfl rfl rfl ?_; clear hS; intro _ hS) | (refine hS.st0 2 rfl rfl rfl ?_; clear hS; intro _ hS) | (refine hS.st 2 rfl rfl rfl ?_; clear hS; intro _ hS) | (refine hS.st0 3 rfl rfl rfl ?_; clear hS; intro _ hS) | (refine hS.st 3 rfl rfl rfl ?_; clear hS; intro _ hS) | (refine hS.st0 4 rfl rfl rfl ?_; clear hS; intro _ hS) | (refine hS.st 4 rfl rfl rfl ?_; clear hS; intro _ hS) | (refine hS.st0 5 rfl rfl rfl ?_; clear hS; intro _ hS) | (refine hS.st 5 rfl rfl rfl ?_; clear hS; intro _ hS) | (refine hS.st0 6 rfl rfl rfl ?_; clear hS; intro _ hS) | (refine hS.st 6 rfl rfl rfl ?_; clear hS; intro _ hS) | (refine hS.st0 7 rfl rfl rfl ?_; clear hS; intro _ hS) | (refine hS.st 7 rfl rfl rfl ?_; clear hS; intro _ hS) | (refine bnd_mk (by decide) (by decide) ?_) | (refine so_i rfl ?_))
  show ru Try.prog (Instr.mapUpdate _ _ (ki id) b.v) _ _
  refine h1.bm.update keyI und_mb id ⟨trivial, fun _ _ => trivial⟩ b ?_
  intro w2 bb' kb' hbm hx2 hz2
  have hx02 : Ext F w w2 := (Ext.of_no hS.ext).then hx2 fun k _ hk => by
    have : k = mb := hk
    rw [this]; exact h.fp.2.1
  have h2 : Gr w2 F g mb mc s (aset B id b) C bb' kb' bc kc :=
    ⟨hx2.blk h1.hd h1.ne.1, hbm, h1.cm.ext hx2 (fun e => h1.ne.2.2 e.symm), h1.ok, h1.nd, fun x hx => (h1.row x hx).ext hx2 fun a ha e => (h1.rne x hx a ha).2.1 e, h1.ap, h1.ne, h1.rne, h1.fp, fun k hk => Nat.lt_of_lt_of_le (h.lt k hk) hx02.size⟩
  clear hS h1 hbm
  refine lp_mk (fun i : Nat => [.int .i64 (i : Int)])
    (fun m i w' => m = lst.length - i ∧ i ≤ lst.length ∧ ∃ F' C' bc' kc', Gr w' F' g mb mc s (aset B id b) C' bb' kb' bc' kc' ∧ pl C' = putL (pl C) (lst.take i) id ∧ Ext F w w' ∧ (∀ k, F' k → F k ∨ w.heap.size ≤ k) ∧ (∀ k, F k → F' k) ∧
      ∀ x, ((aget (pl C') x).getD []).length + (lst.length - i) ≤ 1099511627776) lst.length 0 rfl
    ⟨rfl, Nat.zero_le _, F, C, bc, kc, h2, rfl, hx02, fun k hk => .inl hk, fun k hk => hk, hlen⟩ ?_
  rintro _ i w3 ⟨rfl, hi, F', C', bc', kc', h3, hpl, hx3, hF1, hF2, hb3⟩ J hJ
  refine asI_i rfl (cond_split (fun hc => ?_) (fun hc => ?_))
  · have hil : i < lst.length := by
      have := of_decide_eq_true hc
      omega
    have hr3 : Reads w3 l (lst.map cv) := hl.ext hx3 hlb
    refine hr3.at (i := (i : Int)) (by omega) (v := cv lst[i]) (by simp [hil]) ?_ (by simp)
    refine asC_i rfl (dr_i (ld_mk h3.ld2 (asM_i rfl ?_)))
    have hci := hok lst[i] (List.getElem_mem hil)
    have hb := hb3 lst[i]
    refine gput_cell h3 hci (by omega) ?_
    intro w4 F4 C4 bc4 kc4 h4 hpl4 hx4 hF4 hF4'
    have ei : IntKind.wrap .i64 ((i : Int) + 1) = ((i + 1 : Nat) : Int) := by rw [wr64 (by omega) (by omega)]; omega
    rw [ei]
    refine hJ (lst.length - (i + 1)) (i + 1) w4 (by omega) ⟨rfl, hil, F4, C4, bc4, kc4, h4, ?_, hx3.then hx4 fun k hk hf => ?_, fun k hk => ?_, fun k hk => hF4' k (hF2 k hk), fun x => ?_⟩
    · rw [hpl4, hpl, List.take_add_one, List.getElem?_eq_getElem hil]
      unfold putL
      rw [List.foldl_append]
      rfl
    · rcases hF1 k hf with hf | hf
      · exact hf
      · omega
    · have := hx3.size
      rcases hF4 k hk with hf | hf
      · exact hF1 k hf
      · exact .inr (by omega)
    · rw [hpl4]
      have := addTo_len (D := pl C') (c := lst[i]) (id := id) x
      have := hb3 x
      omega
  · have hil : i = lst.length := by
      have := of_decide_eq_false hc
      omega
    subst hil
    rw [List.take_length] at hpl
    exact hK w3 F' C' bb' kb' bc' kc' h3 hpl hx3 hF1 hF2
end Go.Proofs.Ytamobmjfdiecbaa
