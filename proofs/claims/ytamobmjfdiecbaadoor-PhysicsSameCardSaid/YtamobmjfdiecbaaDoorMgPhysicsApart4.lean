/- GrE: the grid as a thing in memory, and what its functions do to it, as contracts over lists of numbers and boxes. Conditions: those of each theorem, on its arguments. -/
import Derived.Test.YtamobmjfdiecbaaDoorMgPhysicsApart3
import Derived.SizedLaws
import Derived.ChangeSlices
import Derived.Deep.Grids
import Derived.WalkKit
import Derived.ProofKit
import Derived.OpenShut
import Derived.ShutString
import Derived.ChangeOld
import Derived.Below
import Derived.Deep.Slices
import Derived.DataReads
import Derived.Test.YtamobmjfdiecbaaDoorChecked
import Derived.DeepKeys
namespace Go.Proofs.YtamobmjfdiecbaaDoor
open Go Go.Sx Go.Fp
attribute [local irreducible] jn lv ld st nw asI asB asP asS asY asM asF asA asT lp rn ru rq cl dw dr bnd bn2 nz nn hd hr so eqW
attribute [local irreducible] callOk

/-! ### keys that are cells -/
def okc (p : Int × Int) : Prop := p.1.natAbs < 2 ^ 52 ∧ p.2.natAbs < 2 ^ 52

set_option maxRecDepth 100000 in
theorem und_c : Tryd.prog.underlying 107 = some (.complex .f64) := rfl

theorem eq_c {p q : Int × Int} (hp : okc p) (hq : okc q) (w : World) : (Op.equal 107 (cv p) (cv q)).run Tryd.prog w = .ok (decide (q = p)) w := by
  have n1 := N_F (n := p.1) (by have := hp.1; omega)
  have n2 := N_F (n := p.2) (by have := hp.2; omega)
  have m1 := N_F (n := q.1) (by have := hq.1; omega)
  have m2 := N_F (n := q.2) (by have := hq.2; omega)
  have e1 := ord_eq n1 m1
  have e2 := ord_eq n2 m2
  have key : ∀ d, (Op.equalIn (d + 1) 107 (cv p) (cv q)).run Tryd.prog w = .ok (decide (p.1 = q.1) && decide (p.2 = q.2)) w := by
    intro d
    simp only [Op.equalIn, Sem.run_bind, und_run und_c, Result.andThen_ok, cv, Op.floatEq, if_true, Sem.run_pure, e1, e2]
  have e : (decide (p.1 = q.1) && decide (p.2 = q.2)) = decide (q = p) := by
    obtain ⟨a, b⟩ := p
    obtain ⟨c, d⟩ := q
    simp only [Prod.mk.injEq]
    rw [Bool.eq_iff_iff]
    simp only [Bool.and_eq_true, decide_eq_true_eq]
    constructor
    · rintro ⟨rfl, rfl⟩; exact ⟨rfl, rfl⟩
    · rintro ⟨rfl, rfl⟩; exact ⟨rfl, rfl⟩
  rw [← e]
  exact key 9999

theorem keyC : KeyT Tryd.prog 107 cv okc := by
  refine ⟨?_, ?_, ?_⟩
  · intro β val a A bs w ha hA hl
    have key : ∀ (A : List ((Int × Int) × β)) (bs : List Nat) (i : Nat), (∀ x ∈ A, okc x.1) → A.length = bs.length → (Instr.findAsking 107 (cv a) (ents cv val A bs) i).run Tryd.prog w = .ok ((afind a A i).map fun p => (p.1, val p.2)) w := by
      intro A
      induction A with
      | nil => intro bs i _ _; rfl
      | cons x A ih =>
        intro bs i hA hl
        cases bs with
        | nil => simp at hl
        | cons b bs =>
          have := ih bs (i + 1) (fun y hy => hA y (by simp [hy])) (by simpa using hl)
          unfold ents afind Instr.findAsking
          simp only [Sem.run_bind, eq_c ha (hA x (by simp)), Result.andThen_ok]
          by_cases h : x.1 = a
          · rw [if_pos h, decide_eq_true h]
            simp
          · rw [if_neg h, decide_eq_false h]
            simp [this]
    unfold Instr.findKey
    cases A with
    | nil =>
      simp only [Sem.run_bind, und_run und_c, Result.andThen_ok]
      rfl
    | cons x A =>
      cases bs with
      | nil => simp at hl
      | cons b bs =>
        have hn : Instr.findNow (.complex .f64) (cv a) (ents cv val (x :: A) (b :: bs)) 0 = none := rfl
        simp only [Sem.run_bind, und_run und_c, Result.andThen_ok, hn]
        exact key _ _ 0 hA hl
  · intro b a w
    have key : ∀ d, (Instr.checkKey b (d + 1) 107 (cv a)).run Tryd.prog w = .ok () w := by
      intro d
      simp [Instr.checkKey, und_run und_c]
    exact key 9999
  · intro a
    have key : ∀ d, Instr.sameBits d (cv a) (cv a) = true := by
      intro d
      simp [Instr.sameBits, cv]
    exact key _

set_option maxRecDepth 100000 in
theorem und_i : Tryd.prog.underlying 3 = some (.int .i64) := rfl
set_option maxRecDepth 100000 in
theorem und_mb : Tryd.prog.underlying 102 = some (.map 3 38) := rfl
set_option maxRecDepth 100000 in
theorem und_mc : Tryd.prog.underlying 103 = some (.map 107 23) := rfl
theorem keyI : KeyT Tryd.prog 3 (fun x : Int => Value.int .i64 x) (fun _ => True) := keyT_int und_i
set_option maxRecDepth 100000 in
theorem zero_box (w : World) : (zeroValue 38).run Tryd.prog w = .ok (Bx.v ⟨0, 0, 0⟩) w := rfl

/-! ### the grid -/
abbrev CellV := Option Addr × Nat × List Int
def cval (v : CellV) : Value := .slice v.1 v.2.2.length v.2.1
def nilV : CellV := (none, 0, [])
set_option maxRecDepth 100000 in
theorem zero_ints (w : World) : (zeroValue 23).run Tryd.prog w = .ok (cval nilV) w := rfl
def ki (x : Int) : Value := .int .i64 x

structure Gr (w : World) (F : Nat → Prop) (g mb mc : Nat) (s : Int) (B : List (Int × Bx)) (C : List ((Int × Int) × CellV)) (bb : List Nat) (kb : Nat) (bc : List Nat) (kc : Nat) : Prop where
  hd : w.heap[g]? = some (.cells #[.int .i64 s, .map (some mb), .map (some mc)] 105 (0, 0))
  bm : Mp w mb ki Bx.v B bb kb
  cm : Mp w mc cv cval C bc kc
  ok : ∀ x ∈ C, okc x.1
  nd : (C.map (·.1)).Nodup
  row : ∀ x ∈ C, Row w 0 3 x.2.1 x.2.2.1 (iv .i64 x.2.2.2)
  ap : C.Pairwise fun x y => Apart x.2.1 y.2.1
  ne : g ≠ mb ∧ g ≠ mc ∧ mb ≠ mc
  rne : ∀ x ∈ C, ∀ a, x.2.1 = some a → a.block ≠ g ∧ a.block ≠ mb ∧ a.block ≠ mc
  fp : F g ∧ F mb ∧ F mc ∧ ∀ x ∈ C, ∀ a, x.2.1 = some a → F a.block
  lt : ∀ k, F k → k < w.heap.size

theorem Gr.ext {w w' : World} {F M : Nat → Prop} {g mb mc : Nat} {s : Int} {B : List (Int × Bx)} {C : List ((Int × Int) × CellV)} {bb : List Nat} {kb : Nat} {bc : List Nat} {kc : Nat}
    (h : Gr w F g mb mc s B C bb kb bc kc) (hx : Ext M w w') (hm : ∀ k, F k → ¬ M k) : Gr w' F g mb mc s B C bb kb bc kc :=
  ⟨hx.blk h.hd (hm _ h.fp.1), h.bm.ext hx (hm _ h.fp.2.1), h.cm.ext hx (hm _ h.fp.2.2.1), h.ok, h.nd, fun x hx' => (h.row x hx').ext hx fun a ha => hm _ (h.fp.2.2.2 x hx' a ha), h.ap, h.ne, h.rne, h.fp, fun k hk => Nat.lt_of_lt_of_le (h.lt k hk) hx.size⟩

theorem Gr.ld0 {w : World} {F : Nat → Prop} {g mb mc : Nat} {s : Int} {B : List (Int × Bx)} {C : List ((Int × Int) × CellV)} {bb : List Nat} {kb : Nat} {bc : List Nat} {kc : Nat}
    (h : Gr w F g mb mc s B C bb kb bc kc) : w.cell? ⟨g, 0, none⟩ = some (.int .i64 s) := by rw [blk_cell h.hd]; rfl
theorem Gr.ld1 {w : World} {F : Nat → Prop} {g mb mc : Nat} {s : Int} {B : List (Int × Bx)} {C : List ((Int × Int) × CellV)} {bb : List Nat} {kb : Nat} {bc : List Nat} {kc : Nat}
    (h : Gr w F g mb mc s B C bb kb bc kc) : w.cell? (Addr.add ⟨g, 0, none⟩ 1) = some (.map (some mb)) := by rw [add_mk, blk_cell h.hd]; rfl
theorem Gr.ld2 {w : World} {F : Nat → Prop} {g mb mc : Nat} {s : Int} {B : List (Int × Bx)} {C : List ((Int × Int) × CellV)} {bb : List Nat} {kb : Nat} {bc : List Nat} {kc : Nat}
    (h : Gr w F g mb mc s B C bb kb bc kc) : w.cell? (Addr.add ⟨g, 0, none⟩ 2) = some (.map (some mc)) := by rw [add_mk, blk_cell h.hd]; rfl

theorem Gr.getRow {w : World} {F : Nat → Prop} {g mb mc : Nat} {s : Int} {B : List (Int × Bx)} {C : List ((Int × Int) × CellV)} {bb : List Nat} {kb : Nat} {bc : List Nat} {kc : Nat}
    (h : Gr w F g mb mc s B C bb kb bc kc) (c : Int × Int) :
    Row w 0 3 ((aget C c).getD nilV).1 ((aget C c).getD nilV).2.1 (iv .i64 ((aget C c).getD nilV).2.2) ∧
      (∀ a, ((aget C c).getD nilV).1 = some a → F a.block ∧ a.block ≠ g ∧ a.block ≠ mb ∧ a.block ≠ mc) ∧
      (∀ x ∈ C, x.1 ≠ c → Apart x.2.1 ((aget C c).getD nilV).1) := by
  cases hg : aget C c with
  | none => exact ⟨Row.nil _ _ _, fun a ha => by simp [nilV] at ha, fun x _ _ => Apart.symm (Apart.none _)⟩
  | some v =>
    have hm := aget_mem hg
    refine ⟨h.row _ hm, fun a ha => ⟨h.fp.2.2.2 _ hm a ha, h.rne _ hm a ha⟩, fun x hx hne => ?_⟩
    have hp := h.ap
    rw [List.pairwise_iff_getElem] at hp
    obtain ⟨i, hi⟩ := List.getElem?_of_mem hx
    obtain ⟨j, hj⟩ := List.getElem?_of_mem hm
    have hi' := List.getElem?_eq_some_iff.1 hi
    have hj' := List.getElem?_eq_some_iff.1 hj
    have hij : i ≠ j := by
      rintro rfl
      rw [hi] at hj
      cases hj
      exact hne rfl
    rcases Nat.lt_or_gt_of_ne hij with hlt | hlt
    · have := hp i j hi'.1 hj'.1 hlt
      rw [hi'.2, hj'.2] at this
      exact this
    · have := hp j i hj'.1 hi'.1 hlt
      rw [hi'.2, hj'.2] at this
      exact this.symm

/-- the numbers of a cell, plainly -/
def pl (C : List ((Int × Int) × CellV)) : List ((Int × Int) × List Int) := C.map fun x => (x.1, x.2.2.2)
theorem pl_get (C : List ((Int × Int) × CellV)) (c : Int × Int) : (aget (pl C) c).getD [] = ((aget C c).getD nilV).2.2 := by
  unfold pl
  rw [map_aget (f := fun v : CellV => v.2.2)]
  cases aget C c <;> rfl

def addTo (D : List ((Int × Int) × List Int)) (c : Int × Int) (id : Int) : List ((Int × Int) × List Int) := aset D c ((aget D c).getD [] ++ [id])
def putL (D : List ((Int × Int) × List Int)) (l : List (Int × Int)) (id : Int) : List ((Int × Int) × List Int) := l.foldl (fun D c => addTo D c id) D

/-- one more number in one cell: what is written, step by step -/
theorem gput_cell {w : World} {F : Nat → Prop} {g mb mc : Nat} {s : Int} {B : List (Int × Bx)} {C : List ((Int × Int) × CellV)} {bb : List Nat} {kb : Nat} {bc : List Nat} {kc : Nat}
    (h : Gr w F g mb mc s B C bb kb bc kc) {c : Int × Int} (hc : okc c) {id : Int} (hlen : ((aget (pl C) c).getD []).length ≤ 1099511627776) {K : World → Prop}
    (hK : ∀ w' F' C' bc' kc', Gr w' F' g mb mc s B C' bb kb bc' kc' → pl C' = addTo (pl C) c id → Ext F w w' → (∀ k, F' k → F k ∨ w.heap.size ≤ k) → (∀ k, F k → F' k) → K w') :
    nw w (.cells #[(.int .i64 id)] 3) fun r25 w26 => (rn Tryd.prog (Instr.mapEntry 103 (.map (some mc)) (cv c)) w26 fun v27 w28 => asT 2 v27 fun t29 => asS (t29 0) fun p30 n31 c32 => asI .i64 (t29 1) fun x33 => (rn Tryd.prog (Builtin.append_ #[23, 23] 23 #[(.slice p30 n31 c32), (.slice (some (⟨r25, 0, none⟩ : Addr)) 1 1)]) w28 fun v34 w35 => asS v34 fun p36 n37 c38 => (ru Tryd.prog (Instr.entryStore 103 (.map (some mc)) (.int .i64 x33) (.slice p36 n37 c38)) w35 fun w39 => K w39))) := by
  refine nw_mk ?_
  have hx1 : Ext no w (w.alloc (.cells #[.int .i64 id] 3)) := Ext.alloc w _
  have h1 := h.ext hx1 fun _ _ hf => hf
  have hsrc : Reads (w.alloc (.cells #[.int .i64 id] 3)) (some ⟨w.heap.size, 0, none⟩) (iv .i64 [id]) := Reads.new w [.int .i64 id] 3
  generalize w.alloc (.cells #[.int .i64 id] 3) = w1 at *
  refine h1.cm.entry keyC und_mc (z := nilV) zero_ints c ⟨hc, h1.ok⟩ ?_
  intro w2 bs' clk' i st hE hi hset hx2 hz2
  refine asT_i rfl rfl (asS_i rfl (asI_i rfl ?_))
  obtain ⟨hrow, hfp, hap⟩ := h1.getRow c
  generalize hv : (aget C c).getD nilV = v at *
  have hlen' : v.2.2.length ≤ 1099511627776 := by
    rw [pl_get, hv] at hlen
    exact hlen
  have hrow2 : Row w2 0 3 v.1 v.2.1 (iv .i64 v.2.2) := hrow.ext hx2 fun a ha e => (hfp a ha).2.2.2 e
  have hmc : mc ≠ w.heap.size := fun e => by
    have := blk_lt h.cm.blk
    omega
  have hsrc2 : Reads w2 (some ⟨w.heap.size, 0, none⟩) (iv .i64 [id]) := hsrc.ext hx2 fun a ha e => by
    cases ha
    exact hmc e.symm
  refine sI.app (m := 1) hrow2 (by simp [iv]) (Nat.zero_le _) hsrc2 rfl (by simp [iv, Sx.one]) (le_maxLen (by omega)) (by omega) ?_
  intro p' c' w3 hr3 hE3 hM3 _
  refine asS_i rfl ?_
  have hmE : MpE w3 mc cv cval (aset C c v) bs' clk' i st := ⟨hE.mp.ext hE3 fun ⟨a, ha, hab⟩ => (hfp a ha).2.2.2 hab, hE.st⟩
  have hlen3 : v.2.2.length + 1 = (v.2.2 ++ [id]).length := by simp
  have hcv : (.slice p' (v.2.2.length + 1) c' : Value) = cval (p', c', v.2.2 ++ [id]) := by unfold cval; rw [hlen3]
  rw [hcv]
  refine hmE.store (t := 103) hi (p', c', v.2.2 ++ [id]) ?_
  intro w4 hm4 hx4 hz4
  rw [hset] at hm4
  have hX : Ext F w w4 := by
    have a1 : Ext F w w1 := Ext.of_no hx1
    have a2 : Ext F w w2 := a1.then hx2 fun k _ hk => by
      have : k = mc := hk
      rw [this]; exact h.fp.2.2.1
    have a3 : Ext F w w3 := a2.then hE3 fun k _ ⟨a, ha, hab⟩ => hab ▸ (hfp a ha).1
    exact a3.then hx4 fun k _ hk => by
      have : k = mc := hk
      rw [this]; exact h.fp.2.2.1
  have hg1 := blk_lt h1.hd
  have hmb1 := blk_lt h1.bm.blk
  have hmc1 := blk_lt h1.cm.blk
  have hz12 := hx2.size
  have hpn : ∀ a, p' = some a → a.block ≠ g ∧ a.block ≠ mb ∧ a.block ≠ mc := by
    intro a ha
    rcases hM3 with e | e
    · exact (hfp a (e ▸ ha)).2
    · have := e a ha
      omega
  have k2 : ∀ x ∈ C, Row w2 0 3 x.2.1 x.2.2.1 (iv .i64 x.2.2.2) := fun x hx => (h1.row x hx).ext hx2 fun a ha e => (h1.rne x hx a ha).2.2 e
  have hpa : ∀ x ∈ C, x.1 ≠ c → Apart p' x.2.1 := fun x hx hne => hM3.apart (hap x hx hne).symm fun a ha => ((k2 x hx).at ha).2
  have hiv : iv .i64 v.2.2 ++ iv .i64 [id] = iv .i64 (v.2.2 ++ [id]) := by simp [iv]
  rw [hiv] at hr3
  refine hK w4 (fun k => F k ∨ ∃ a, p' = some a ∧ a.block = k) (aset C c (p', c', v.2.2 ++ [id])) _ _ ⟨?_, ?_, hm4, ?_, nodup_aset h1.nd, ?_, ?_, h1.ne, ?_, ?_, ?_⟩ ?_ hX ?_ fun k hk => .inl hk
  · exact hx4.blk (hE3.blk (hx2.blk h1.hd h1.ne.2.1) fun ⟨a, ha, hab⟩ => (hfp a ha).2.1 hab) h1.ne.2.1
  · exact ((h1.bm.ext hx2 h1.ne.2.2).ext hE3 fun ⟨a, ha, hab⟩ => (hfp a ha).2.2.1 hab).ext hx4 h1.ne.2.2
  · intro x hx
    rcases mem_aset h1.nd hx with rfl | ⟨hx, _⟩
    · exact hc
    · exact h1.ok x hx
  · intro x hx
    rcases mem_aset h1.nd hx with rfl | ⟨hx, hne⟩
    · exact hr3.ext hx4 fun a ha e => (hpn a ha).2.2 e
    · exact ((k2 x hx).keep hE3 (hap x hx hne)).ext hx4 fun a ha e => (h1.rne x hx a ha).2.2 e
  · exact pairwise_aset h1.ap h1.nd fun x hx hne => ⟨(hpa x hx hne).symm, hpa x hx hne⟩
  · intro x hx
    rcases mem_aset h1.nd hx with rfl | ⟨hx, _⟩
    · exact hpn
    · exact h1.rne x hx
  · refine ⟨.inl h1.fp.1, .inl h1.fp.2.1, .inl h1.fp.2.2.1, fun x hx a ha => ?_⟩
    rcases mem_aset h1.nd hx with rfl | ⟨hx, _⟩
    · exact .inr ⟨a, ha, rfl⟩
    · exact .inl (h1.fp.2.2.2 x hx a ha)
  · rintro k (hk | ⟨a, ha, rfl⟩)
    · exact Nat.lt_of_lt_of_le (h.lt k hk) hX.size
    · exact Nat.lt_of_lt_of_le (hr3.at ha).2 hx4.size
  · unfold addTo
    rw [pl_get, hv]
    exact map_aset (f := fun v : CellV => v.2.2)
  · rintro k (hk | ⟨a, ha, rfl⟩)
    · exact .inl hk
    · rcases hM3 with e | e
      · exact .inl (hfp a (e ▸ ha)).1
      · have := e a ha
        have := hx1.size
        exact .inr (by omega)

theorem addTo_len {D : List ((Int × Int) × List Int)} {c : Int × Int} {id : Int} (d : Int × Int) : ((aget (addTo D c id) d).getD []).length ≤ ((aget D d).getD []).length + 1 := by
  unfold addTo
  rw [aget_aset]
  split
  · rename_i h
    subst h
    simp
  · omega

/-- the box and its cells -/
theorem gput_k {w : World} {F : Nat → Prop} {g mb mc : Nat} {s : Int} {B : List (Int × Bx)} {C : List ((Int × Int) × CellV)} {bb : List Nat} {kb : Nat} {bc : List Nat} {kc : Nat}
    (h : Gr w F g mb mc s B C bb kb bc kc) {id : Int} {b : Bx} {l : Option Addr} {n c : Nat} {lst : List (Int × Int)} (hl : Reads w l (lst.map cv)) (hn : lst.length = n) (hn2 : n ≤ 1099511627776)
    (hok : ∀ x ∈ lst, okc x) (hlb : ∀ a, l = some a → ¬ F a.block) (hlen : ∀ x, ((aget (pl C) x).getD []).length + lst.length ≤ 1099511627776) {K : Value → World → Prop}
    (hK : ∀ w' F' C' bb' kb' bc' kc', Gr w' F' g mb mc s (aset B id b) C' bb' kb' bc' kc' → pl C' = putL (pl C) lst id → Ext F w w' → (∀ k, F' k → F k ∨ w.heap.size ≤ k) → (∀ k, F k → F' k) → K (.tuple #[]) w') :
    cl Tryd.prog 50 #[.pointer (some ⟨g, 0, none⟩), .int .i64 id, b.v, .slice l n c] w K := by
  subst hn
  apply F50_calls
  unfold F50
  have hS := St.start w
  (refine St.nw hS ?_; clear hS; intro r1 _ hS)
  refine St.dw hS ?_
  clear hS
  intro w1 hS _
  have h1 := h.ext hS.ext fun _ _ hf => hf
  refine dr_i (ld_mk h1.ld1 (asM_i rfl ?_))
  repeat (first | (refine asI_i rfl ?_) | (refine asB_i rfl ?_) | (refine asP_i rfl ?_) | (refine asS_i rfl ?_) | (refine asY_i rfl ?_) | (refine asM_i rfl ?_) | (refine asA_i rfl rfl ?_) | (refine asT_i rfl rfl ?_) | (refine lv_i ?_) | (refine St.nw hS ?_; clear hS; intro _ _ hS) | (refine St.dw hS ?_; clear hS; intro _ hS _) | (refine hS.ld0 0 rfl rfl ?_) | (refine hS.ld 0 rfl rfl ?_) | (refine hS.ld0 1 rfl rfl ?_) | (refine hS.ld 1 rfl rfl ?_) | (refine hS.ld0 2 rfl rfl ?_) | (refine hS.ld 2 rfl rfl ?_) | (refine hS.ld0 3 rfl rfl ?_) | (refine hS.ld 3 rfl rfl ?_) | (refine hS.ld0 4 rfl rfl ?_) | (refine hS.ld 4 rfl rfl ?_) | (refine hS.ld0 5 rfl rfl ?_) | (refine hS.ld 5 rfl rfl ?_) | (refine hS.ld0 6 rfl rfl ?_) | (refine hS.ld 6 rfl rfl ?_) | (refine hS.ld0 7 rfl rfl ?_) | (refine hS.ld 7 rfl rfl ?_) | (refine hS.hd0 0 rfl rfl ?_) | (refine hS.hd 0 rfl rfl ?_) | (refine hS.hd0 1 rfl rfl ?_) | (refine hS.hd 1 rfl rfl ?_) | (refine hS.hd0 2 rfl rfl ?_) | (refine hS.hd 2 rfl rfl ?_) | (refine hS.hd0 3 rfl rfl ?_) | (refine hS.hd 3 rfl rfl ?_) | (refine hS.hd0 4 rfl rfl ?_) | (refine hS.hd 4 rfl rfl ?_) | (refine hS.hd0 5 rfl rfl ?_) | (refine hS.hd 5 rfl rfl ?_) | (refine hS.hd0 6 rfl rfl ?_) | (refine hS.hd 6 rfl rfl ?_) | (refine hS.hd0 7 rfl rfl ?_) | (refine hS.hd 7 rfl rfl ?_) | (refine hS.st0 0 rfl rfl rfl ?_; clear hS; intro _ hS) | (refine hS.st 0 rfl rfl rfl ?_; clear hS; intro _ hS) | (refine hS.st0 1 rfl rfl rfl ?_; clear hS; intro _ hS) | (refine hS.st 1 rfl rfl rfl ?_; clear hS; intro _ hS) | (refine hS.st0 2 rfl rfl rfl ?_; clear hS; intro _ hS) | (refine hS.st 2 rfl rfl rfl ?_; clear hS; intro _ hS) | (refine hS.st0 3 rfl rfl rfl ?_; clear hS; intro _ hS) | (refine hS.st 3 rfl rfl rfl ?_; clear hS; intro _ hS) | (refine hS.st0 4 rfl rfl rfl ?_; clear hS; intro _ hS) | (refine hS.st 4 rfl rfl rfl ?_; clear hS; intro _ hS) | (refine hS.st0 5 rfl rfl rfl ?_; clear hS; intro _ hS) | (refine hS.st 5 rfl rfl rfl ?_; clear hS; intro _ hS) | (refine hS.st0 6 rfl rfl rfl ?_; clear hS; intro _ hS) | (refine hS.st 6 rfl rfl rfl ?_; clear hS; intro _ hS) | (refine hS.st0 7 rfl rfl rfl ?_; clear hS; intro _ hS) | (refine hS.st 7 rfl rfl rfl ?_; clear hS; intro _ hS) | (refine bnd_mk (by decide) (by decide) ?_) | (refine so_i rfl ?_))
  show ru Tryd.prog (Instr.mapUpdate _ _ (ki id) b.v) _ _
  refine h1.bm.update keyI und_mb id ⟨trivial, fun _ _ => trivial⟩ b ?_
  intro w2 bb' kb' hbm hx2 hz2
  have hx02 : Ext F w w2 := (Ext.of_no hS.ext).then hx2 fun k _ hk => by
    have : k = mb := hk
    rw [this]; exact h.fp.2.1
  have h2 : Gr w2 F g mb mc s (aset B id b) C bb' kb' bc kc :=
    ⟨hx2.blk h1.hd h1.ne.1, hbm, h1.cm.ext hx2 (fun e => h1.ne.2.2 e.symm), h1.ok, h1.nd, fun x hx => (h1.row x hx).ext hx2 fun a ha e => (h1.rne x hx a ha).2.1 e, h1.ap, h1.ne, h1.rne, h1.fp, fun k hk => Nat.lt_of_lt_of_le (h.lt k hk) hx02.size⟩
  clear hS h1 hbm
  refine lp_mk (fun i : Nat => [.int .i64 (i : Int)])
    (fun m i w' => m = lst.length - i ∧ i ≤ lst.length ∧ ∃ F' C' bc' kc', Gr w' F' g mb mc s (aset B id b) C' bb' kb' bc' kc' ∧ pl C' = putL (pl C) (lst.take i) id ∧ Ext F w w' ∧ (∀ k, F' k → F k ∨ w.heap.size ≤ k) ∧ (∀ k, F k → F' k) ∧
      ∀ x, ((aget (pl C') x).getD []).length + (lst.length - i) ≤ 1099511627776) lst.length 0 rfl
    ⟨rfl, Nat.zero_le _, F, C, bc, kc, h2, rfl, hx02, fun k hk => .inl hk, fun k hk => hk, hlen⟩ ?_
  rintro _ i w3 ⟨rfl, hi, F', C', bc', kc', h3, hpl, hx3, hF1, hF2, hb3⟩ J hJ
  refine asI_i rfl (cond_split (fun hc => ?_) (fun hc => ?_))
  · have hil : i < lst.length := by
      have := of_decide_eq_true hc
      omega
    have hr3 : Reads w3 l (lst.map cv) := hl.ext hx3 hlb
    refine hr3.at (i := (i : Int)) (by omega) (v := cv lst[i]) (by simp [hil]) ?_ (by simp)
    refine asC_i rfl (dr_i (ld_mk h3.ld2 (asM_i rfl ?_)))
    have hci := hok lst[i] (List.getElem_mem hil)
    have hb := hb3 lst[i]
    refine gput_cell h3 hci (by omega) ?_
    intro w4 F4 C4 bc4 kc4 h4 hpl4 hx4 hF4 hF4'
    have ei : IntKind.wrap .i64 ((i : Int) + 1) = ((i + 1 : Nat) : Int) := by rw [wr64 (by omega) (by omega)]; omega
    rw [ei]
    refine hJ (lst.length - (i + 1)) (i + 1) w4 (by omega) ⟨rfl, hil, F4, C4, bc4, kc4, h4, ?_, hx3.then hx4 fun k hk hf => ?_, fun k hk => ?_, fun k hk => hF4' k (hF2 k hk), fun x => ?_⟩
    · rw [hpl4, hpl, List.take_add_one, List.getElem?_eq_getElem hil]
      unfold putL
      rw [List.foldl_append]
      rfl
    · rcases hF1 k hf with hf | hf
      · exact hf
      · omega
    · have := hx3.size
      rcases hF4 k hk with hf | hf
      · exact hF1 k hf
      · exact .inr (by omega)
    · rw [hpl4]
      have := addTo_len (D := pl C') (c := lst[i]) (id := id) x
      have := hb3 x
      omega
  · have hil : i = lst.length := by
      have := of_decide_eq_false hc
      omega
    subst hil
    rw [List.take_length] at hpl
    exact hK w3 F' C' bb' kb' bc' kc' h3 hpl hx3 hF1 hF2
end Go.Proofs.YtamobmjfdiecbaaDoor

/- GrF: boxes are taken out of the grid; the grid's own calls New, Put, Move, Drop, as contracts over lists of numbers and boxes. Conditions: those of each theorem, on its arguments. -/
namespace Go.Proofs.YtamobmjfdiecbaaDoor
open Go Go.Sx Go.Fp
attribute [local irreducible] jn lv ld st nw asI asB asP asS asY asM asF asA asT lp rn ru rq cl dw dr bnd bn2 nz nn hd hr so eqW
attribute [local irreducible] callOk

theorem mem_rowC {x y a b : Int} {n : Nat} : (a, b) ∈ rowC x y n ↔ b = y ∧ x ≤ a ∧ a < x + n := by
  unfold rowC
  simp only [List.mem_map, List.mem_range, Prod.mk.injEq]
  constructor
  · rintro ⟨i, hi, rfl, rfl⟩
    omega
  · rintro ⟨rfl, h1, h2⟩
    exact ⟨(a - x).toNat, by omega, by omega, rfl⟩

theorem mem_rowsC {x y a b : Int} {n t : Nat} : (a, b) ∈ rowsC x y n t ↔ (x ≤ a ∧ a < x + n) ∧ (y ≤ b ∧ b < y + t) := by
  unfold rowsC
  simp only [List.mem_flatMap, List.mem_range, mem_rowC]
  constructor
  · rintro ⟨j, hj, rfl, h1, h2⟩
    omega
  · rintro ⟨h1, h2, h3⟩
    exact ⟨(b - y).toNat, by omega, by omega, h1⟩

theorem cellsE_zero {s : Int} {b : Bx} (h : cellsE s b = 0) : sideOk s = true ∧ b.right = true ∧ (spanOf s b).ok = true ∧ (spanOf s b).wide * (spanOf s b).tall ≤ 1024 := by
  unfold cellsE at h
  split at h
  · rename_i h1
    split at h
    · rename_i h2
      split at h
      · rename_i h3
        split at h
        · cases h
        · exact ⟨h1, h2, h3, by omega⟩
      · cases h
    · cases h
  · cases h

theorem mem_cells {s : Int} {b : Bx} {p : Int × Int} : p ∈ cellsL' s b ↔ cellsE s b = 0 ∧ ((spanOf s b).lx ≤ p.1 ∧ p.1 ≤ (spanOf s b).hx) ∧ ((spanOf s b).ly ≤ p.2 ∧ p.2 ≤ (spanOf s b).hy) := by
  obtain ⟨a, c⟩ := p
  unfold cellsL'
  split
  · rename_i h
    obtain ⟨h1, h2, h3, h4⟩ := cellsE_zero h
    have hs : 1 ≤ s ∧ s ≤ 1099511627776 := by simpa [sideOk] using h1
    have hle := span_le hs.1 h2
    rw [mem_rowsC]
    unfold Span.wide Span.tall
    simp only [h, true_and]
    omega
  · rename_i h
    simp [h]

theorem cells_okc {s : Int} {b : Bx} : ∀ x ∈ cellsL' s b, okc x := by
  intro x hx
  obtain ⟨h, h1, h2⟩ := mem_cells.1 hx
  obtain ⟨_, _, h3, _⟩ := cellsE_zero h
  unfold Span.ok at h3
  rw [Bool.and_eq_true, isCell_iff, isCell_iff] at h3
  unfold okc
  omega

theorem cells_len {s : Int} {b : Bx} : (cellsL' s b).length ≤ 1024 := by
  unfold cellsL'
  split
  · rename_i h
    obtain ⟨h1, h2, _, h4⟩ := cellsE_zero h
    have hs : 1 ≤ s ∧ s ≤ 1099511627776 := by simpa [sideOk] using h1
    have hle := span_le hs.1 h2
    rw [rowsC_length]
    have e1 : 0 ≤ (spanOf s b).tall := by unfold Span.tall; omega
    have e2 : 0 ≤ (spanOf s b).wide := by unfold Span.wide; omega
    have e3 : (((spanOf s b).tall.toNat * (spanOf s b).wide.toNat : Nat) : Int) = (spanOf s b).wide * (spanOf s b).tall := by
      rw [Int.natCast_mul, Int.toNat_of_nonneg e1, Int.toNat_of_nonneg e2, Int.mul_comm]
    omega
  · simp

def dropC (D : List ((Int × Int) × List Int)) (c : Int × Int) (id : Int) : List ((Int × Int) × List Int) :=
  if less ((aget D c).getD []) id = [] then adel (aset D c (less ((aget D c).getD []) id)) c else aset D c (less ((aget D c).getD []) id)
def dropL (D : List ((Int × Int) × List Int)) (l : List (Int × Int)) (id : Int) : List ((Int × Int) × List Int) := l.foldl (fun D c => dropC D c id) D

theorem less_len (ids : List Int) (id : Int) : (less ids id).length ≤ ids.length := List.length_filter_le _ _

/-- one number out of one cell -/
theorem gdrop_cell {w : World} {F : Nat → Prop} {g mb mc r1 : Nat} {s : Int} {B : List (Int × Bx)} {C : List ((Int × Int) × CellV)} {bb : List Nat} {kb : Nat} {bc : List Nat} {kc : Nat}
    (h : Gr w F g mb mc s B C bb kb bc kc) {c : Int × Int} (hc : okc c) {id : Int} (hr1 : w.cell? ⟨r1, 0, none⟩ = some (.int .i64 id)) (hn1 : ¬ F r1) (hlen : ((aget (pl C) c).getD []).length ≤ 1099511627776) {K : World → Prop}
    (hK : ∀ w' C' bc' kc', Gr w' F g mb mc s B C' bb kb bc' kc' → pl C' = dropC (pl C) c id → Ext F w w' → w'.heap.size = w.heap.size → K w') :
    (rq Tryd.prog (Instr.lookup 103 (.map (some mc)) (cv c) false) w fun v39 => asS v39 fun p40 n41 c42 => (cl Tryd.prog 63 #[(.slice p40 n41 c42), (.func (.func 64) #[] #[(.pointer (some (⟨r1, 0, none⟩ : Addr)))])] w fun v43 w44 => asS v43 fun p45 n46 c47 => 
(dr (some ⟨g, 0, none⟩) fun a48 => (ld w44 (Addr.add a48 2) fun v49 => asM v49 fun r50 => (ru Tryd.prog (Instr.mapUpdate 103 (.map r50) (cv c) (.slice p45 n46 c47)) w44 fun w51 => 
(cond ((n46 : Int) == (0 : Int)) (dr (some ⟨g, 0, none⟩) fun a52 => (ld w51 (Addr.add a52 2) fun v53 => asM v53 fun r54 => (rn Tryd.prog (Builtin.delete_ #[103, 107] 0 #[(.map r54), (cv c)]) w51 fun v55 w56 => (K w56)))) (K w51))))))) := by
  obtain ⟨hrow, hfp, hap⟩ := h.getRow c
  have hlk := h.cm.lookup keyC und_mc zero_ints c ⟨hc, h.ok⟩
  have e1 : (Option.map cval (aget C c)).getD (cval nilV) = cval ((aget C c).getD nilV) := by cases aget C c <;> rfl
  rw [e1] at hlk
  rw [pl_get] at hlen
  have hgd : (aget (pl C) c).getD [] = ((aget C c).getD nilV).2.2 := pl_get C c
  generalize (aget C c).getD nilV = v at *
  refine rq_mk hlk (asS_i rfl ?_)
  refine delFunc_k hrow (by omega) hr1 (fun q hq e => hn1 (by have := (hfp q hq).1; rw [e] at this; exact this)) ?_
  intro w1 hr hx1 hz1
  have hpres : ∀ k, k = g ∨ k = mb ∨ k = mc → ¬ blocks v.1 k := by
    rintro k hk ⟨a, ha, rfl⟩
    have := hfp a ha
    omega
  have hX1 : Ext F w w1 := hx1.mono fun k _ ⟨a, ha, hab⟩ => hab ▸ (hfp a ha).1
  have hcm1 : Mp w1 mc cv cval C bc kc := h.cm.ext hx1 (hpres _ (.inr (.inr rfl)))
  have hld : w1.cell? (Addr.add ⟨g, 0, none⟩ 2) = some (.map (some mc)) := by
    rw [add_mk, blk_cell (hx1.blk h.hd (hpres _ (.inl rfl)))]; rfl
  refine asS_i rfl (dr_i (ld_mk hld (asM_i rfl ?_)))
  have hcv : (.slice v.1 (less v.2.2 id).length v.2.1 : Value) = cval (v.1, v.2.1, less v.2.2 id) := rfl
  rw [hcv]
  refine hcm1.update keyC und_mc c ⟨hc, h.ok⟩ (v.1, v.2.1, less v.2.2 id) ?_
  intro w2 bc2 kc2 hcm2 hx2 hz2
  have hX2 : Ext F w w2 := hX1.then hx2 fun k _ hk => by
    have : k = mc := hk
    rw [this]; exact h.fp.2.2.1
  have h2 : Gr w2 F g mb mc s B (aset C c (v.1, v.2.1, less v.2.2 id)) bb kb bc2 kc2 := by
    refine ⟨?_, ?_, hcm2, ?_, nodup_aset h.nd, ?_, ?_, h.ne, ?_, ?_, fun k hk => Nat.lt_of_lt_of_le (h.lt k hk) hX2.size⟩
    · exact hx2.blk (hx1.blk h.hd (hpres _ (.inl rfl))) h.ne.2.1
    · exact (h.bm.ext hx1 (hpres _ (.inr (.inl rfl)))).ext hx2 h.ne.2.2
    · intro x hx
      rcases mem_aset h.nd hx with rfl | ⟨hx, _⟩
      · exact hc
      · exact h.ok x hx
    · intro x hx
      rcases mem_aset h.nd hx with rfl | ⟨hx, hne⟩
      · exact hr.ext hx2 fun a ha e => (hfp a ha).2.2.2 e
      · exact ((h.row x hx).keep hx1 (hap x hx hne)).ext hx2 fun a ha e => (h.rne x hx a ha).2.2 e
    · exact pairwise_aset h.ap h.nd fun x hx hne => ⟨hap x hx hne, (hap x hx hne).symm⟩
    · intro x hx
      rcases mem_aset h.nd hx with rfl | ⟨hx, _⟩
      · exact fun a ha => (hfp a ha).2
      · exact h.rne x hx
    · refine ⟨h.fp.1, h.fp.2.1, h.fp.2.2.1, fun x hx => ?_⟩
      rcases mem_aset h.nd hx with rfl | ⟨hx, _⟩
      · exact fun a ha => (hfp a ha).1
      · exact h.fp.2.2.2 x hx
  have hp2 : pl (aset C c (v.1, v.2.1, less v.2.2 id)) = aset (pl C) c (less v.2.2 id) := map_aset (f := fun v : CellV => v.2.2)
  refine cond_split (fun h0 => ?_) (fun h0 => ?_)
  · have h0' : less v.2.2 id = [] := List.eq_nil_of_length_eq_zero (by
      have h0'' : ((less v.2.2 id).length : Int) = 0 := by simpa using h0
      omega)
    refine dr_i (ld_mk h2.ld2 (asM_i rfl (hcm2.delete keyC und_mc c ⟨hc, h2.ok⟩ ?_)))
    intro w3 bc3 kc3 hcm3 hx3 hz3
    have hX3 : Ext F w w3 := hX2.then hx3 fun k _ hk => by
      have : k = mc := hk
      rw [this]; exact h.fp.2.2.1
    have hsub := adel_sub (aset C c (v.1, v.2.1, less v.2.2 id)) c
    refine hK w3 (adel (aset C c (v.1, v.2.1, less v.2.2 id)) c) bc3 kc3 ⟨?_, ?_, hcm3, fun x hx => h2.ok x (hsub.subset hx), nodup_adel h2.nd, ?_, h2.ap.sublist hsub, h.ne, fun x hx => h2.rne x (hsub.subset hx), ?_, fun k hk => Nat.lt_of_lt_of_le (h.lt k hk) hX3.size⟩ ?_ hX3 (by omega)
    · exact hx3.blk h2.hd h.ne.2.1
    · exact h2.bm.ext hx3 h.ne.2.2
    · exact fun x hx => (h2.row x (hsub.subset hx)).ext hx3 fun a ha e => (h2.rne x (hsub.subset hx) a ha).2.2 e
    · exact ⟨h.fp.1, h.fp.2.1, h.fp.2.2.1, fun x hx => h2.fp.2.2.2 x (hsub.subset hx)⟩
    · unfold dropC
      rw [hgd, if_pos h0', ← hp2]
      exact map_adel (f := fun v : CellV => v.2.2)
  · have h0' : ¬ less v.2.2 id = [] := by
      intro e
      rw [e] at h0
      simp at h0
    refine hK w2 _ _ _ h2 ?_ hX2 (by omega)
    unfold dropC
    rw [hgd, if_neg h0', hp2]

theorem dropC_len {D : List ((Int × Int) × List Int)} (hn : (D.map (·.1)).Nodup) {c : Int × Int} {id : Int} (d : Int × Int) : ((aget (dropC D c id) d).getD []).length ≤ ((aget D d).getD []).length := by
  have hl := less_len ((aget D c).getD []) id
  unfold dropC
  split
  · rw [aget_adel (nodup_aset hn), aget_aset]
    split
    · simp
    · exact Nat.le_refl _
  · rw [aget_aset]
    split
    · rename_i h
      subst h
      exact hl
    · exact Nat.le_refl _

def boxAt (B : List (Int × Bx)) (id : Int) : Bx := (aget B id).getD ⟨0, 0, 0⟩

theorem gdrop_k {w : World} {F : Nat → Prop} {g mb mc : Nat} {s : Int} {B : List (Int × Bx)} {C : List ((Int × Int) × CellV)} {bb : List Nat} {kb : Nat} {bc : List Nat} {kc : Nat}
    (h : Gr w F g mb mc s B C bb kb bc kc) {id : Int} (hlen : ∀ x, ((aget (pl C) x).getD []).length ≤ 1099511627776) {K : Value → World → Prop}
    (hK : ∀ w' C' bb' kb' bc' kc', Gr w' F g mb mc s (adel B id) C' bb' kb' bc' kc' → pl C' = dropL (pl C) (cellsL' s (boxAt B id)) id → Ext F w w' → K (.tuple #[]) w') :
    cl Tryd.prog 54 #[.pointer (some ⟨g, 0, none⟩), .int .i64 id] w K := by
  apply F54_calls
  unfold F54
  have hS := St.start w
  (refine St.nw hS ?_; clear hS; intro r1 _ hS)
  refine St.dw hS ?_
  clear hS
  intro w1 hS _
  have h1 := h.ext hS.ext fun _ _ hf => hf
  have hr1 : ¬ F r1 := fun hf => by
    have := h.lt r1 hf
    have := (hS.kn _ (List.mem_cons_self)).2
    simp only at this
    omega
  refine dr_i (ld_mk h1.ld0 (asI_i rfl (dr_i (ld_mk h1.ld1 (asM_i rfl ?_)))))
  repeat (first | (refine asI_i rfl ?_) | (refine asB_i rfl ?_) | (refine asP_i rfl ?_) | (refine asS_i rfl ?_) | (refine asY_i rfl ?_) | (refine asM_i rfl ?_) | (refine asA_i rfl rfl ?_) | (refine asT_i rfl rfl ?_) | (refine lv_i ?_) | (refine St.nw hS ?_; clear hS; intro _ _ hS) | (refine St.dw hS ?_; clear hS; intro _ hS _) | (refine hS.ld0 0 rfl rfl ?_) | (refine hS.ld 0 rfl rfl ?_) | (refine hS.ld0 1 rfl rfl ?_) | (refine hS.ld 1 rfl rfl ?_) | (refine hS.ld0 2 rfl rfl ?_) | (refine hS.ld 2 rfl rfl ?_) | (refine hS.ld0 3 rfl rfl ?_) | (refine hS.ld 3 rfl rfl ?_) | (refine hS.ld0 4 rfl rfl ?_) | (refine hS.ld 4 rfl rfl ?_) | (refine hS.ld0 5 rfl rfl ?_) | (refine hS.ld 5 rfl rfl ?_) | (refine hS.ld0 6 rfl rfl ?_) | (refine hS.ld 6 rfl rfl ?_) | (refine hS.ld0 7 rfl rfl ?_) | (refine hS.ld 7 rfl rfl ?_) | (refine hS.hd0 0 rfl rfl ?_) | (refine hS.hd 0 rfl rfl ?_) | (refine hS.hd0 1 rfl rfl ?_) | (refine hS.hd 1 rfl rfl ?_) | (refine hS.hd0 2 rfl rfl ?_) | (refine hS.hd 2 rfl rfl ?_) | (refine hS.hd0 3 rfl rfl ?_) | (refine hS.hd 3 rfl rfl ?_) | (refine hS.hd0 4 rfl rfl ?_) | (refine hS.hd 4 rfl rfl ?_) | (refine hS.hd0 5 rfl rfl ?_) | (refine hS.hd 5 rfl rfl ?_) | (refine hS.hd0 6 rfl rfl ?_) | (refine hS.hd 6 rfl rfl ?_) | (refine hS.hd0 7 rfl rfl ?_) | (refine hS.hd 7 rfl rfl ?_) | (refine hS.st0 0 rfl rfl rfl ?_; clear hS; intro _ hS) | (refine hS.st 0 rfl rfl rfl ?_; clear hS; intro _ hS) | (refine hS.st0 1 rfl rfl rfl ?_; clear hS; intro _ hS) | (refine hS.st 1 rfl rfl rfl ?_; clear hS; intro _ hS) | (refine hS.st0 2 rfl rfl rfl ?_; clear hS; intro _ hS) | (refine hS.st 2 rfl rfl rfl ?_; clear hS; intro _ hS) | (refine hS.st0 3 rfl rfl rfl ?_; clear hS; intro _ hS) | (refine hS.st 3 rfl rfl rfl ?_; clear hS; intro _ hS) | (refine hS.st0 4 rfl rfl rfl ?_; clear hS; intro _ hS) | (refine hS.st 4 rfl rfl rfl ?_; clear hS; intro _ hS) | (refine hS.st0 5 rfl rfl rfl ?_; clear hS; intro _ hS) | (refine hS.st 5 rfl rfl rfl ?_; clear hS; intro _ hS) | (refine hS.st0 6 rfl rfl rfl ?_; clear hS; intro _ hS) | (refine hS.st 6 rfl rfl rfl ?_; clear hS; intro _ hS) | (refine hS.st0 7 rfl rfl rfl ?_; clear hS; intro _ hS) | (refine hS.st 7 rfl rfl rfl ?_; clear hS; intro _ hS) | (refine bnd_mk (by decide) (by decide) ?_) | (refine so_i rfl ?_))
  have hlk := h1.bm.lookup keyI und_mb zero_box id ⟨trivial, fun _ _ => trivial⟩
  have e1 : (Option.map Bx.v (aget B id)).getD (Bx.v ⟨0, 0, 0⟩) = (boxAt B id).v := by unfold boxAt; cases aget B id <;> rfl
  rw [e1] at hlk
  refine rq_mk hlk (asA_i (l := (boxAt B id).cells) rfl rfl (asI_i rfl (asI_i rfl (asI_i rfl ?_))))
  show cl Tryd.prog 46 #[.int .i64 s, (boxAt B id).v] w1 _
  refine cells_k ?_
  intro p c w2 hx2 hrow2
  have h2 := h1.ext hx2 fun _ _ hf => hf
  have hS2 := hS.to hx2
  refine asT_i rfl rfl (asS_i rfl (asI_i rfl (hS2.hd0 0 rfl rfl (hd_i h2.ld1 (lv_i ?_)))))
  have hX2 : Ext F w w2 := Ext.of_no hS2.ext
  generalize hlst : cellsL' s (boxAt B id) = lst at *
  have hok : ∀ x ∈ lst, okc x := by rw [← hlst]; exact cells_okc
  have hll : lst.length ≤ 1024 := by rw [← hlst]; exact cells_len
  have hpF : ∀ a, p = some a → ¬ F a.block := fun a ha hf => by
    have := h1.lt _ hf
    have := (hrow2.at ha).1
    omega
  have hcell2 : w2.cell? ⟨r1, 0, none⟩ = some (.int .i64 id) := hS2.cell 0 rfl rfl
  refine lp_mk (fun i : Nat => [.int .i64 (i : Int)])
    (fun m i w' => m = lst.length - i ∧ i ≤ lst.length ∧ Ext F w2 w' ∧ ∃ C' bc' kc', Gr w' F g mb mc s B C' bb kb bc' kc' ∧ pl C' = dropL (pl C) (lst.take i) id ∧ (∀ x, ((aget (pl C') x).getD []).length ≤ 1099511627776)) lst.length 0 rfl
    ⟨rfl, Nat.zero_le _, Ext.refl _ _, C, bc, kc, h2, rfl, hlen⟩ ?_
  rintro _ i w3 ⟨rfl, hi, hx3, C', bc', kc', h3, hpl, hb3⟩ J hJ
  refine asI_i rfl (cond_split (fun hc => ?_) (fun hc => ?_))
  · have hil : i < lst.length := by
      have := of_decide_eq_true hc
      omega
    refine jn_of (fun s' w' => Ext F w2 w' ∧ ∃ C' bc' kc', Gr w' F g mb mc s B C' bb kb bc' kc' ∧ pl C' = dropL (pl C) (lst.take (i + 1)) id ∧ (∀ x, ((aget (pl C') x).getD []).length ≤ 1099511627776)) ?_ ?_
    · rintro _ w4 ⟨hx4, C4, bc4, kc4, h4, hpl4, hb4⟩
      have ei : IntKind.wrap .i64 ((i : Int) + 1) = ((i + 1 : Nat) : Int) := by rw [wr64 (by omega) (by omega)]; omega
      rw [ei]
      exact hJ (lst.length - (i + 1)) (i + 1) w4 (by omega) ⟨rfl, hil, hx4, C4, bc4, kc4, h4, hpl4, hb4⟩
    · intro J2 hJ2
      have hr3 : Reads w3 p (lst.map cv) := hrow2.reads.ext hx3 hpF
      refine hr3.at (i := (i : Int)) (by omega) (v := cv lst[i]) (by simp [hil]) ?_ (by simp)
      refine asC_i rfl (dr_i (ld_mk h3.ld2 (asM_i rfl ?_)))
      have hcell3 : w3.cell? ⟨r1, 0, none⟩ = some (.int .i64 id) := hx3.cell hcell2 hr1
      refine gdrop_cell h3 (hok lst[i] (List.getElem_mem hil)) hcell3 hr1 (hb3 _) ?_
      intro w4 C4 bc4 kc4 h4 hpl4 hx4 hz4
      refine hJ2 _ _ ⟨hx3.trans hx4, C4, bc4, kc4, h4, ?_, fun x => ?_⟩
      · rw [hpl4, hpl, List.take_add_one, List.getElem?_eq_getElem hil]
        unfold dropL
        rw [List.foldl_append]
        rfl
      · rw [hpl4]
        have hnd : ((pl C').map (·.1)).Nodup := by
          have := h3.nd
          unfold pl
          simpa [List.map_map, Function.comp_def] using this
        exact Nat.le_trans (dropC_len hnd x) (hb3 x)
  · have hil : i = lst.length := by
      have := of_decide_eq_false hc
      omega
    subst hil
    rw [List.take_length] at hpl
    refine dw_mk ?_
    have h4 := h3.ext (Ext.drew w3) fun _ _ hf => hf
    have hcell4 : w3.drew.cell? ⟨r1, 0, none⟩ = some (.int .i64 id) := hx3.cell hcell2 hr1
    refine dr_i (ld_mk h4.ld1 (asM_i rfl (ld_mk hcell4 (asI_i rfl ?_))))
    refine h4.bm.delete keyI und_mb id ⟨trivial, fun _ _ => trivial⟩ ?_
    intro w5 bb5 kb5 hbm5 hx5 hz5
    refine hK w5 C' bb5 kb5 bc' kc' ⟨hx5.blk h4.hd h.ne.1, hbm5, h4.cm.ext hx5 (fun e => h.ne.2.2 e.symm), h4.ok, h4.nd, fun x hx => (h4.row x hx).ext hx5 fun a ha e => (h4.rne x hx a ha).2.1 e, h4.ap, h4.ne, h4.rne, h4.fp, fun k hk => Nat.lt_of_lt_of_le (h4.lt k hk) hx5.size⟩ hpl ?_
    refine ((hX2.trans hx3).trans (Ext.of_no (Ext.drew w3))).then hx5 fun k _ hk => ?_
    have : k = mb := hk
    rw [this]; exact h.fp.2.1
end Go.Proofs.YtamobmjfdiecbaaDoor

/- GrG: the grid's own calls New, Put, Move, Drop, Count, as contracts over lists of numbers and boxes. Conditions: those of each theorem, on its arguments. -/
namespace Go.Proofs.YtamobmjfdiecbaaDoor
open Go Go.Sx Go.Fp
attribute [local irreducible] jn lv ld st nw asI asB asP asS asY asM asF asA asT lp rn ru rq cl dw dr bnd bn2 nz nn hd hr so eqW
attribute [local irreducible] callOk

theorem gnew_k {s : Int} {w : World} {K : Value → World → Prop} (hbad : sideOk s = false → K (.tuple #[.pointer none, .int .i64 1]) w)
    (hK : ∀ w' F g mb mc, sideOk s = true → Gr w' F g mb mc s [] [] [] 0 [] 0 → Ext no w w' → (∀ k, F k → w.heap.size ≤ k) → K (.tuple #[.pointer (some ⟨g, 0, none⟩), .int .i64 0]) w') :
    cl Tryd.prog 36 #[.int .i64 s] w K := by
  apply F36_calls
  unfold F36
  refine lv_i (side_k (asB_i rfl (cond_split (fun h => lv_i (hbad (by simpa using h))) (fun h => ?_))))
  refine make_map (α := Int) (β := Bx) (enc := ki) (val := Bx.v) und_mb ?_
  intro w1 hb1 hx1 hz1
  refine asM_i rfl (make_map (α := Int × Int) (β := CellV) (enc := cv) (val := cval) und_mc ?_)
  intro w2 hc2 hx2 hz2
  refine asM_i rfl (nw_mk (lv_i ?_))
  have hx3 := Ext.alloc w2 (.cells #[.int .i64 s, .map (some w.heap.size), .map (some w1.heap.size)] 105)
  have hX : Ext no w (w2.alloc (.cells #[.int .i64 s, .map (some w.heap.size), .map (some w1.heap.size)] 105)) := (hx1.trans hx2).trans hx3
  have hsz := new_size w2 (.cells #[.int .i64 s, .map (some w.heap.size), .map (some w1.heap.size)] 105)
  refine hK _ (fun k => k = w2.heap.size ∨ k = w.heap.size ∨ k = w1.heap.size) w2.heap.size w.heap.size w1.heap.size (by simpa using h) ⟨new_blk w2 _, (hb1.ext hx2 fun h => h).ext hx3 fun h => h, hc2.ext hx3 fun h => h, by simp, by simp, by simp, List.Pairwise.nil, ⟨by omega, by omega, by omega⟩, by simp, ⟨.inl rfl, .inr (.inl rfl), .inr (.inr rfl), by simp⟩, ?_⟩ hX ?_
  · rintro k (rfl | rfl | rfl) <;> omega
  · rintro k (rfl | rfl | rfl) <;> omega

def gputE (s : Int) (B : List (Int × Bx)) (id : Int) (b : Bx) : Int := if id < 0 then 1 else if (aget B id).isSome = true then 180 else cellsE s b
def gputB (s : Int) (B : List (Int × Bx)) (id : Int) (b : Bx) : List (Int × Bx) := if gputE s B id b = 0 then aset B id b else B
def gputD (s : Int) (B : List (Int × Bx)) (D : List ((Int × Int) × List Int)) (id : Int) (b : Bx) : List ((Int × Int) × List Int) := if gputE s B id b = 0 then putL D (cellsL' s b) id else D

theorem gPut_k {w : World} {F : Nat → Prop} {g mb mc : Nat} {s : Int} {B : List (Int × Bx)} {C : List ((Int × Int) × CellV)} {bb : List Nat} {kb : Nat} {bc : List Nat} {kc : Nat}
    (h : Gr w F g mb mc s B C bb kb bc kc) {id : Int} {b : Bx} (hlen : ∀ x, ((aget (pl C) x).getD []).length + 1024 ≤ 1099511627776) {K : Value → World → Prop}
    (hK : ∀ w' F' C' bb' kb' bc' kc', Gr w' F' g mb mc s (gputB s B id b) C' bb' kb' bc' kc' → pl C' = gputD s B (pl C) id b → Ext F w w' → (∀ k, F' k → F k ∨ w.heap.size ≤ k) → (∀ k, F k → F' k) → K (.int .i64 (gputE s B id b)) w') :
    cl Tryd.prog 35 #[.pointer (some ⟨g, 0, none⟩), .int .i64 id, b.v] w K := by
  have bad : gputE s B id b ≠ 0 → ∀ e, gputE s B id b = e → ∀ w', Ext no w w' → K (.int .i64 e) w' := by
    intro h0 e he w' hx
    have := hK w' F C bb kb bc kc (by unfold gputB; rw [if_neg h0]; exact h.ext hx fun _ _ hf => hf) (by unfold gputD; rw [if_neg h0]) (Ext.of_no hx) (fun k hk => .inl hk) (fun k hk => hk)
    rw [he] at this
    exact this
  apply F35_calls
  unfold F35
  have hS := St.start w
  (refine St.nw hS ?_; clear hS; intro r1 _ hS)
  refine lv_i (cond_split (fun h0 => ?_) (fun h0 => ?_))
  · have e : gputE s B id b = 1 := by unfold gputE; rw [if_pos (of_decide_eq_true h0)]
    exact lv_i (bad (by rw [e]; decide) 1 e _ hS.ext)
  have hid : ¬ id < 0 := of_decide_eq_false h0
  have h1 := h.ext hS.ext fun _ _ hf => hf
  refine dr_i (ld_mk h1.ld1 (asM_i rfl ?_))
  have hlk := h1.bm.lookup_ok keyI und_mb zero_box id ⟨trivial, fun _ _ => trivial⟩
  have e1 : (Option.map Bx.v (aget B id)).getD (Bx.v ⟨0, 0, 0⟩) = (boxAt B id).v := by unfold boxAt; cases aget B id <;> rfl
  rw [e1] at hlk
  refine rq_mk hlk (asT_i (l := [(boxAt B id).v, .bool (aget B id).isSome]) rfl rfl (asA_i (l := (boxAt B id).cells) rfl rfl ?_))
  repeat (first | (refine asI_i rfl ?_) | (refine asB_i rfl ?_) | (refine asP_i rfl ?_) | (refine asS_i rfl ?_) | (refine asY_i rfl ?_) | (refine asM_i rfl ?_) | (refine asA_i rfl rfl ?_) | (refine asT_i rfl rfl ?_) | (refine lv_i ?_) | (refine St.nw hS ?_; clear hS; intro _ _ hS) | (refine St.dw hS ?_; clear hS; intro _ hS _) | (refine hS.ld0 0 rfl rfl ?_) | (refine hS.ld 0 rfl rfl ?_) | (refine hS.ld0 1 rfl rfl ?_) | (refine hS.ld 1 rfl rfl ?_) | (refine hS.ld0 2 rfl rfl ?_) | (refine hS.ld 2 rfl rfl ?_) | (refine hS.ld0 3 rfl rfl ?_) | (refine hS.ld 3 rfl rfl ?_) | (refine hS.ld0 4 rfl rfl ?_) | (refine hS.ld 4 rfl rfl ?_) | (refine hS.ld0 5 rfl rfl ?_) | (refine hS.ld 5 rfl rfl ?_) | (refine hS.ld0 6 rfl rfl ?_) | (refine hS.ld 6 rfl rfl ?_) | (refine hS.ld0 7 rfl rfl ?_) | (refine hS.ld 7 rfl rfl ?_) | (refine hS.hd0 0 rfl rfl ?_) | (refine hS.hd 0 rfl rfl ?_) | (refine hS.hd0 1 rfl rfl ?_) | (refine hS.hd 1 rfl rfl ?_) | (refine hS.hd0 2 rfl rfl ?_) | (refine hS.hd 2 rfl rfl ?_) | (refine hS.hd0 3 rfl rfl ?_) | (refine hS.hd 3 rfl rfl ?_) | (refine hS.hd0 4 rfl rfl ?_) | (refine hS.hd 4 rfl rfl ?_) | (refine hS.hd0 5 rfl rfl ?_) | (refine hS.hd 5 rfl rfl ?_) | (refine hS.hd0 6 rfl rfl ?_) | (refine hS.hd 6 rfl rfl ?_) | (refine hS.hd0 7 rfl rfl ?_) | (refine hS.hd 7 rfl rfl ?_) | (refine hS.st0 0 rfl rfl rfl ?_; clear hS; intro _ hS) | (refine hS.st 0 rfl rfl rfl ?_; clear hS; intro _ hS) | (refine hS.st0 1 rfl rfl rfl ?_; clear hS; intro _ hS) | (refine hS.st 1 rfl rfl rfl ?_; clear hS; intro _ hS) | (refine hS.st0 2 rfl rfl rfl ?_; clear hS; intro _ hS) | (refine hS.st 2 rfl rfl rfl ?_; clear hS; intro _ hS) | (refine hS.st0 3 rfl rfl rfl ?_; clear hS; intro _ hS) | (refine hS.st 3 rfl rfl rfl ?_; clear hS; intro _ hS) | (refine hS.st0 4 rfl rfl rfl ?_; clear hS; intro _ hS) | (refine hS.st 4 rfl rfl rfl ?_; clear hS; intro _ hS) | (refine hS.st0 5 rfl rfl rfl ?_; clear hS; intro _ hS) | (refine hS.st 5 rfl rfl rfl ?_; clear hS; intro _ hS) | (refine hS.st0 6 rfl rfl rfl ?_; clear hS; intro _ hS) | (refine hS.st 6 rfl rfl rfl ?_; clear hS; intro _ hS) | (refine hS.st0 7 rfl rfl rfl ?_; clear hS; intro _ hS) | (refine hS.st 7 rfl rfl rfl ?_; clear hS; intro _ hS) | (refine bnd_mk (by decide) (by decide) ?_) | (refine so_i rfl ?_))
  refine cond_split (fun hs => ?_) (fun hs => ?_)
  · have e : gputE s B id b = 180 := by unfold gputE; rw [if_neg hid, if_pos hs]
    exact lv_i (bad (by rw [e]; decide) 180 e _ hS.ext)
  have hE : gputE s B id b = cellsE s b := by
    unfold gputE
    rw [if_neg hid, if_neg (by rw [hs]; decide)]
  refine St.dw hS ?_
  clear hS h1 hlk
  intro w2 hS _
  have h2 := h.ext hS.ext fun _ _ hf => hf
  refine dr_i (ld_mk h2.ld0 (asI_i rfl ?_))
  repeat (first | (refine asI_i rfl ?_) | (refine asB_i rfl ?_) | (refine asP_i rfl ?_) | (refine asS_i rfl ?_) | (refine asY_i rfl ?_) | (refine asM_i rfl ?_) | (refine asA_i rfl rfl ?_) | (refine asT_i rfl rfl ?_) | (refine lv_i ?_) | (refine St.nw hS ?_; clear hS; intro _ _ hS) | (refine St.dw hS ?_; clear hS; intro _ hS _) | (refine hS.ld0 0 rfl rfl ?_) | (refine hS.ld 0 rfl rfl ?_) | (refine hS.ld0 1 rfl rfl ?_) | (refine hS.ld 1 rfl rfl ?_) | (refine hS.ld0 2 rfl rfl ?_) | (refine hS.ld 2 rfl rfl ?_) | (refine hS.ld0 3 rfl rfl ?_) | (refine hS.ld 3 rfl rfl ?_) | (refine hS.ld0 4 rfl rfl ?_) | (refine hS.ld 4 rfl rfl ?_) | (refine hS.ld0 5 rfl rfl ?_) | (refine hS.ld 5 rfl rfl ?_) | (refine hS.ld0 6 rfl rfl ?_) | (refine hS.ld 6 rfl rfl ?_) | (refine hS.ld0 7 rfl rfl ?_) | (refine hS.ld 7 rfl rfl ?_) | (refine hS.hd0 0 rfl rfl ?_) | (refine hS.hd 0 rfl rfl ?_) | (refine hS.hd0 1 rfl rfl ?_) | (refine hS.hd 1 rfl rfl ?_) | (refine hS.hd0 2 rfl rfl ?_) | (refine hS.hd 2 rfl rfl ?_) | (refine hS.hd0 3 rfl rfl ?_) | (refine hS.hd 3 rfl rfl ?_) | (refine hS.hd0 4 rfl rfl ?_) | (refine hS.hd 4 rfl rfl ?_) | (refine hS.hd0 5 rfl rfl ?_) | (refine hS.hd 5 rfl rfl ?_) | (refine hS.hd0 6 rfl rfl ?_) | (refine hS.hd 6 rfl rfl ?_) | (refine hS.hd0 7 rfl rfl ?_) | (refine hS.hd 7 rfl rfl ?_) | (refine hS.st0 0 rfl rfl rfl ?_; clear hS; intro _ hS) | (refine hS.st 0 rfl rfl rfl ?_; clear hS; intro _ hS) | (refine hS.st0 1 rfl rfl rfl ?_; clear hS; intro _ hS) | (refine hS.st 1 rfl rfl rfl ?_; clear hS; intro _ hS) | (refine hS.st0 2 rfl rfl rfl ?_; clear hS; intro _ hS) | (refine hS.st 2 rfl rfl rfl ?_; clear hS; intro _ hS) | (refine hS.st0 3 rfl rfl rfl ?_; clear hS; intro _ hS) | (refine hS.st 3 rfl rfl rfl ?_; clear hS; intro _ hS) | (refine hS.st0 4 rfl rfl rfl ?_; clear hS; intro _ hS) | (refine hS.st 4 rfl rfl rfl ?_; clear hS; intro _ hS) | (refine hS.st0 5 rfl rfl rfl ?_; clear hS; intro _ hS) | (refine hS.st 5 rfl rfl rfl ?_; clear hS; intro _ hS) | (refine hS.st0 6 rfl rfl rfl ?_; clear hS; intro _ hS) | (refine hS.st 6 rfl rfl rfl ?_; clear hS; intro _ hS) | (refine hS.st0 7 rfl rfl rfl ?_; clear hS; intro _ hS) | (refine hS.st 7 rfl rfl rfl ?_; clear hS; intro _ hS) | (refine bnd_mk (by decide) (by decide) ?_) | (refine so_i rfl ?_))
  show cl Tryd.prog 46 #[.int .i64 s, b.v] w2 _
  refine cells_k ?_
  intro p c w3 hx3 hrow3
  have hS3 := hS.to hx3
  have h3 := h2.ext hx3 fun _ _ hf => hf
  refine asT_i rfl rfl (asS_i rfl (asI_i rfl (lv_i (cond_split (fun h0 => ?_) (fun h0 => ?_)))))
  · have hne : cellsE s b ≠ 0 := by simpa using h0
    exact lv_i (bad (by rw [hE]; exact hne) _ hE _ hS3.ext)
  · have h00 : cellsE s b = 0 := by simpa using h0
    clear hS
    have hS := hS3
    repeat (first | (refine asI_i rfl ?_) | (refine asB_i rfl ?_) | (refine asP_i rfl ?_) | (refine asS_i rfl ?_) | (refine asY_i rfl ?_) | (refine asM_i rfl ?_) | (refine asA_i rfl rfl ?_) | (refine asT_i rfl rfl ?_) | (refine lv_i ?_) | (refine St.nw hS ?_; clear hS; intro _ _ hS) | (refine St.dw hS ?_; clear hS; intro _ hS _) | (refine hS.ld0 0 rfl rfl ?_) | (refine hS.ld 0 rfl rfl ?_) | (refine hS.ld0 1 rfl rfl ?_) | (refine hS.ld 1 rfl rfl ?_) | (refine hS.ld0 2 rfl rfl ?_) | (refine hS.ld 2 rfl rfl ?_) | (refine hS.ld0 3 rfl rfl ?_) | (refine hS.ld 3 rfl rfl ?_) | (refine hS.ld0 4 rfl rfl ?_) | (refine hS.ld 4 rfl rfl ?_) | (refine hS.ld0 5 rfl rfl ?_) | (refine hS.ld 5 rfl rfl ?_) | (refine hS.ld0 6 rfl rfl ?_) | (refine hS.ld 6 rfl rfl ?_) | (refine hS.ld0 7 rfl rfl ?_) | (refine hS.ld 7 rfl rfl ?_) | (refine hS.hd0 0 rfl rfl ?_) | (refine hS.hd 0 rfl rfl ?_) | (refine hS.hd0 1 rfl rfl ?_) | (refine hS.hd 1 rfl rfl ?_) | (refine hS.hd0 2 rfl rfl ?_) | (refine hS.hd 2 rfl rfl ?_) | (refine hS.hd0 3 rfl rfl ?_) | (refine hS.hd 3 rfl rfl ?_) | (refine hS.hd0 4 rfl rfl ?_) | (refine hS.hd 4 rfl rfl ?_) | (refine hS.hd0 5 rfl rfl ?_) | (refine hS.hd 5 rfl rfl ?_) | (refine hS.hd0 6 rfl rfl ?_) | (refine hS.hd 6 rfl rfl ?_) | (refine hS.hd0 7 rfl rfl ?_) | (refine hS.hd 7 rfl rfl ?_) | (refine hS.st0 0 rfl rfl rfl ?_; clear hS; intro _ hS) | (refine hS.st 0 rfl rfl rfl ?_; clear hS; intro _ hS) | (refine hS.st0 1 rfl rfl rfl ?_; clear hS; intro _ hS) | (refine hS.st 1 rfl rfl rfl ?_; clear hS; intro _ hS) | (refine hS.st0 2 rfl rfl rfl ?_; clear hS; intro _ hS) | (refine hS.st 2 rfl rfl rfl ?_; clear hS; intro _ hS) | (refine hS.st0 3 rfl rfl rfl ?_; clear hS; intro _ hS) | (refine hS.st 3 rfl rfl rfl ?_; clear hS; intro _ hS) | (refine hS.st0 4 rfl rfl rfl ?_; clear hS; intro _ hS) | (refine hS.st 4 rfl rfl rfl ?_; clear hS; intro _ hS) | (refine hS.st0 5 rfl rfl rfl ?_; clear hS; intro _ hS) | (refine hS.st 5 rfl rfl rfl ?_; clear hS; intro _ hS) | (refine hS.st0 6 rfl rfl rfl ?_; clear hS; intro _ hS) | (refine hS.st 6 rfl rfl rfl ?_; clear hS; intro _ hS) | (refine hS.st0 7 rfl rfl rfl ?_; clear hS; intro _ hS) | (refine hS.st 7 rfl rfl rfl ?_; clear hS; intro _ hS) | (refine bnd_mk (by decide) (by decide) ?_) | (refine so_i rfl ?_))
    show cl Tryd.prog 50 #[.pointer (some ⟨g, 0, none⟩), .int .i64 id, b.v, .slice p (cellsL' s b).length c] w3 _
    have hl := @cells_len s b
    refine gput_k h3 hrow3.reads rfl (by omega) cells_okc (fun a ha hf => ?_) (fun x => ?_) ?_
    · have := h2.lt _ hf
      have := (hrow3.at ha).1
      omega
    · have := hlen x
      omega
    intro w4 F' C' bb' kb' bc' kc' h4 hpl hx4 hF1 hF2
    have hE0 : gputE s B id b = 0 := by rw [hE, h00]
    have := hK w4 F' C' bb' kb' bc' kc' (by unfold gputB; rw [if_pos hE0]; exact h4) (by unfold gputD; rw [if_pos hE0]; exact hpl) ((Ext.of_no hS.ext).trans hx4) (fun k hk => by
      have := hS.ext.size
      rcases hF1 k hk with h | h
      · exact .inl h
      · exact .inr (by omega)) hF2
    rw [hE0] at this
    exact lv_i this

def gmoveE (s : Int) (B : List (Int × Bx)) (id : Int) (b : Bx) : Int := if (aget B id).isSome = true then cellsE s b else 181
def gmoveB (s : Int) (B : List (Int × Bx)) (id : Int) (b : Bx) : List (Int × Bx) := if gmoveE s B id b = 0 then aset (adel B id) id b else B
def gmoveD (s : Int) (B : List (Int × Bx)) (D : List ((Int × Int) × List Int)) (id : Int) (b : Bx) : List ((Int × Int) × List Int) :=
  if gmoveE s B id b = 0 then putL (dropL D (cellsL' s (boxAt B id)) id) (cellsL' s b) id else D

theorem pl_nd {C : List ((Int × Int) × CellV)} (h : (C.map (·.1)).Nodup) : ((pl C).map (·.1)).Nodup := by
  unfold pl
  simpa [List.map_map, Function.comp_def] using h

theorem dropC_nd {D : List ((Int × Int) × List Int)} (hn : (D.map (·.1)).Nodup) {c : Int × Int} {id : Int} : ((dropC D c id).map (·.1)).Nodup := by
  unfold dropC
  split
  · exact nodup_adel (nodup_aset hn)
  · exact nodup_aset hn

theorem dropL_len {l : List (Int × Int)} {id : Int} : ∀ {D : List ((Int × Int) × List Int)}, (D.map (·.1)).Nodup → ∀ x, ((aget (dropL D l id) x).getD []).length ≤ ((aget D x).getD []).length := by
  induction l with
  | nil => intro D _ x; exact Nat.le_refl _
  | cons c l ih =>
    intro D hn x
    exact Nat.le_trans (ih (dropC_nd hn) x) (dropC_len hn x)

theorem gMove_k {w : World} {F : Nat → Prop} {g mb mc : Nat} {s : Int} {B : List (Int × Bx)} {C : List ((Int × Int) × CellV)} {bb : List Nat} {kb : Nat} {bc : List Nat} {kc : Nat}
    (h : Gr w F g mb mc s B C bb kb bc kc) {id : Int} {b : Bx} (hlen : ∀ x, ((aget (pl C) x).getD []).length + 1024 ≤ 1099511627776) {K : Value → World → Prop}
    (hK : ∀ w' F' C' bb' kb' bc' kc', Gr w' F' g mb mc s (gmoveB s B id b) C' bb' kb' bc' kc' → pl C' = gmoveD s B (pl C) id b → Ext F w w' → (∀ k, F' k → F k ∨ w.heap.size ≤ k) → (∀ k, F k → F' k) → K (.int .i64 (gmoveE s B id b)) w') :
    cl Tryd.prog 41 #[.pointer (some ⟨g, 0, none⟩), .int .i64 id, b.v] w K := by
  have bad : gmoveE s B id b ≠ 0 → ∀ e, gmoveE s B id b = e → ∀ w', Ext no w w' → K (.int .i64 e) w' := by
    intro h0 e he w' hx
    have := hK w' F C bb kb bc kc (by unfold gmoveB; rw [if_neg h0]; exact h.ext hx fun _ _ hf => hf) (by unfold gmoveD; rw [if_neg h0]) (Ext.of_no hx) (fun k hk => .inl hk) (fun k hk => hk)
    rw [he] at this
    exact this
  apply F41_calls
  unfold F41
  have hS := St.start w
  (refine St.nw hS ?_; clear hS; intro r1 _ hS)
  have h1 := h.ext hS.ext fun _ _ hf => hf
  refine lv_i (dr_i (ld_mk h1.ld1 (asM_i rfl ?_)))
  have hlk := h1.bm.lookup_ok keyI und_mb zero_box id ⟨trivial, fun _ _ => trivial⟩
  have e1 : (Option.map Bx.v (aget B id)).getD (Bx.v ⟨0, 0, 0⟩) = (boxAt B id).v := by unfold boxAt; cases aget B id <;> rfl
  rw [e1] at hlk
  refine rq_mk hlk (asT_i (l := [(boxAt B id).v, .bool (aget B id).isSome]) rfl rfl (asA_i (l := (boxAt B id).cells) rfl rfl ?_))
  repeat (first | (refine asI_i rfl ?_) | (refine asB_i rfl ?_) | (refine asP_i rfl ?_) | (refine asS_i rfl ?_) | (refine asY_i rfl ?_) | (refine asM_i rfl ?_) | (refine asA_i rfl rfl ?_) | (refine asT_i rfl rfl ?_) | (refine lv_i ?_) | (refine St.nw hS ?_; clear hS; intro _ _ hS) | (refine St.dw hS ?_; clear hS; intro _ hS _) | (refine hS.ld0 0 rfl rfl ?_) | (refine hS.ld 0 rfl rfl ?_) | (refine hS.ld0 1 rfl rfl ?_) | (refine hS.ld 1 rfl rfl ?_) | (refine hS.ld0 2 rfl rfl ?_) | (refine hS.ld 2 rfl rfl ?_) | (refine hS.ld0 3 rfl rfl ?_) | (refine hS.ld 3 rfl rfl ?_) | (refine hS.ld0 4 rfl rfl ?_) | (refine hS.ld 4 rfl rfl ?_) | (refine hS.ld0 5 rfl rfl ?_) | (refine hS.ld 5 rfl rfl ?_) | (refine hS.ld0 6 rfl rfl ?_) | (refine hS.ld 6 rfl rfl ?_) | (refine hS.ld0 7 rfl rfl ?_) | (refine hS.ld 7 rfl rfl ?_) | (refine hS.hd0 0 rfl rfl ?_) | (refine hS.hd 0 rfl rfl ?_) | (refine hS.hd0 1 rfl rfl ?_) | (refine hS.hd 1 rfl rfl ?_) | (refine hS.hd0 2 rfl rfl ?_) | (refine hS.hd 2 rfl rfl ?_) | (refine hS.hd0 3 rfl rfl ?_) | (refine hS.hd 3 rfl rfl ?_) | (refine hS.hd0 4 rfl rfl ?_) | (refine hS.hd 4 rfl rfl ?_) | (refine hS.hd0 5 rfl rfl ?_) | (refine hS.hd 5 rfl rfl ?_) | (refine hS.hd0 6 rfl rfl ?_) | (refine hS.hd 6 rfl rfl ?_) | (refine hS.hd0 7 rfl rfl ?_) | (refine hS.hd 7 rfl rfl ?_) | (refine hS.st0 0 rfl rfl rfl ?_; clear hS; intro _ hS) | (refine hS.st 0 rfl rfl rfl ?_; clear hS; intro _ hS) | (refine hS.st0 1 rfl rfl rfl ?_; clear hS; intro _ hS) | (refine hS.st 1 rfl rfl rfl ?_; clear hS; intro _ hS) | (refine hS.st0 2 rfl rfl rfl ?_; clear hS; intro _ hS) | (refine hS.st 2 rfl rfl rfl ?_; clear hS; intro _ hS) | (refine hS.st0 3 rfl rfl rfl ?_; clear hS; intro _ hS) | (refine hS.st 3 rfl rfl rfl ?_; clear hS; intro _ hS) | (refine hS.st0 4 rfl rfl rfl ?_; clear hS; intro _ hS) | (refine hS.st 4 rfl rfl rfl ?_; clear hS; intro _ hS) | (refine hS.st0 5 rfl rfl rfl ?_; clear hS; intro _ hS) | (refine hS.st 5 rfl rfl rfl ?_; clear hS; intro _ hS) | (refine hS.st0 6 rfl rfl rfl ?_; clear hS; intro _ hS) | (refine hS.st 6 rfl rfl rfl ?_; clear hS; intro _ hS) | (refine hS.st0 7 rfl rfl rfl ?_; clear hS; intro _ hS) | (refine hS.st 7 rfl rfl rfl ?_; clear hS; intro _ hS) | (refine bnd_mk (by decide) (by decide) ?_) | (refine so_i rfl ?_))
  refine cond_split (fun hs => ?_) (fun hs => ?_)
  · have hs' : ¬ (aget B id).isSome = true := by simpa using hs
    have e : gmoveE s B id b = 181 := by unfold gmoveE; rw [if_neg hs']
    exact lv_i (bad (by rw [e]; decide) 181 e _ hS.ext)
  have hs' : (aget B id).isSome = true := by simpa using hs
  have hE : gmoveE s B id b = cellsE s b := by unfold gmoveE; rw [if_pos hs']
  refine St.dw hS ?_
  clear hS h1 hlk
  intro w2 hS _
  have h2 := h.ext hS.ext fun _ _ hf => hf
  refine dr_i (ld_mk h2.ld0 (asI_i rfl ?_))
  repeat (first | (refine asI_i rfl ?_) | (refine asB_i rfl ?_) | (refine asP_i rfl ?_) | (refine asS_i rfl ?_) | (refine asY_i rfl ?_) | (refine asM_i rfl ?_) | (refine asA_i rfl rfl ?_) | (refine asT_i rfl rfl ?_) | (refine lv_i ?_) | (refine St.nw hS ?_; clear hS; intro _ _ hS) | (refine St.dw hS ?_; clear hS; intro _ hS _) | (refine hS.ld0 0 rfl rfl ?_) | (refine hS.ld 0 rfl rfl ?_) | (refine hS.ld0 1 rfl rfl ?_) | (refine hS.ld 1 rfl rfl ?_) | (refine hS.ld0 2 rfl rfl ?_) | (refine hS.ld 2 rfl rfl ?_) | (refine hS.ld0 3 rfl rfl ?_) | (refine hS.ld 3 rfl rfl ?_) | (refine hS.ld0 4 rfl rfl ?_) | (refine hS.ld 4 rfl rfl ?_) | (refine hS.ld0 5 rfl rfl ?_) | (refine hS.ld 5 rfl rfl ?_) | (refine hS.ld0 6 rfl rfl ?_) | (refine hS.ld 6 rfl rfl ?_) | (refine hS.ld0 7 rfl rfl ?_) | (refine hS.ld 7 rfl rfl ?_) | (refine hS.hd0 0 rfl rfl ?_) | (refine hS.hd 0 rfl rfl ?_) | (refine hS.hd0 1 rfl rfl ?_) | (refine hS.hd 1 rfl rfl ?_) | (refine hS.hd0 2 rfl rfl ?_) | (refine hS.hd 2 rfl rfl ?_) | (refine hS.hd0 3 rfl rfl ?_) | (refine hS.hd 3 rfl rfl ?_) | (refine hS.hd0 4 rfl rfl ?_) | (refine hS.hd 4 rfl rfl ?_) | (refine hS.hd0 5 rfl rfl ?_) | (refine hS.hd 5 rfl rfl ?_) | (refine hS.hd0 6 rfl rfl ?_) | (refine hS.hd 6 rfl rfl ?_) | (refine hS.hd0 7 rfl rfl ?_) | (refine hS.hd 7 rfl rfl ?_) | (refine hS.st0 0 rfl rfl rfl ?_; clear hS; intro _ hS) | (refine hS.st 0 rfl rfl rfl ?_; clear hS; intro _ hS) | (refine hS.st0 1 rfl rfl rfl ?_; clear hS; intro _ hS) | (refine hS.st 1 rfl rfl rfl ?_; clear hS; intro _ hS) | (refine hS.st0 2 rfl rfl rfl ?_; clear hS; intro _ hS) | (refine hS.st 2 rfl rfl rfl ?_; clear hS; intro _ hS) | (refine hS.st0 3 rfl rfl rfl ?_; clear hS; intro _ hS) | (refine hS.st 3 rfl rfl rfl ?_; clear hS; intro _ hS) | (refine hS.st0 4 rfl rfl rfl ?_; clear hS; intro _ hS) | (refine hS.st 4 rfl rfl rfl ?_; clear hS; intro _ hS) | (refine hS.st0 5 rfl rfl rfl ?_; clear hS; intro _ hS) | (refine hS.st 5 rfl rfl rfl ?_; clear hS; intro _ hS) | (refine hS.st0 6 rfl rfl rfl ?_; clear hS; intro _ hS) | (refine hS.st 6 rfl rfl rfl ?_; clear hS; intro _ hS) | (refine hS.st0 7 rfl rfl rfl ?_; clear hS; intro _ hS) | (refine hS.st 7 rfl rfl rfl ?_; clear hS; intro _ hS) | (refine bnd_mk (by decide) (by decide) ?_) | (refine so_i rfl ?_))
  show cl Tryd.prog 46 #[.int .i64 s, b.v] w2 _
  refine cells_k ?_
  intro p c w3 hx3 hrow3
  have hS3 := hS.to hx3
  have h3 := h2.ext hx3 fun _ _ hf => hf
  refine asT_i rfl rfl (asS_i rfl (asI_i rfl (lv_i (cond_split (fun h0 => ?_) (fun h0 => ?_)))))
  · have hne : cellsE s b ≠ 0 := by simpa using h0
    exact lv_i (bad (by rw [hE]; exact hne) _ hE _ hS3.ext)
  · have h00 : cellsE s b = 0 := by simpa using h0
    have hl := @cells_len s b
    have hpF : ∀ a, p = some a → ¬ F a.block := fun a ha hf => by
      have := h2.lt _ hf
      have := (hrow3.at ha).1
      omega
    refine gdrop_k h3 (fun x => by have := hlen x; omega) ?_
    intro w4 C4 bb4 kb4 bc4 kc4 h4 hpl4 hx4
    have hkn := hS3.kn (r1, b.cells, 38) (List.mem_cons_of_mem _ List.mem_cons_self)
    have hr1F : ¬ F r1 := fun hf => by
      have := h.lt r1 hf
      have := hkn.2
      simp only at this
      omega
    have hb4 : w4.heap[r1]? = some (.cells b.cells.toArray 38 (0, 0)) := hx4.blk hkn.1 hr1F
    have c0 : w4.cell? ⟨r1, 0, none⟩ = some (.int .i64 b.x) := by rw [blk_cell hb4]; rfl
    have c1 : w4.cell? (Addr.add ⟨r1, 0, none⟩ 1) = some (.int .i64 b.y) := by rw [add_mk, blk_cell hb4]; rfl
    have c2 : w4.cell? (Addr.add ⟨r1, 0, none⟩ 2) = some (.int .i64 b.r) := by rw [add_mk, blk_cell hb4]; rfl
    refine ld_mk c0 (asI_i rfl (ld_mk c1 (asI_i rfl (ld_mk c2 (asI_i rfl ?_)))))
    show cl Tryd.prog 50 #[.pointer (some ⟨g, 0, none⟩), .int .i64 id, b.v, .slice p (cellsL' s b).length c] w4 _
    refine gput_k h4 (hrow3.reads.ext hx4 hpF) rfl (by omega) cells_okc hpF (fun x => ?_) ?_
    · rw [hpl4]
      have := dropL_len (l := cellsL' s (boxAt B id)) (id := id) (pl_nd h.nd) x
      have := hlen x
      omega
    intro w5 F' C' bb' kb' bc' kc' h5 hpl hx5 hF1 hF2
    have hE0 : gmoveE s B id b = 0 := by rw [hE, h00]
    have := hK w5 F' C' bb' kb' bc' kc' (by unfold gmoveB; rw [if_pos hE0]; exact h5) (by unfold gmoveD; rw [if_pos hE0, ← hpl4]; exact hpl) (((Ext.of_no hS3.ext).trans hx4).trans hx5) (fun k hk => by
      have := hS3.ext.size
      have := hx4.size
      rcases hF1 k hk with h | h
      · exact .inl h
      · exact .inr (by omega)) hF2
    rw [hE0] at this
    exact lv_i this

def gdropE (B : List (Int × Bx)) (id : Int) : Int := if (aget B id).isSome = true then 0 else 181
def gdropB (B : List (Int × Bx)) (id : Int) : List (Int × Bx) := if gdropE B id = 0 then adel B id else B
def gdropD (s : Int) (B : List (Int × Bx)) (D : List ((Int × Int) × List Int)) (id : Int) : List ((Int × Int) × List Int) :=
  if gdropE B id = 0 then dropL D (cellsL' s (boxAt B id)) id else D

theorem gDrop_k {w : World} {F : Nat → Prop} {g mb mc : Nat} {s : Int} {B : List (Int × Bx)} {C : List ((Int × Int) × CellV)} {bb : List Nat} {kb : Nat} {bc : List Nat} {kc : Nat}
    (h : Gr w F g mb mc s B C bb kb bc kc) {id : Int} (hlen : ∀ x, ((aget (pl C) x).getD []).length ≤ 1099511627776) {K : Value → World → Prop}
    (hK : ∀ w' C' bb' kb' bc' kc', Gr w' F g mb mc s (gdropB B id) C' bb' kb' bc' kc' → pl C' = gdropD s B (pl C) id → Ext F w w' → K (.int .i64 (gdropE B id)) w') :
    cl Tryd.prog 39 #[.pointer (some ⟨g, 0, none⟩), .int .i64 id] w K := by
  apply F39_calls
  unfold F39
  refine lv_i (dr_i (ld_mk h.ld1 (asM_i rfl ?_)))
  have hlk := h.bm.lookup_ok keyI und_mb zero_box id ⟨trivial, fun _ _ => trivial⟩
  have e1 : (Option.map Bx.v (aget B id)).getD (Bx.v ⟨0, 0, 0⟩) = (boxAt B id).v := by unfold boxAt; cases aget B id <;> rfl
  rw [e1] at hlk
  refine rq_mk hlk (asT_i (l := [(boxAt B id).v, .bool (aget B id).isSome]) rfl rfl (asA_i (l := (boxAt B id).cells) rfl rfl ?_))
  have hS := St.start w
  repeat (first | (refine asI_i rfl ?_) | (refine asB_i rfl ?_) | (refine asP_i rfl ?_) | (refine asS_i rfl ?_) | (refine asY_i rfl ?_) | (refine asM_i rfl ?_) | (refine asA_i rfl rfl ?_) | (refine asT_i rfl rfl ?_) | (refine lv_i ?_) | (refine St.nw hS ?_; clear hS; intro _ _ hS) | (refine St.dw hS ?_; clear hS; intro _ hS _) | (refine hS.ld0 0 rfl rfl ?_) | (refine hS.ld 0 rfl rfl ?_) | (refine hS.ld0 1 rfl rfl ?_) | (refine hS.ld 1 rfl rfl ?_) | (refine hS.ld0 2 rfl rfl ?_) | (refine hS.ld 2 rfl rfl ?_) | (refine hS.ld0 3 rfl rfl ?_) | (refine hS.ld 3 rfl rfl ?_) | (refine hS.ld0 4 rfl rfl ?_) | (refine hS.ld 4 rfl rfl ?_) | (refine hS.ld0 5 rfl rfl ?_) | (refine hS.ld 5 rfl rfl ?_) | (refine hS.ld0 6 rfl rfl ?_) | (refine hS.ld 6 rfl rfl ?_) | (refine hS.ld0 7 rfl rfl ?_) | (refine hS.ld 7 rfl rfl ?_) | (refine hS.hd0 0 rfl rfl ?_) | (refine hS.hd 0 rfl rfl ?_) | (refine hS.hd0 1 rfl rfl ?_) | (refine hS.hd 1 rfl rfl ?_) | (refine hS.hd0 2 rfl rfl ?_) | (refine hS.hd 2 rfl rfl ?_) | (refine hS.hd0 3 rfl rfl ?_) | (refine hS.hd 3 rfl rfl ?_) | (refine hS.hd0 4 rfl rfl ?_) | (refine hS.hd 4 rfl rfl ?_) | (refine hS.hd0 5 rfl rfl ?_) | (refine hS.hd 5 rfl rfl ?_) | (refine hS.hd0 6 rfl rfl ?_) | (refine hS.hd 6 rfl rfl ?_) | (refine hS.hd0 7 rfl rfl ?_) | (refine hS.hd 7 rfl rfl ?_) | (refine hS.st0 0 rfl rfl rfl ?_; clear hS; intro _ hS) | (refine hS.st 0 rfl rfl rfl ?_; clear hS; intro _ hS) | (refine hS.st0 1 rfl rfl rfl ?_; clear hS; intro _ hS) | (refine hS.st 1 rfl rfl rfl ?_; clear hS; intro _ hS) | (refine hS.st0 2 rfl rfl rfl ?_; clear hS; intro _ hS) | (refine hS.st 2 rfl rfl rfl ?_; clear hS; intro _ hS) | (refine hS.st0 3 rfl rfl rfl ?_; clear hS; intro _ hS) | (refine hS.st 3 rfl rfl rfl ?_; clear hS; intro _ hS) | (refine hS.st0 4 rfl rfl rfl ?_; clear hS; intro _ hS) | (refine hS.st 4 rfl rfl rfl ?_; clear hS; intro _ hS) | (refine hS.st0 5 rfl rfl rfl ?_; clear hS; intro _ hS) | (refine hS.st 5 rfl rfl rfl ?_; clear hS; intro _ hS) | (refine hS.st0 6 rfl rfl rfl ?_; clear hS; intro _ hS) | (refine hS.st 6 rfl rfl rfl ?_; clear hS; intro _ hS) | (refine hS.st0 7 rfl rfl rfl ?_; clear hS; intro _ hS) | (refine hS.st 7 rfl rfl rfl ?_; clear hS; intro _ hS) | (refine bnd_mk (by decide) (by decide) ?_) | (refine so_i rfl ?_))
  have h1 := h.ext hS.ext fun _ _ hf => hf
  refine cond_split (fun hs => ?_) (fun hs => ?_)
  · have hs' : ¬ (aget B id).isSome = true := by simpa using hs
    have e : gdropE B id = 181 := by unfold gdropE; rw [if_neg hs']
    have := hK _ C bb kb bc kc (by unfold gdropB; rw [if_neg (by rw [e]; decide)]; exact h1) (by unfold gdropD; rw [if_neg (by rw [e]; decide)]) (Ext.of_no hS.ext)
    rw [e] at this
    exact lv_i this
  · have hs' : (aget B id).isSome = true := by simpa using hs
    have e : gdropE B id = 0 := by unfold gdropE; rw [if_pos hs']
    refine gdrop_k h1 hlen ?_
    intro w2 C2 bb2 kb2 bc2 kc2 h2 hpl hx2
    have := hK w2 C2 bb2 kb2 bc2 kc2 (by unfold gdropB; rw [if_pos e]; exact h2) (by unfold gdropD; rw [if_pos e]; exact hpl) ((Ext.of_no hS.ext).trans hx2)
    rw [e] at this
    exact lv_i this
end Go.Proofs.YtamobmjfdiecbaaDoor

/- WoC: entities and their places: which may be; a world as a thing in memory. Conditions: those of each theorem, on its arguments. -/
namespace Go.Proofs.YtamobmjfdiecbaaDoor
open Go Go.Sx Go.Fp
attribute [local irreducible] jn lv ld st nw asI asB asP asS asY asM asF asA asT lp rn ru rq cl dw dr bnd bn2 nz nn hd hr so eqW
attribute [local irreducible] callOk

structure Ent where
  h : Int
  x : Int
  y : Int
  r : Int
  vx : Int
  vy : Int
  o : Int
  t : Int
deriving DecidableEq

def Ent.cells (e : Ent) : List Value := [.int .i64 e.h, .int .i64 e.x, .int .i64 e.y, .int .i64 e.r, .int .i64 e.vx, .int .i64 e.vy, .int .i64 e.o, .int .i64 e.t]
def Ent.v (e : Ent) : Value := .agg e.cells.toArray
def Ent.box (e : Ent) : Bx := ⟨e.x, e.y, e.r⟩

def inn (n m : Int) : Bool := decide (-m ≤ n) && decide (n ≤ m)
def Ent.boxOk (e : Ent) : Bool := inn e.x 4398046511104 && inn e.y 4398046511104 && decide (1 ≤ e.r) && decide (e.r ≤ 17179869184)
def Ent.argOk (e : Ent) : Bool := inn e.vx 17179869184 && inn e.vy 17179869184 && decide (0 ≤ e.o) && decide (e.o ≤ 8)
def Ent.rightE (e : Ent) : Int := if e.boxOk then if e.argOk then 0 else 1 else 60

theorem wwithin_k {n m : Int} (hm : 0 ≤ m ∧ m ≤ 9223372036854775807) {w : World} {K : Value → World → Prop} (hK : K (.bool (inn n m)) w) : cl Tryd.prog 52 #[.int .i64 n, .int .i64 m] w K := by
  apply F52_calls
  unfold F52
  have e : IntKind.wrap .i64 (0 - m) = -m := by rw [wr64 (by omega) (by omega)]; omega
  rw [e]
  refine jn_mk (cond_split (fun h => asB_i rfl ?_) (fun h => asB_i rfl ?_))
  · have : inn n m = decide (n ≤ m) := by unfold inn; rw [h]; rfl
    rw [← this]; exact hK
  · have : inn n m = false := by unfold inn; rw [h]; rfl
    rw [← this]; exact hK

theorem eright_k {e : Ent} {w : World} {K : Value → World → Prop} (hK : ∀ w', Ext no w w' → K (.int .i64 e.rightE) w') : cl Tryd.prog 37 #[e.v] w K := by
  apply F37_calls
  unfold F37
  have hS := St.start w
  (refine St.nw hS ?_; clear hS; intro r1 _ hS)
  refine lv_i (jn_of (fun s w' => ∃ ra rb, s = [.pointer (some ⟨ra, 0, none⟩), .pointer (some ⟨rb, 0, none⟩)] ∧ St w w' [(rb, [.int .i64 e.vx, .int .i64 e.vy], 36), (ra, [.int .i64 e.x, .int .i64 e.y], 36), (r1, e.cells, 40)]) ?_ ?_)
  · clear hS
    rintro _ w1 ⟨ra, rb, rfl, hS⟩
    repeat (first | (refine asI_i rfl ?_) | (refine asB_i rfl ?_) | (refine asP_i rfl ?_) | (refine asS_i rfl ?_) | (refine asY_i rfl ?_) | (refine asM_i rfl ?_) | (refine asA_i rfl rfl ?_) | (refine asT_i rfl rfl ?_) | (refine lv_i ?_))
    refine jn_of (fun s w' => s = [.bool (!e.boxOk)] ∧ St w w' [(rb, [.int .i64 e.vx, .int .i64 e.vy], 36), (ra, [.int .i64 e.x, .int .i64 e.y], 36), (r1, e.cells, 40)]) ?_ ?_
    · clear hS
      rintro _ w2 ⟨rfl, hS⟩
      refine asB_i rfl (cond_split (fun h => lv_i ?_) (fun h => ?_))
      · have hb : ¬ e.boxOk = true := by simpa using h
        have := hK w2 hS.ext
        unfold Ent.rightE at this
        rw [if_neg hb] at this
        exact this
      have hb : e.boxOk = true := by simpa using h
      refine jn_of (fun s w' => s = [.bool (!e.argOk)] ∧ St w w' [(rb, [.int .i64 e.vx, .int .i64 e.vy], 36), (ra, [.int .i64 e.x, .int .i64 e.y], 36), (r1, e.cells, 40)]) ?_ ?_
      · clear hS
        rintro _ w3 ⟨rfl, hS⟩
        have := hK w3 hS.ext
        unfold Ent.rightE at this
        rw [if_pos hb] at this
        refine asB_i rfl (cond_split (fun h => lv_i ?_) (fun h => lv_i ?_))
        · rw [if_neg (by simpa using h)] at this
          exact this
        · rw [if_pos (by simpa using h)] at this
          exact this
      · intro J hJ
        refine dr_i ?_
        repeat (first | (refine dr_i ?_) | (refine asI_i rfl ?_) | (refine asB_i rfl ?_) | (refine asP_i rfl ?_) | (refine asS_i rfl ?_) | (refine asY_i rfl ?_) | (refine asM_i rfl ?_) | (refine asA_i rfl rfl ?_) | (refine asT_i rfl rfl ?_) | (refine lv_i ?_) | (refine St.nw hS ?_; clear hS; intro _ _ hS) | (refine St.dw hS ?_; clear hS; intro _ hS _) | (refine hS.ld0 0 rfl rfl ?_) | (refine hS.ld 0 rfl rfl ?_) | (refine hS.ld0 1 rfl rfl ?_) | (refine hS.ld 1 rfl rfl ?_) | (refine hS.ld0 2 rfl rfl ?_) | (refine hS.ld 2 rfl rfl ?_) | (refine hS.ld0 3 rfl rfl ?_) | (refine hS.ld 3 rfl rfl ?_) | (refine hS.ld0 4 rfl rfl ?_) | (refine hS.ld 4 rfl rfl ?_) | (refine hS.ld0 5 rfl rfl ?_) | (refine hS.ld 5 rfl rfl ?_) | (refine hS.ldd 0 rfl rfl ?_) | (refine hS.ldd 1 rfl rfl ?_) | (refine hS.ldd 2 rfl rfl ?_) | (refine hS.ldd 3 rfl rfl ?_) | (refine hS.ldd 4 rfl rfl ?_) | (refine hS.ldd 5 rfl rfl ?_) | (refine hS.hd0 0 rfl rfl ?_) | (refine hS.hd 0 rfl rfl ?_) | (refine hS.hd0 1 rfl rfl ?_) | (refine hS.hd 1 rfl rfl ?_) | (refine hS.hd0 2 rfl rfl ?_) | (refine hS.hd 2 rfl rfl ?_) | (refine hS.hd0 3 rfl rfl ?_) | (refine hS.hd 3 rfl rfl ?_) | (refine hS.hd0 4 rfl rfl ?_) | (refine hS.hd 4 rfl rfl ?_) | (refine hS.hd0 5 rfl rfl ?_) | (refine hS.hd 5 rfl rfl ?_) | (refine hS.hdd 0 rfl rfl ?_) | (refine hS.hdd 1 rfl rfl ?_) | (refine hS.hdd 2 rfl rfl ?_) | (refine hS.hdd 3 rfl rfl ?_) | (refine hS.hdd 4 rfl rfl ?_) | (refine hS.hdd 5 rfl rfl ?_) | (refine hS.st0 0 rfl rfl rfl ?_; clear hS; intro _ hS) | (refine hS.st 0 rfl rfl rfl ?_; clear hS; intro _ hS) | (refine hS.st0 1 rfl rfl rfl ?_; clear hS; intro _ hS) | (refine hS.st 1 rfl rfl rfl ?_; clear hS; intro _ hS) | (refine hS.st0 2 rfl rfl rfl ?_; clear hS; intro _ hS) | (refine hS.st 2 rfl rfl rfl ?_; clear hS; intro _ hS) | (refine hS.st0 3 rfl rfl rfl ?_; clear hS; intro _ hS) | (refine hS.st 3 rfl rfl rfl ?_; clear hS; intro _ hS) | (refine hS.st0 4 rfl rfl rfl ?_; clear hS; intro _ hS) | (refine hS.st 4 rfl rfl rfl ?_; clear hS; intro _ hS) | (refine hS.st0 5 rfl rfl rfl ?_; clear hS; intro _ hS) | (refine hS.st 5 rfl rfl rfl ?_; clear hS; intro _ hS) | (refine hS.std 0 rfl rfl rfl ?_; clear hS; intro _ hS) | (refine hS.std 1 rfl rfl rfl ?_; clear hS; intro _ hS) | (refine hS.std 2 rfl rfl rfl ?_; clear hS; intro _ hS) | (refine hS.std 3 rfl rfl rfl ?_; clear hS; intro _ hS) | (refine hS.std 4 rfl rfl rfl ?_; clear hS; intro _ hS) | (refine hS.std 5 rfl rfl rfl ?_; clear hS; intro _ hS) | (refine bnd_mk (by decide) (by decide) ?_) | (refine so_i rfl ?_))
        refine wwithin_k (by decide) (asB_i rfl (cond_split (fun h => hJ _ _ ⟨?_, hS⟩) (fun h => dr_i ?_)))
        · have : inn e.vx 17179869184 = false := by simpa using h
          unfold Ent.argOk; rw [this]; rfl
        have h1 : inn e.vx 17179869184 = true := by simpa using h
        repeat (first | (refine dr_i ?_) | (refine asI_i rfl ?_) | (refine asB_i rfl ?_) | (refine asP_i rfl ?_) | (refine asS_i rfl ?_) | (refine asY_i rfl ?_) | (refine asM_i rfl ?_) | (refine asA_i rfl rfl ?_) | (refine asT_i rfl rfl ?_) | (refine lv_i ?_) | (refine St.nw hS ?_; clear hS; intro _ _ hS) | (refine St.dw hS ?_; clear hS; intro _ hS _) | (refine hS.ld0 0 rfl rfl ?_) | (refine hS.ld 0 rfl rfl ?_) | (refine hS.ld0 1 rfl rfl ?_) | (refine hS.ld 1 rfl rfl ?_) | (refine hS.ld0 2 rfl rfl ?_) | (refine hS.ld 2 rfl rfl ?_) | (refine hS.ld0 3 rfl rfl ?_) | (refine hS.ld 3 rfl rfl ?_) | (refine hS.ld0 4 rfl rfl ?_) | (refine hS.ld 4 rfl rfl ?_) | (refine hS.ld0 5 rfl rfl ?_) | (refine hS.ld 5 rfl rfl ?_) | (refine hS.ldd 0 rfl rfl ?_) | (refine hS.ldd 1 rfl rfl ?_) | (refine hS.ldd 2 rfl rfl ?_) | (refine hS.ldd 3 rfl rfl ?_) | (refine hS.ldd 4 rfl rfl ?_) | (refine hS.ldd 5 rfl rfl ?_) | (refine hS.hd0 0 rfl rfl ?_) | (refine hS.hd 0 rfl rfl ?_) | (refine hS.hd0 1 rfl rfl ?_) | (refine hS.hd 1 rfl rfl ?_) | (refine hS.hd0 2 rfl rfl ?_) | (refine hS.hd 2 rfl rfl ?_) | (refine hS.hd0 3 rfl rfl ?_) | (refine hS.hd 3 rfl rfl ?_) | (refine hS.hd0 4 rfl rfl ?_) | (refine hS.hd 4 rfl rfl ?_) | (refine hS.hd0 5 rfl rfl ?_) | (refine hS.hd 5 rfl rfl ?_) | (refine hS.hdd 0 rfl rfl ?_) | (refine hS.hdd 1 rfl rfl ?_) | (refine hS.hdd 2 rfl rfl ?_) | (refine hS.hdd 3 rfl rfl ?_) | (refine hS.hdd 4 rfl rfl ?_) | (refine hS.hdd 5 rfl rfl ?_) | (refine hS.st0 0 rfl rfl rfl ?_; clear hS; intro _ hS) | (refine hS.st 0 rfl rfl rfl ?_; clear hS; intro _ hS) | (refine hS.st0 1 rfl rfl rfl ?_; clear hS; intro _ hS) | (refine hS.st 1 rfl rfl rfl ?_; clear hS; intro _ hS) | (refine hS.st0 2 rfl rfl rfl ?_; clear hS; intro _ hS) | (refine hS.st 2 rfl rfl rfl ?_; clear hS; intro _ hS) | (refine hS.st0 3 rfl rfl rfl ?_; clear hS; intro _ hS) | (refine hS.st 3 rfl rfl rfl ?_; clear hS; intro _ hS) | (refine hS.st0 4 rfl rfl rfl ?_; clear hS; intro _ hS) | (refine hS.st 4 rfl rfl rfl ?_; clear hS; intro _ hS) | (refine hS.st0 5 rfl rfl rfl ?_; clear hS; intro _ hS) | (refine hS.st 5 rfl rfl rfl ?_; clear hS; intro _ hS) | (refine hS.std 0 rfl rfl rfl ?_; clear hS; intro _ hS) | (refine hS.std 1 rfl rfl rfl ?_; clear hS; intro _ hS) | (refine hS.std 2 rfl rfl rfl ?_; clear hS; intro _ hS) | (refine hS.std 3 rfl rfl rfl ?_; clear hS; intro _ hS) | (refine hS.std 4 rfl rfl rfl ?_; clear hS; intro _ hS) | (refine hS.std 5 rfl rfl rfl ?_; clear hS; intro _ hS) | (refine bnd_mk (by decide) (by decide) ?_) | (refine so_i rfl ?_))
        refine wwithin_k (by decide) (asB_i rfl (cond_split (fun h => hJ _ _ ⟨?_, hS⟩) (fun h => ?_)))
        · have : inn e.vy 17179869184 = false := by simpa using h
          unfold Ent.argOk; rw [this, h1]; rfl
        have h2 : inn e.vy 17179869184 = true := by simpa using h
        repeat (first | (refine dr_i ?_) | (refine asI_i rfl ?_) | (refine asB_i rfl ?_) | (refine asP_i rfl ?_) | (refine asS_i rfl ?_) | (refine asY_i rfl ?_) | (refine asM_i rfl ?_) | (refine asA_i rfl rfl ?_) | (refine asT_i rfl rfl ?_) | (refine lv_i ?_) | (refine St.nw hS ?_; clear hS; intro _ _ hS) | (refine St.dw hS ?_; clear hS; intro _ hS _) | (refine hS.ld0 0 rfl rfl ?_) | (refine hS.ld 0 rfl rfl ?_) | (refine hS.ld0 1 rfl rfl ?_) | (refine hS.ld 1 rfl rfl ?_) | (refine hS.ld0 2 rfl rfl ?_) | (refine hS.ld 2 rfl rfl ?_) | (refine hS.ld0 3 rfl rfl ?_) | (refine hS.ld 3 rfl rfl ?_) | (refine hS.ld0 4 rfl rfl ?_) | (refine hS.ld 4 rfl rfl ?_) | (refine hS.ld0 5 rfl rfl ?_) | (refine hS.ld 5 rfl rfl ?_) | (refine hS.ldd 0 rfl rfl ?_) | (refine hS.ldd 1 rfl rfl ?_) | (refine hS.ldd 2 rfl rfl ?_) | (refine hS.ldd 3 rfl rfl ?_) | (refine hS.ldd 4 rfl rfl ?_) | (refine hS.ldd 5 rfl rfl ?_) | (refine hS.hd0 0 rfl rfl ?_) | (refine hS.hd 0 rfl rfl ?_) | (refine hS.hd0 1 rfl rfl ?_) | (refine hS.hd 1 rfl rfl ?_) | (refine hS.hd0 2 rfl rfl ?_) | (refine hS.hd 2 rfl rfl ?_) | (refine hS.hd0 3 rfl rfl ?_) | (refine hS.hd 3 rfl rfl ?_) | (refine hS.hd0 4 rfl rfl ?_) | (refine hS.hd 4 rfl rfl ?_) | (refine hS.hd0 5 rfl rfl ?_) | (refine hS.hd 5 rfl rfl ?_) | (refine hS.hdd 0 rfl rfl ?_) | (refine hS.hdd 1 rfl rfl ?_) | (refine hS.hdd 2 rfl rfl ?_) | (refine hS.hdd 3 rfl rfl ?_) | (refine hS.hdd 4 rfl rfl ?_) | (refine hS.hdd 5 rfl rfl ?_) | (refine hS.st0 0 rfl rfl rfl ?_; clear hS; intro _ hS) | (refine hS.st 0 rfl rfl rfl ?_; clear hS; intro _ hS) | (refine hS.st0 1 rfl rfl rfl ?_; clear hS; intro _ hS) | (refine hS.st 1 rfl rfl rfl ?_; clear hS; intro _ hS) | (refine hS.st0 2 rfl rfl rfl ?_; clear hS; intro _ hS) | (refine hS.st 2 rfl rfl rfl ?_; clear hS; intro _ hS) | (refine hS.st0 3 rfl rfl rfl ?_; clear hS; intro _ hS) | (refine hS.st 3 rfl rfl rfl ?_; clear hS; intro _ hS) | (refine hS.st0 4 rfl rfl rfl ?_; clear hS; intro _ hS) | (refine hS.st 4 rfl rfl rfl ?_; clear hS; intro _ hS) | (refine hS.st0 5 rfl rfl rfl ?_; clear hS; intro _ hS) | (refine hS.st 5 rfl rfl rfl ?_; clear hS; intro _ hS) | (refine hS.std 0 rfl rfl rfl ?_; clear hS; intro _ hS) | (refine hS.std 1 rfl rfl rfl ?_; clear hS; intro _ hS) | (refine hS.std 2 rfl rfl rfl ?_; clear hS; intro _ hS) | (refine hS.std 3 rfl rfl rfl ?_; clear hS; intro _ hS) | (refine hS.std 4 rfl rfl rfl ?_; clear hS; intro _ hS) | (refine hS.std 5 rfl rfl rfl ?_; clear hS; intro _ hS) | (refine bnd_mk (by decide) (by decide) ?_) | (refine so_i rfl ?_))
        refine cond_split (fun h => hJ _ _ ⟨?_, hS⟩) (fun h => ?_)
        · have h3 := of_decide_eq_true h
          unfold Ent.argOk
          rw [h1, h2, h, decide_eq_false (show ¬ 0 ≤ e.o by omega)]; rfl
        have h3 := of_decide_eq_false h
        repeat (first | (refine dr_i ?_) | (refine asI_i rfl ?_) | (refine asB_i rfl ?_) | (refine asP_i rfl ?_) | (refine asS_i rfl ?_) | (refine asY_i rfl ?_) | (refine asM_i rfl ?_) | (refine asA_i rfl rfl ?_) | (refine asT_i rfl rfl ?_) | (refine lv_i ?_) | (refine St.nw hS ?_; clear hS; intro _ _ hS) | (refine St.dw hS ?_; clear hS; intro _ hS _) | (refine hS.ld0 0 rfl rfl ?_) | (refine hS.ld 0 rfl rfl ?_) | (refine hS.ld0 1 rfl rfl ?_) | (refine hS.ld 1 rfl rfl ?_) | (refine hS.ld0 2 rfl rfl ?_) | (refine hS.ld 2 rfl rfl ?_) | (refine hS.ld0 3 rfl rfl ?_) | (refine hS.ld 3 rfl rfl ?_) | (refine hS.ld0 4 rfl rfl ?_) | (refine hS.ld 4 rfl rfl ?_) | (refine hS.ld0 5 rfl rfl ?_) | (refine hS.ld 5 rfl rfl ?_) | (refine hS.ldd 0 rfl rfl ?_) | (refine hS.ldd 1 rfl rfl ?_) | (refine hS.ldd 2 rfl rfl ?_) | (refine hS.ldd 3 rfl rfl ?_) | (refine hS.ldd 4 rfl rfl ?_) | (refine hS.ldd 5 rfl rfl ?_) | (refine hS.hd0 0 rfl rfl ?_) | (refine hS.hd 0 rfl rfl ?_) | (refine hS.hd0 1 rfl rfl ?_) | (refine hS.hd 1 rfl rfl ?_) | (refine hS.hd0 2 rfl rfl ?_) | (refine hS.hd 2 rfl rfl ?_) | (refine hS.hd0 3 rfl rfl ?_) | (refine hS.hd 3 rfl rfl ?_) | (refine hS.hd0 4 rfl rfl ?_) | (refine hS.hd 4 rfl rfl ?_) | (refine hS.hd0 5 rfl rfl ?_) | (refine hS.hd 5 rfl rfl ?_) | (refine hS.hdd 0 rfl rfl ?_) | (refine hS.hdd 1 rfl rfl ?_) | (refine hS.hdd 2 rfl rfl ?_) | (refine hS.hdd 3 rfl rfl ?_) | (refine hS.hdd 4 rfl rfl ?_) | (refine hS.hdd 5 rfl rfl ?_) | (refine hS.st0 0 rfl rfl rfl ?_; clear hS; intro _ hS) | (refine hS.st 0 rfl rfl rfl ?_; clear hS; intro _ hS) | (refine hS.st0 1 rfl rfl rfl ?_; clear hS; intro _ hS) | (refine hS.st 1 rfl rfl rfl ?_; clear hS; intro _ hS) | (refine hS.st0 2 rfl rfl rfl ?_; clear hS; intro _ hS) | (refine hS.st 2 rfl rfl rfl ?_; clear hS; intro _ hS) | (refine hS.st0 3 rfl rfl rfl ?_; clear hS; intro _ hS) | (refine hS.st 3 rfl rfl rfl ?_; clear hS; intro _ hS) | (refine hS.st0 4 rfl rfl rfl ?_; clear hS; intro _ hS) | (refine hS.st 4 rfl rfl rfl ?_; clear hS; intro _ hS) | (refine hS.st0 5 rfl rfl rfl ?_; clear hS; intro _ hS) | (refine hS.st 5 rfl rfl rfl ?_; clear hS; intro _ hS) | (refine hS.std 0 rfl rfl rfl ?_; clear hS; intro _ hS) | (refine hS.std 1 rfl rfl rfl ?_; clear hS; intro _ hS) | (refine hS.std 2 rfl rfl rfl ?_; clear hS; intro _ hS) | (refine hS.std 3 rfl rfl rfl ?_; clear hS; intro _ hS) | (refine hS.std 4 rfl rfl rfl ?_; clear hS; intro _ hS) | (refine hS.std 5 rfl rfl rfl ?_; clear hS; intro _ hS) | (refine bnd_mk (by decide) (by decide) ?_) | (refine so_i rfl ?_))
        refine hJ _ _ ⟨?_, hS⟩
        unfold Ent.argOk
        rw [h1, h2, decide_eq_true (show 0 ≤ e.o by omega)]
        congr 2
        simp only [Bool.true_and]
        by_cases h4 : e.o ≤ 8
        · rw [decide_eq_true h4, decide_eq_false (by omega)]; rfl
        · rw [decide_eq_false h4, decide_eq_true (by omega)]; rfl
    · intro J hJ
      refine dr_i ?_
      repeat (first | (refine dr_i ?_) | (refine asI_i rfl ?_) | (refine asB_i rfl ?_) | (refine asP_i rfl ?_) | (refine asS_i rfl ?_) | (refine asY_i rfl ?_) | (refine asM_i rfl ?_) | (refine asA_i rfl rfl ?_) | (refine asT_i rfl rfl ?_) | (refine lv_i ?_) | (refine St.nw hS ?_; clear hS; intro _ _ hS) | (refine St.dw hS ?_; clear hS; intro _ hS _) | (refine hS.ld0 0 rfl rfl ?_) | (refine hS.ld 0 rfl rfl ?_) | (refine hS.ld0 1 rfl rfl ?_) | (refine hS.ld 1 rfl rfl ?_) | (refine hS.ld0 2 rfl rfl ?_) | (refine hS.ld 2 rfl rfl ?_) | (refine hS.ld0 3 rfl rfl ?_) | (refine hS.ld 3 rfl rfl ?_) | (refine hS.ld0 4 rfl rfl ?_) | (refine hS.ld 4 rfl rfl ?_) | (refine hS.ld0 5 rfl rfl ?_) | (refine hS.ld 5 rfl rfl ?_) | (refine hS.ldd 0 rfl rfl ?_) | (refine hS.ldd 1 rfl rfl ?_) | (refine hS.ldd 2 rfl rfl ?_) | (refine hS.ldd 3 rfl rfl ?_) | (refine hS.ldd 4 rfl rfl ?_) | (refine hS.ldd 5 rfl rfl ?_) | (refine hS.hd0 0 rfl rfl ?_) | (refine hS.hd 0 rfl rfl ?_) | (refine hS.hd0 1 rfl rfl ?_) | (refine hS.hd 1 rfl rfl ?_) | (refine hS.hd0 2 rfl rfl ?_) | (refine hS.hd 2 rfl rfl ?_) | (refine hS.hd0 3 rfl rfl ?_) | (refine hS.hd 3 rfl rfl ?_) | (refine hS.hd0 4 rfl rfl ?_) | (refine hS.hd 4 rfl rfl ?_) | (refine hS.hd0 5 rfl rfl ?_) | (refine hS.hd 5 rfl rfl ?_) | (refine hS.hdd 0 rfl rfl ?_) | (refine hS.hdd 1 rfl rfl ?_) | (refine hS.hdd 2 rfl rfl ?_) | (refine hS.hdd 3 rfl rfl ?_) | (refine hS.hdd 4 rfl rfl ?_) | (refine hS.hdd 5 rfl rfl ?_) | (refine hS.st0 0 rfl rfl rfl ?_; clear hS; intro _ hS) | (refine hS.st 0 rfl rfl rfl ?_; clear hS; intro _ hS) | (refine hS.st0 1 rfl rfl rfl ?_; clear hS; intro _ hS) | (refine hS.st 1 rfl rfl rfl ?_; clear hS; intro _ hS) | (refine hS.st0 2 rfl rfl rfl ?_; clear hS; intro _ hS) | (refine hS.st 2 rfl rfl rfl ?_; clear hS; intro _ hS) | (refine hS.st0 3 rfl rfl rfl ?_; clear hS; intro _ hS) | (refine hS.st 3 rfl rfl rfl ?_; clear hS; intro _ hS) | (refine hS.st0 4 rfl rfl rfl ?_; clear hS; intro _ hS) | (refine hS.st 4 rfl rfl rfl ?_; clear hS; intro _ hS) | (refine hS.st0 5 rfl rfl rfl ?_; clear hS; intro _ hS) | (refine hS.st 5 rfl rfl rfl ?_; clear hS; intro _ hS) | (refine hS.std 0 rfl rfl rfl ?_; clear hS; intro _ hS) | (refine hS.std 1 rfl rfl rfl ?_; clear hS; intro _ hS) | (refine hS.std 2 rfl rfl rfl ?_; clear hS; intro _ hS) | (refine hS.std 3 rfl rfl rfl ?_; clear hS; intro _ hS) | (refine hS.std 4 rfl rfl rfl ?_; clear hS; intro _ hS) | (refine hS.std 5 rfl rfl rfl ?_; clear hS; intro _ hS) | (refine bnd_mk (by decide) (by decide) ?_) | (refine so_i rfl ?_))
      refine wwithin_k (by decide) (asB_i rfl (cond_split (fun h => hJ _ _ ⟨?_, hS⟩) (fun h => dr_i ?_)))
      · have : inn e.x 4398046511104 = false := by simpa using h
        unfold Ent.boxOk; rw [this]; rfl
      have h1 : inn e.x 4398046511104 = true := by simpa using h
      repeat (first | (refine dr_i ?_) | (refine asI_i rfl ?_) | (refine asB_i rfl ?_) | (refine asP_i rfl ?_) | (refine asS_i rfl ?_) | (refine asY_i rfl ?_) | (refine asM_i rfl ?_) | (refine asA_i rfl rfl ?_) | (refine asT_i rfl rfl ?_) | (refine lv_i ?_) | (refine St.nw hS ?_; clear hS; intro _ _ hS) | (refine St.dw hS ?_; clear hS; intro _ hS _) | (refine hS.ld0 0 rfl rfl ?_) | (refine hS.ld 0 rfl rfl ?_) | (refine hS.ld0 1 rfl rfl ?_) | (refine hS.ld 1 rfl rfl ?_) | (refine hS.ld0 2 rfl rfl ?_) | (refine hS.ld 2 rfl rfl ?_) | (refine hS.ld0 3 rfl rfl ?_) | (refine hS.ld 3 rfl rfl ?_) | (refine hS.ld0 4 rfl rfl ?_) | (refine hS.ld 4 rfl rfl ?_) | (refine hS.ld0 5 rfl rfl ?_) | (refine hS.ld 5 rfl rfl ?_) | (refine hS.ldd 0 rfl rfl ?_) | (refine hS.ldd 1 rfl rfl ?_) | (refine hS.ldd 2 rfl rfl ?_) | (refine hS.ldd 3 rfl rfl ?_) | (refine hS.ldd 4 rfl rfl ?_) | (refine hS.ldd 5 rfl rfl ?_) | (refine hS.hd0 0 rfl rfl ?_) | (refine hS.hd 0 rfl rfl ?_) | (refine hS.hd0 1 rfl rfl ?_) | (refine hS.hd 1 rfl rfl ?_) | (refine hS.hd0 2 rfl rfl ?_) | (refine hS.hd 2 rfl rfl ?_) | (refine hS.hd0 3 rfl rfl ?_) | (refine hS.hd 3 rfl rfl ?_) | (refine hS.hd0 4 rfl rfl ?_) | (refine hS.hd 4 rfl rfl ?_) | (refine hS.hd0 5 rfl rfl ?_) | (refine hS.hd 5 rfl rfl ?_) | (refine hS.hdd 0 rfl rfl ?_) | (refine hS.hdd 1 rfl rfl ?_) | (refine hS.hdd 2 rfl rfl ?_) | (refine hS.hdd 3 rfl rfl ?_) | (refine hS.hdd 4 rfl rfl ?_) | (refine hS.hdd 5 rfl rfl ?_) | (refine hS.st0 0 rfl rfl rfl ?_; clear hS; intro _ hS) | (refine hS.st 0 rfl rfl rfl ?_; clear hS; intro _ hS) | (refine hS.st0 1 rfl rfl rfl ?_; clear hS; intro _ hS) | (refine hS.st 1 rfl rfl rfl ?_; clear hS; intro _ hS) | (refine hS.st0 2 rfl rfl rfl ?_; clear hS; intro _ hS) | (refine hS.st 2 rfl rfl rfl ?_; clear hS; intro _ hS) | (refine hS.st0 3 rfl rfl rfl ?_; clear hS; intro _ hS) | (refine hS.st 3 rfl rfl rfl ?_; clear hS; intro _ hS) | (refine hS.st0 4 rfl rfl rfl ?_; clear hS; intro _ hS) | (refine hS.st 4 rfl rfl rfl ?_; clear hS; intro _ hS) | (refine hS.st0 5 rfl rfl rfl ?_; clear hS; intro _ hS) | (refine hS.st 5 rfl rfl rfl ?_; clear hS; intro _ hS) | (refine hS.std 0 rfl rfl rfl ?_; clear hS; intro _ hS) | (refine hS.std 1 rfl rfl rfl ?_; clear hS; intro _ hS) | (refine hS.std 2 rfl rfl rfl ?_; clear hS; intro _ hS) | (refine hS.std 3 rfl rfl rfl ?_; clear hS; intro _ hS) | (refine hS.std 4 rfl rfl rfl ?_; clear hS; intro _ hS) | (refine hS.std 5 rfl rfl rfl ?_; clear hS; intro _ hS) | (refine bnd_mk (by decide) (by decide) ?_) | (refine so_i rfl ?_))
      refine wwithin_k (by decide) (asB_i rfl (cond_split (fun h => hJ _ _ ⟨?_, hS⟩) (fun h => ?_)))
      · have : inn e.y 4398046511104 = false := by simpa using h
        unfold Ent.boxOk; rw [this, h1]; rfl
      have h2 : inn e.y 4398046511104 = true := by simpa using h
      repeat (first | (refine dr_i ?_) | (refine asI_i rfl ?_) | (refine asB_i rfl ?_) | (refine asP_i rfl ?_) | (refine asS_i rfl ?_) | (refine asY_i rfl ?_) | (refine asM_i rfl ?_) | (refine asA_i rfl rfl ?_) | (refine asT_i rfl rfl ?_) | (refine lv_i ?_) | (refine St.nw hS ?_; clear hS; intro _ _ hS) | (refine St.dw hS ?_; clear hS; intro _ hS _) | (refine hS.ld0 0 rfl rfl ?_) | (refine hS.ld 0 rfl rfl ?_) | (refine hS.ld0 1 rfl rfl ?_) | (refine hS.ld 1 rfl rfl ?_) | (refine hS.ld0 2 rfl rfl ?_) | (refine hS.ld 2 rfl rfl ?_) | (refine hS.ld0 3 rfl rfl ?_) | (refine hS.ld 3 rfl rfl ?_) | (refine hS.ld0 4 rfl rfl ?_) | (refine hS.ld 4 rfl rfl ?_) | (refine hS.ld0 5 rfl rfl ?_) | (refine hS.ld 5 rfl rfl ?_) | (refine hS.ldd 0 rfl rfl ?_) | (refine hS.ldd 1 rfl rfl ?_) | (refine hS.ldd 2 rfl rfl ?_) | (refine hS.ldd 3 rfl rfl ?_) | (refine hS.ldd 4 rfl rfl ?_) | (refine hS.ldd 5 rfl rfl ?_) | (refine hS.hd0 0 rfl rfl ?_) | (refine hS.hd 0 rfl rfl ?_) | (refine hS.hd0 1 rfl rfl ?_) | (refine hS.hd 1 rfl rfl ?_) | (refine hS.hd0 2 rfl rfl ?_) | (refine hS.hd 2 rfl rfl ?_) | (refine hS.hd0 3 rfl rfl ?_) | (refine hS.hd 3 rfl rfl ?_) | (refine hS.hd0 4 rfl rfl ?_) | (refine hS.hd 4 rfl rfl ?_) | (refine hS.hd0 5 rfl rfl ?_) | (refine hS.hd 5 rfl rfl ?_) | (refine hS.hdd 0 rfl rfl ?_) | (refine hS.hdd 1 rfl rfl ?_) | (refine hS.hdd 2 rfl rfl ?_) | (refine hS.hdd 3 rfl rfl ?_) | (refine hS.hdd 4 rfl rfl ?_) | (refine hS.hdd 5 rfl rfl ?_) | (refine hS.st0 0 rfl rfl rfl ?_; clear hS; intro _ hS) | (refine hS.st 0 rfl rfl rfl ?_; clear hS; intro _ hS) | (refine hS.st0 1 rfl rfl rfl ?_; clear hS; intro _ hS) | (refine hS.st 1 rfl rfl rfl ?_; clear hS; intro _ hS) | (refine hS.st0 2 rfl rfl rfl ?_; clear hS; intro _ hS) | (refine hS.st 2 rfl rfl rfl ?_; clear hS; intro _ hS) | (refine hS.st0 3 rfl rfl rfl ?_; clear hS; intro _ hS) | (refine hS.st 3 rfl rfl rfl ?_; clear hS; intro _ hS) | (refine hS.st0 4 rfl rfl rfl ?_; clear hS; intro _ hS) | (refine hS.st 4 rfl rfl rfl ?_; clear hS; intro _ hS) | (refine hS.st0 5 rfl rfl rfl ?_; clear hS; intro _ hS) | (refine hS.st 5 rfl rfl rfl ?_; clear hS; intro _ hS) | (refine hS.std 0 rfl rfl rfl ?_; clear hS; intro _ hS) | (refine hS.std 1 rfl rfl rfl ?_; clear hS; intro _ hS) | (refine hS.std 2 rfl rfl rfl ?_; clear hS; intro _ hS) | (refine hS.std 3 rfl rfl rfl ?_; clear hS; intro _ hS) | (refine hS.std 4 rfl rfl rfl ?_; clear hS; intro _ hS) | (refine hS.std 5 rfl rfl rfl ?_; clear hS; intro _ hS) | (refine bnd_mk (by decide) (by decide) ?_) | (refine so_i rfl ?_))
      refine cond_split (fun h => hJ _ _ ⟨?_, hS⟩) (fun h => ?_)
      · have h3 := of_decide_eq_true h
        unfold Ent.boxOk
        rw [h1, h2, h, decide_eq_false (show ¬ 1 ≤ e.r by omega)]; rfl
      have h3 := of_decide_eq_false h
      repeat (first | (refine dr_i ?_) | (refine asI_i rfl ?_) | (refine asB_i rfl ?_) | (refine asP_i rfl ?_) | (refine asS_i rfl ?_) | (refine asY_i rfl ?_) | (refine asM_i rfl ?_) | (refine asA_i rfl rfl ?_) | (refine asT_i rfl rfl ?_) | (refine lv_i ?_) | (refine St.nw hS ?_; clear hS; intro _ _ hS) | (refine St.dw hS ?_; clear hS; intro _ hS _) | (refine hS.ld0 0 rfl rfl ?_) | (refine hS.ld 0 rfl rfl ?_) | (refine hS.ld0 1 rfl rfl ?_) | (refine hS.ld 1 rfl rfl ?_) | (refine hS.ld0 2 rfl rfl ?_) | (refine hS.ld 2 rfl rfl ?_) | (refine hS.ld0 3 rfl rfl ?_) | (refine hS.ld 3 rfl rfl ?_) | (refine hS.ld0 4 rfl rfl ?_) | (refine hS.ld 4 rfl rfl ?_) | (refine hS.ld0 5 rfl rfl ?_) | (refine hS.ld 5 rfl rfl ?_) | (refine hS.ldd 0 rfl rfl ?_) | (refine hS.ldd 1 rfl rfl ?_) | (refine hS.ldd 2 rfl rfl ?_) | (refine hS.ldd 3 rfl rfl ?_) | (refine hS.ldd 4 rfl rfl ?_) | (refine hS.ldd 5 rfl rfl ?_) | (refine hS.hd0 0 rfl rfl ?_) | (refine hS.hd 0 rfl rfl ?_) | (refine hS.hd0 1 rfl rfl ?_) | (refine hS.hd 1 rfl rfl ?_) | (refine hS.hd0 2 rfl rfl ?_) | (refine hS.hd 2 rfl rfl ?_) | (refine hS.hd0 3 rfl rfl ?_) | (refine hS.hd 3 rfl rfl ?_) | (refine hS.hd0 4 rfl rfl ?_) | (refine hS.hd 4 rfl rfl ?_) | (refine hS.hd0 5 rfl rfl ?_) | (refine hS.hd 5 rfl rfl ?_) | (refine hS.hdd 0 rfl rfl ?_) | (refine hS.hdd 1 rfl rfl ?_) | (refine hS.hdd 2 rfl rfl ?_) | (refine hS.hdd 3 rfl rfl ?_) | (refine hS.hdd 4 rfl rfl ?_) | (refine hS.hdd 5 rfl rfl ?_) | (refine hS.st0 0 rfl rfl rfl ?_; clear hS; intro _ hS) | (refine hS.st 0 rfl rfl rfl ?_; clear hS; intro _ hS) | (refine hS.st0 1 rfl rfl rfl ?_; clear hS; intro _ hS) | (refine hS.st 1 rfl rfl rfl ?_; clear hS; intro _ hS) | (refine hS.st0 2 rfl rfl rfl ?_; clear hS; intro _ hS) | (refine hS.st 2 rfl rfl rfl ?_; clear hS; intro _ hS) | (refine hS.st0 3 rfl rfl rfl ?_; clear hS; intro _ hS) | (refine hS.st 3 rfl rfl rfl ?_; clear hS; intro _ hS) | (refine hS.st0 4 rfl rfl rfl ?_; clear hS; intro _ hS) | (refine hS.st 4 rfl rfl rfl ?_; clear hS; intro _ hS) | (refine hS.st0 5 rfl rfl rfl ?_; clear hS; intro _ hS) | (refine hS.st 5 rfl rfl rfl ?_; clear hS; intro _ hS) | (refine hS.std 0 rfl rfl rfl ?_; clear hS; intro _ hS) | (refine hS.std 1 rfl rfl rfl ?_; clear hS; intro _ hS) | (refine hS.std 2 rfl rfl rfl ?_; clear hS; intro _ hS) | (refine hS.std 3 rfl rfl rfl ?_; clear hS; intro _ hS) | (refine hS.std 4 rfl rfl rfl ?_; clear hS; intro _ hS) | (refine hS.std 5 rfl rfl rfl ?_; clear hS; intro _ hS) | (refine bnd_mk (by decide) (by decide) ?_) | (refine so_i rfl ?_))
      refine hJ _ _ ⟨?_, hS⟩
      unfold Ent.boxOk
      rw [h1, h2, decide_eq_true (show 1 ≤ e.r by omega)]
      congr 2
      simp only [Bool.true_and]
      by_cases h4 : e.r ≤ 17179869184
      · rw [decide_eq_true h4, decide_eq_false (by omega)]; rfl
      · rw [decide_eq_false h4, decide_eq_true (by omega)]; rfl
  · intro J hJ
    repeat' (first | (refine dr_i ?_) | (refine asI_i rfl ?_) | (refine asB_i rfl ?_) | (refine asP_i rfl ?_) | (refine asS_i rfl ?_) | (refine asY_i rfl ?_) | (refine asM_i rfl ?_) | (refine asA_i rfl rfl ?_) | (refine asT_i rfl rfl ?_) | (refine lv_i ?_) | (refine St.nw hS ?_; clear hS; intro _ _ hS) | (refine St.dw hS ?_; clear hS; intro _ hS _) | (refine hS.ld0 0 rfl rfl ?_) | (refine hS.ld 0 rfl rfl ?_) | (refine hS.ld0 1 rfl rfl ?_) | (refine hS.ld 1 rfl rfl ?_) | (refine hS.ld0 2 rfl rfl ?_) | (refine hS.ld 2 rfl rfl ?_) | (refine hS.ld0 3 rfl rfl ?_) | (refine hS.ld 3 rfl rfl ?_) | (refine hS.ld0 4 rfl rfl ?_) | (refine hS.ld 4 rfl rfl ?_) | (refine hS.ld0 5 rfl rfl ?_) | (refine hS.ld 5 rfl rfl ?_) | (refine hS.ldd 0 rfl rfl ?_) | (refine hS.ldd 1 rfl rfl ?_) | (refine hS.ldd 2 rfl rfl ?_) | (refine hS.ldd 3 rfl rfl ?_) | (refine hS.ldd 4 rfl rfl ?_) | (refine hS.ldd 5 rfl rfl ?_) | (refine hS.hd0 0 rfl rfl ?_) | (refine hS.hd 0 rfl rfl ?_) | (refine hS.hd0 1 rfl rfl ?_) | (refine hS.hd 1 rfl rfl ?_) | (refine hS.hd0 2 rfl rfl ?_) | (refine hS.hd 2 rfl rfl ?_) | (refine hS.hd0 3 rfl rfl ?_) | (refine hS.hd 3 rfl rfl ?_) | (refine hS.hd0 4 rfl rfl ?_) | (refine hS.hd 4 rfl rfl ?_) | (refine hS.hd0 5 rfl rfl ?_) | (refine hS.hd 5 rfl rfl ?_) | (refine hS.hdd 0 rfl rfl ?_) | (refine hS.hdd 1 rfl rfl ?_) | (refine hS.hdd 2 rfl rfl ?_) | (refine hS.hdd 3 rfl rfl ?_) | (refine hS.hdd 4 rfl rfl ?_) | (refine hS.hdd 5 rfl rfl ?_) | (refine hS.st0 0 rfl rfl rfl ?_; clear hS; intro _ hS) | (refine hS.st 0 rfl rfl rfl ?_; clear hS; intro _ hS) | (refine hS.st0 1 rfl rfl rfl ?_; clear hS; intro _ hS) | (refine hS.st 1 rfl rfl rfl ?_; clear hS; intro _ hS) | (refine hS.st0 2 rfl rfl rfl ?_; clear hS; intro _ hS) | (refine hS.st 2 rfl rfl rfl ?_; clear hS; intro _ hS) | (refine hS.st0 3 rfl rfl rfl ?_; clear hS; intro _ hS) | (refine hS.st 3 rfl rfl rfl ?_; clear hS; intro _ hS) | (refine hS.st0 4 rfl rfl rfl ?_; clear hS; intro _ hS) | (refine hS.st 4 rfl rfl rfl ?_; clear hS; intro _ hS) | (refine hS.st0 5 rfl rfl rfl ?_; clear hS; intro _ hS) | (refine hS.st 5 rfl rfl rfl ?_; clear hS; intro _ hS) | (refine hS.std 0 rfl rfl rfl ?_; clear hS; intro _ hS) | (refine hS.std 1 rfl rfl rfl ?_; clear hS; intro _ hS) | (refine hS.std 2 rfl rfl rfl ?_; clear hS; intro _ hS) | (refine hS.std 3 rfl rfl rfl ?_; clear hS; intro _ hS) | (refine hS.std 4 rfl rfl rfl ?_; clear hS; intro _ hS) | (refine hS.std 5 rfl rfl rfl ?_; clear hS; intro _ hS) | (refine bnd_mk (by decide) (by decide) ?_) | (refine so_i rfl ?_) | (refine And.intro ?_ ?_))
    all_goals first | exact hJ _ _ ⟨_, _, rfl, hS⟩ | exact hJ _ _ ⟨_, _, rfl, hS.swap⟩
end Go.Proofs.YtamobmjfdiecbaaDoor

/- WoD: a world as a thing in memory: its places are read and written; New and at. Conditions: those of each theorem, on its arguments. -/
namespace Go.Proofs.YtamobmjfdiecbaaDoor
open Go Go.Sx Go.Fp
attribute [local irreducible] jn lv ld st nw asI asB asP asS asY asM asF asA asT lp rn ru rq cl dw dr bnd bn2 nz nn hd hr so eqW
attribute [local irreducible] callOk

structure Spot where
  gen : Int
  there : Bool
  e : Ent

def Ent.zero : Ent := ⟨0, 0, 0, 0, 0, 0, 0, 0⟩
def Spot.zero : Spot := ⟨0, false, Ent.zero⟩
def Spot.cells (s : Spot) : List Value := [.int .i64 s.gen, .bool s.there] ++ s.e.cells
theorem Spot.cells_length (s : Spot) : s.cells.length = 10 := rfl
def wc (g : Nat) (S : List Spot) : List Value := .pointer (some ⟨g, 0, none⟩) :: S.flatMap Spot.cells

theorem wc_length (g : Nat) (S : List Spot) : (wc g S).length = 1 + S.length * 10 := by
  unfold wc
  rw [List.length_cons, fl_lenN (f := Spot.cells) Spot.cells_length]
  omega

theorem wc_get {g : Nat} {S : List Spot} {i : Nat} {s : Spot} (hi : S[i]? = some s) {k : Nat} (hk : k < 10) : (wc g S)[1 + (i * 10 + k)]? = s.cells[k]? := by
  unfold wc
  rw [Nat.add_comm 1, List.getElem?_cons_succ]
  exact fl_getN (f := Spot.cells) Spot.cells_length hi k hk

theorem fl_setN {α : Type} {f : α → List Value} {n : Nat} (hf : ∀ x, (f x).length = n) : ∀ {l : List α} {i : Nat} {x y : α} {k : Nat} {v : Value}, l[i]? = some x → k < n → (f x).set k v = f y → (l.flatMap f).set (i * n + k) v = (l.set i y).flatMap f
  | [], _, _, _, _, _, h, _, _ => by simp at h
  | z :: l, 0, x, y, k, v, h, hk, hs => by
    simp only [List.getElem?_cons_zero, Option.some.injEq] at h
    subst h
    rw [List.flatMap_cons, Nat.zero_mul, Nat.zero_add, List.set_append_left _ _ (by rw [hf]; exact hk), hs]
    simp
  | z :: l, i + 1, x, y, k, v, h, hk, hs => by
    rw [List.flatMap_cons, List.set_append_right _ _ (by rw [hf, Nat.add_mul]; omega), hf]
    have e : (i + 1) * n + k - n = i * n + k := by rw [Nat.add_mul]; omega
    rw [e, fl_setN hf (by simpa using h) hk hs]
    simp

theorem wc_set {g : Nat} {S : List Spot} {i : Nat} {s s' : Spot} (hi : S[i]? = some s) {k : Nat} (hk : k < 10) {v : Value} (hs : s.cells.set k v = s'.cells) : (wc g S).set (1 + (i * 10 + k)) v = wc g (S.set i s') := by
  unfold wc
  rw [Nat.add_comm 1, List.set_cons_succ, fl_setN (f := Spot.cells) Spot.cells_length hi hk hs]

/-- the block of a world -/
structure WS (w : World) (r g : Nat) (S : List Spot) : Prop where
  blk : w.heap[r]? = some (.cells (wc g S).toArray 70 (0, 0))
  len : S.length = 64

theorem WS.ext {w w' : World} {M : Nat → Prop} {r g : Nat} {S : List Spot} (h : WS w r g S) (hx : Ext M w w') (hm : ¬ M r) : WS w' r g S := ⟨hx.blk h.blk hm, h.len⟩
theorem WS.cell0 {w : World} {r g : Nat} {S : List Spot} (h : WS w r g S) : w.cell? ⟨r, 0, none⟩ = some (.pointer (some ⟨g, 0, none⟩)) := by rw [blk_cell h.blk]; rfl
theorem WS.cell {w : World} {r g : Nat} {S : List Spot} (h : WS w r g S) {i : Nat} {s : Spot} (hi : S[i]? = some s) {k : Nat} {v : Value} (hv : s.cells[k]? = some v) : w.cell? ⟨r, 1 + (i * 10 + k), none⟩ = some v := by
  have hk : k < 10 := by
    have := (List.getElem?_eq_some_iff.1 hv).1
    simpa [Spot.cells_length] using this
  rw [blk_cell h.blk]
  have := wc_get (g := g) hi hk
  simpa [this] using hv

/-- one write to a place -/
theorem WS.st {w : World} {r g : Nat} {S : List Spot} (h : WS w r g S) {i : Nat} {s : Spot} (s' : Spot) (hi : S[i]? = some s) {k : Nat} (hk : k < 10) {v : Value} (hs : s.cells.set k v = s'.cells) (h1 : Sx.one v = true) {K : World → Prop}
    (hK : ∀ w', WS w' r g (S.set i s') → Ext (onl r) w w' → w'.heap.size = w.heap.size → K w') : Sx.st w ⟨r, 1 + (i * 10 + k), none⟩ v K := by
  have hil := (List.getElem?_eq_some_iff.1 hi).1
  have hlen := wc_length g S
  have hsz : 1 + (i * 10 + k) < (wc g S).toArray.size := by
    simp only [List.size_toArray, hlen]
    omega
  refine st_mk h.blk hsz h1 (hK _ ⟨?_, by simpa using h.len⟩ (Ext.set w ⟨r, 1 + (i * 10 + k), none⟩ v) (by simp [World.setCell]))
  rw [blk_set h.blk]
  have : (wc g S).toArray.setIfInBounds (1 + (i * 10 + k)) v = (wc g (S.set i s')).toArray := by
    rw [← wc_set hi hk hs]
    simp
  rw [this]

theorem asI8 {e : Ent} {P : (Nat → Value) → Prop} (h : P fun i => e.cells.getD i undef) : asA 8 e.v P := asA_i (l := e.cells) rfl rfl h

/-- an entity that is read, cell by cell -/
theorem ld8 {w : World} {A : Addr} {e : Ent} (h0 : w.cell? A = some (.int .i64 e.h)) (h1 : w.cell? (Addr.add A 1) = some (.int .i64 e.x)) (h2 : w.cell? (Addr.add A 2) = some (.int .i64 e.y)) (h3 : w.cell? (Addr.add A 3) = some (.int .i64 e.r))
    (h4 : w.cell? (Addr.add A 4) = some (.int .i64 e.vx)) (h5 : w.cell? (Addr.add A 5) = some (.int .i64 e.vy)) (h6 : w.cell? (Addr.add A 6) = some (.int .i64 e.o)) (h7 : w.cell? (Addr.add A 7) = some (.int .i64 e.t))
    {K : Int → Int → Int → Int → Int → Int → Int → Int → Prop} (hK : K e.h e.x e.y e.r e.vx e.vy e.o e.t) :
    ld w A fun v1 => asI .i64 v1 fun x0 => ld w (Addr.add A 1) fun v2 => asI .i64 v2 fun x1 => ld w (Addr.add A 2) fun v3 => asI .i64 v3 fun x2 => ld w (Addr.add A 3) fun v4 => asI .i64 v4 fun x3 =>
      ld w (Addr.add A 4) fun v5 => asI .i64 v5 fun x4 => ld w (Addr.add A 5) fun v6 => asI .i64 v6 fun x5 => ld w (Addr.add A 6) fun v7 => asI .i64 v7 fun x6 => ld w (Addr.add A 7) fun v8 => asI .i64 v8 fun x7 => K x0 x1 x2 x3 x4 x5 x6 x7 :=
  ld_mk h0 (asI_i rfl (ld_mk h1 (asI_i rfl (ld_mk h2 (asI_i rfl (ld_mk h3 (asI_i rfl (ld_mk h4 (asI_i rfl (ld_mk h5 (asI_i rfl (ld_mk h6 (asI_i rfl (ld_mk h7 (asI_i rfl hK)))))))))))))))

theorem ld8b {w : World} {b o : Nat} {cs : Array Value} {t : TypeId} {fr : Nat × Nat} {e : Ent} (hb : w.heap[b]? = some (.cells cs t fr)) (hc : ∀ k, k < 8 → cs[o + k]? = e.cells[k]?)
    {K : Int → Int → Int → Int → Int → Int → Int → Int → Prop} (hK : K e.h e.x e.y e.r e.vx e.vy e.o e.t) {A : Addr} (hA : A = ⟨b, o, none⟩) :
    ld w A fun v1 => asI .i64 v1 fun x0 => ld w (Addr.add A 1) fun v2 => asI .i64 v2 fun x1 => ld w (Addr.add A 2) fun v3 => asI .i64 v3 fun x2 => ld w (Addr.add A 3) fun v4 => asI .i64 v4 fun x3 =>
      ld w (Addr.add A 4) fun v5 => asI .i64 v5 fun x4 => ld w (Addr.add A 5) fun v6 => asI .i64 v6 fun x5 => ld w (Addr.add A 6) fun v7 => asI .i64 v7 fun x6 => ld w (Addr.add A 7) fun v8 => asI .i64 v8 fun x7 => K x0 x1 x2 x3 x4 x5 x6 x7 := by
  subst hA
  have key : ∀ k, k < 8 → w.cell? (Addr.add ⟨b, o, none⟩ k) = e.cells[k]? := fun k hk => by rw [add_mk, blk_cell hb, hc k hk]
  exact ld8 (by have := key 0 (by decide); rwa [Sx.add_zero'] at this) (key 1 (by decide)) (key 2 (by decide)) (key 3 (by decide)) (key 4 (by decide)) (key 5 (by decide)) (key 6 (by decide)) (key 7 (by decide)) hK

/-- an entity that is written to a place, cell by cell -/
theorem WS.st8 {w : World} {r g : Nat} {S : List Spot} (h : WS w r g S) {i : Nat} {s : Spot} (hi : S[i]? = some s) (e : Ent) {A : Addr} (hA : A = ⟨r, 1 + (i * 10 + 2), none⟩) {K : World → Prop}
    (hK : ∀ w', WS w' r g (S.set i ⟨s.gen, s.there, e⟩) → Ext (onl r) w w' → w'.heap.size = w.heap.size → K w') :
    Sx.st w A (.int .i64 e.h) fun w1 => Sx.st w1 (Addr.add A 1) (.int .i64 e.x) fun w2 => Sx.st w2 (Addr.add A 2) (.int .i64 e.y) fun w3 => Sx.st w3 (Addr.add A 3) (.int .i64 e.r) fun w4 =>
      Sx.st w4 (Addr.add A 4) (.int .i64 e.vx) fun w5 => Sx.st w5 (Addr.add A 5) (.int .i64 e.vy) fun w6 => Sx.st w6 (Addr.add A 6) (.int .i64 e.o) fun w7 => Sx.st w7 (Addr.add A 7) (.int .i64 e.t) fun w8 => K w8 := by
  subst hA
  have hil := (List.getElem?_eq_some_iff.1 hi).1
  have ea : ∀ k, Addr.add ⟨r, 1 + (i * 10 + 2), none⟩ k = ⟨r, 1 + (i * 10 + (2 + k)), none⟩ := fun k => by rw [add_mk]; congr 1; omega
  simp only [ea, Nat.reduceAdd]
  refine h.st ⟨s.gen, s.there, { s.e with h := e.h }⟩ hi (by decide) rfl rfl fun w1 h1 x1 z1 => ?_
  have g1 : ∀ q : Spot, (S.set i q)[i]? = some q := fun q => List.getElem?_set_self hil
  refine h1.st ⟨s.gen, s.there, { s.e with h := e.h, x := e.x }⟩ (g1 _) (by decide) rfl rfl fun w2 h2 x2 z2 => ?_
  rw [List.set_set] at h2
  refine h2.st ⟨s.gen, s.there, { s.e with h := e.h, x := e.x, y := e.y }⟩ (g1 _) (by decide) rfl rfl fun w3 h3 x3 z3 => ?_
  rw [List.set_set] at h3
  refine h3.st ⟨s.gen, s.there, { s.e with h := e.h, x := e.x, y := e.y, r := e.r }⟩ (g1 _) (by decide) rfl rfl fun w4 h4 x4 z4 => ?_
  rw [List.set_set] at h4
  refine h4.st ⟨s.gen, s.there, { s.e with h := e.h, x := e.x, y := e.y, r := e.r, vx := e.vx }⟩ (g1 _) (by decide) rfl rfl fun w5 h5 x5 z5 => ?_
  rw [List.set_set] at h5
  refine h5.st ⟨s.gen, s.there, { s.e with h := e.h, x := e.x, y := e.y, r := e.r, vx := e.vx, vy := e.vy }⟩ (g1 _) (by decide) rfl rfl fun w6 h6 x6 z6 => ?_
  rw [List.set_set] at h6
  refine h6.st ⟨s.gen, s.there, { s.e with h := e.h, x := e.x, y := e.y, r := e.r, vx := e.vx, vy := e.vy, o := e.o }⟩ (g1 _) (by decide) rfl rfl fun w7 h7 x7 z7 => ?_
  rw [List.set_set] at h7
  refine h7.st ⟨s.gen, s.there, e⟩ (g1 _) (by decide) rfl rfl fun w8 h8 x8 z8 => ?_
  rw [List.set_set] at h8
  exact hK w8 h8 (((((((x1.trans x2).trans x3).trans x4).trans x5).trans x6).trans x7).trans x8) (by omega)

/-! ### the world -/
def wside : Int := 34359738368
structure Wd (w : World) (F : Nat → Prop) (r g : Nat) (S : List Spot) (B : List (Int × Bx)) (D : List ((Int × Int) × List Int)) (N : Nat) : Prop where
  ws : WS w r g S
  gr : ∃ mb mc C bb kb bc kc, Gr w F g mb mc wside B C bb kb bc kc ∧ pl C = D
  nr : ¬ F r
  bd : ∀ x, ((aget D x).getD []).length ≤ N
  gen : ∀ s ∈ S, 0 ≤ s.gen ∧ s.gen ≤ 1099511627776

theorem Wd.ext {w w' : World} {F M : Nat → Prop} {r g : Nat} {S : List Spot} {B : List (Int × Bx)} {D : List ((Int × Int) × List Int)} {N : Nat} (h : Wd w F r g S B D N) (hx : Ext M w w') (hm : ∀ k, (F k ∨ k = r) → ¬ M k) : Wd w' F r g S B D N := by
  obtain ⟨mb, mc, C, bb, kb, bc, kc, hg, hp⟩ := h.gr
  exact ⟨h.ws.ext hx (hm _ (.inr rfl)), ⟨mb, mc, C, bb, kb, bc, kc, hg.ext hx fun k hk => hm _ (.inl hk), hp⟩, h.nr, h.bd, h.gen⟩

theorem Wd.mono {w : World} {F : Nat → Prop} {r g : Nat} {S : List Spot} {B : List (Int × Bx)} {D : List ((Int × Int) × List Int)} {N N' : Nat} (h : Wd w F r g S B D N) (hN : N ≤ N') : Wd w F r g S B D N' :=
  ⟨h.ws, h.gr, h.nr, fun x => Nat.le_trans (h.bd x) hN, h.gen⟩

theorem Wd.r_lt {w : World} {F : Nat → Prop} {r g : Nat} {S : List Spot} {B : List (Int × Bx)} {D : List ((Int × Int) × List Int)} {N : Nat} (h : Wd w F r g S B D N) : r < w.heap.size := blk_lt h.ws.blk
theorem Wd.f_lt {w : World} {F : Nat → Prop} {r g : Nat} {S : List Spot} {B : List (Int × Bx)} {D : List ((Int × Int) × List Int)} {N : Nat} (h : Wd w F r g S B D N) : ∀ k, F k → k < w.heap.size := by
  obtain ⟨mb, mc, C, bb, kb, bc, kc, hg, hp⟩ := h.gr
  exact hg.lt

set_option maxRecDepth 100000 in
theorem wnew_k {w : World} {K : Value → World → Prop} (hK : ∀ w' F r g, Wd w' F r g (List.replicate 64 Spot.zero) [] [] 0 → Ext no w w' → (∀ k, F k → w.heap.size ≤ k) → w.heap.size ≤ r → K (.pointer (some ⟨r, 0, none⟩)) w') :
    cl Tryd.prog 21 #[] w K := by
  apply F21_calls
  unfold F21
  refine gnew_k (fun h => absurd h (by decide)) ?_
  intro w1 F g mb mc _ hg hx1 hF
  refine asT_i rfl rfl (asP_i rfl (asI_i rfl (lv_i (nw_mk ?_))))
  have hx2 := Ext.alloc w1 (.cells (wc g (List.replicate 64 Spot.zero)).toArray 70)
  refine hK _ F w1.heap.size g ⟨⟨new_blk w1 _, by simp⟩, ⟨mb, mc, [], [], 0, [], 0, hg.ext hx2 fun _ _ h => h, rfl⟩, fun hf => ?_, fun x => by simp [aget_nil], ?_⟩ (hx1.trans hx2) hF hx1.size
  · have := hg.lt _ hf
    omega
  · intro s hs
    rw [List.eq_of_mem_replicate hs]
    simp [Spot.zero]

/-- where the entity of a handle stands -/
def atI (S : List Spot) (h : Int) : Option Nat :=
  if h < 64 then none else match S[h.toNat % 64]? with
    | some s => if s.there = true ∧ s.e.h = h then some (h.toNat % 64) else none
    | none => none

theorem at_k {w : World} {r g : Nat} {S : List Spot} (hw : WS w r g S) {h : Int} {K : Value → World → Prop}
    (hnone : atI S h = none → K (.pointer none) w) (hsome : ∀ i s, atI S h = some i → h = h.toNat → i = h.toNat % 64 → S[i]? = some s → s.there = true → s.e.h = h → K (.pointer (some ⟨r, 1 + i * 10, none⟩)) w) :
    cl Tryd.prog 30 #[.pointer (some ⟨r, 0, none⟩), .int .i64 h] w K := by
  apply F30_calls
  unfold F30
  refine cond_split (fun hc => hnone ?_) (fun hc => ?_)
  · unfold atI
    rw [if_pos (of_decide_eq_true hc)]
  have h64 : ¬ h < 64 := of_decide_eq_false hc
  obtain ⟨n, rfl⟩ : ∃ n : Nat, h = (n : Int) := ⟨h.toNat, by omega⟩
  have em : Int.tmod (n : Int) 64 = ((n % 64 : Nat) : Int) := rfl
  have hlt : n % 64 < S.length := by rw [hw.len]; exact Nat.mod_lt _ (by decide)
  have hi : S[n % 64]? = some S[n % 64] := List.getElem?_eq_getElem hlt
  generalize S[n % 64] = s at hi
  rw [em]
  refine dr_i (bnd_mk (by omega) (by omega) ?_)
  simp only [add_mk, Int.toNat_natCast, Nat.zero_add, Nat.add_assoc]
  have hat : atI S n = if s.there = true ∧ s.e.h = n then some (n % 64) else none := by
    unfold atI
    rw [if_neg h64]
    simp only [Int.toNat_natCast, hi]
  refine jn_of (fun t w' => t = [.bool (decide (s.there = true ∧ s.e.h = n))] ∧ w = w') ?_ ?_
  · rintro _ _ ⟨rfl, rfl⟩
    refine asB_i rfl (cond_split (fun hb => ?_) (fun hb => hnone ?_))
    · have hb' := of_decide_eq_true hb
      refine hsome (n % 64) s ?_ (by simp) (by simp) hi hb'.1 hb'.2
      rw [hat, if_pos hb']
    · rw [hat, if_neg (of_decide_eq_false hb)]
  · intro J hJ
    have c1 : w.cell? ⟨r, 1 + (n % 64 * 10 + 1), none⟩ = some (.bool s.there) := hw.cell hi rfl
    have c2 : w.cell? ⟨r, 1 + (n % 64 * 10 + 2), none⟩ = some (.int .i64 s.e.h) := hw.cell hi rfl
    refine ld_mk c1 (asB_i rfl (cond_split (fun hb => ld_mk c2 (asI_i rfl (hJ _ _ ⟨?_, rfl⟩))) (fun hb => hJ _ _ ⟨?_, rfl⟩)))
    · congr 2
      rw [hb, Bool.eq_iff_iff]
      simp
    · congr 2
      rw [hb]
      simp
end Go.Proofs.YtamobmjfdiecbaaDoor

/- WoE: what a world's calls Spawn, Kill, Get, Set, List do, as contracts over lists of places. Conditions: those of each theorem, on its arguments. -/
namespace Go.Proofs.YtamobmjfdiecbaaDoor
open Go Go.Sx Go.Fp
attribute [local irreducible] jn lv ld st nw asI asB asP asS asY asM asF asA asT lp rn ru rq cl dw dr bnd bn2 nz nn hd hr so eqW
attribute [local irreducible] callOk

def free (s : Spot) : Bool := !s.there && !(s.gen == 1099511627776)
/-- the first place that is free -/
def IsFree (S : List Spot) (i : Nat) (s : Spot) : Prop := S[i]? = some s ∧ free s = true ∧ ∀ j s', j < i → S[j]? = some s' → free s' = false
def spn (s : Spot) (i : Nat) (e : Ent) : Spot := ⟨s.gen + 1, true, { e with h := (s.gen + 1) * 64 + (i : Int) }⟩

theorem putL_len {l : List (Int × Int)} {id : Int} : ∀ {D : List ((Int × Int) × List Int)} (x : Int × Int), ((aget (putL D l id) x).getD []).length ≤ ((aget D x).getD []).length + l.length := by
  induction l with
  | nil => intro D x; exact Nat.le_refl _
  | cons c l ih =>
    intro D x
    have h1 := ih (D := addTo D c id) x
    have h2 := addTo_len (D := D) (c := c) (id := id) x
    have e : putL D (c :: l) id = putL (addTo D c id) l id := rfl
    rw [e, List.length_cons]
    omega

def wF (F : Nat → Prop) (r : Nat) : Nat → Prop := fun k => F k ∨ k = r

theorem Wd.nd {w : World} {F : Nat → Prop} {r g : Nat} {S : List Spot} {B : List (Int × Bx)} {D : List ((Int × Int) × List Int)} {N : Nat} (h : Wd w F r g S B D N) : (D.map (·.1)).Nodup := by
  obtain ⟨mb, mc, C, bb, kb, bc, kc, hg, hp⟩ := h.gr
  rw [← hp]
  exact pl_nd hg.nd

theorem spawn_k {w : World} {F : Nat → Prop} {r g : Nat} {S : List Spot} {B : List (Int × Bx)} {D : List ((Int × Int) × List Int)} {N : Nat} (h : Wd w F r g S B D N) (hN : N ≤ 549755813888) {e : Ent} {K : Value → World → Prop}
    (hbad : ∀ w', Ext no w w' → e.rightE ≠ 0 → K (.tuple #[.int .i64 0, .int .i64 e.rightE]) w')
    (hfull : ∀ w', Ext no w w' → e.rightE = 0 → (∀ (j : Nat) s, S[j]? = some s → free s = false) → K (.tuple #[.int .i64 0, .int .i64 2]) w')
    (hok : ∀ w' F' i s, e.rightE = 0 → IsFree S i s → Wd w' F' r g (S.set i (spn s i e)) (gputB wside B i e.box) (gputD wside B D i e.box) (N + 1024) → Ext (wF F r) w w' → (∀ k, F' k → F k ∨ w.heap.size ≤ k) → (∀ k, F k → F' k) →
      K (.tuple #[.int .i64 ((s.gen + 1) * 64 + (i : Int)), .int .i64 0]) w') :
    cl Tryd.prog 22 #[.pointer (some ⟨r, 0, none⟩), e.v] w K := by
  apply F22_calls
  unfold F22
  have hS := St.start w
  (refine St.nw hS ?_; clear hS; intro r1 _ hS)
  refine lv_i (lv_i ?_)
  repeat (first | (refine asI_i rfl ?_) | (refine asB_i rfl ?_) | (refine asP_i rfl ?_) | (refine asS_i rfl ?_) | (refine asY_i rfl ?_) | (refine asM_i rfl ?_) | (refine asA_i rfl rfl ?_) | (refine asT_i rfl rfl ?_) | (refine lv_i ?_) | (refine St.nw hS ?_; clear hS; intro _ _ hS) | (refine St.dw hS ?_; clear hS; intro _ hS _) | (refine hS.ld0 0 rfl rfl ?_) | (refine hS.ld 0 rfl rfl ?_) | (refine hS.ld0 1 rfl rfl ?_) | (refine hS.ld 1 rfl rfl ?_) | (refine hS.ld0 2 rfl rfl ?_) | (refine hS.ld 2 rfl rfl ?_) | (refine hS.ld0 3 rfl rfl ?_) | (refine hS.ld 3 rfl rfl ?_) | (refine hS.ld0 4 rfl rfl ?_) | (refine hS.ld 4 rfl rfl ?_) | (refine hS.ld0 5 rfl rfl ?_) | (refine hS.ld 5 rfl rfl ?_) | (refine hS.ld0 6 rfl rfl ?_) | (refine hS.ld 6 rfl rfl ?_) | (refine hS.ld0 7 rfl rfl ?_) | (refine hS.ld 7 rfl rfl ?_) | (refine hS.hd0 0 rfl rfl ?_) | (refine hS.hd 0 rfl rfl ?_) | (refine hS.hd0 1 rfl rfl ?_) | (refine hS.hd 1 rfl rfl ?_) | (refine hS.hd0 2 rfl rfl ?_) | (refine hS.hd 2 rfl rfl ?_) | (refine hS.hd0 3 rfl rfl ?_) | (refine hS.hd 3 rfl rfl ?_) | (refine hS.hd0 4 rfl rfl ?_) | (refine hS.hd 4 rfl rfl ?_) | (refine hS.hd0 5 rfl rfl ?_) | (refine hS.hd 5 rfl rfl ?_) | (refine hS.hd0 6 rfl rfl ?_) | (refine hS.hd 6 rfl rfl ?_) | (refine hS.hd0 7 rfl rfl ?_) | (refine hS.hd 7 rfl rfl ?_) | (refine hS.st0 0 rfl rfl rfl ?_; clear hS; intro _ hS) | (refine hS.st 0 rfl rfl rfl ?_; clear hS; intro _ hS) | (refine hS.st0 1 rfl rfl rfl ?_; clear hS; intro _ hS) | (refine hS.st 1 rfl rfl rfl ?_; clear hS; intro _ hS) | (refine hS.st0 2 rfl rfl rfl ?_; clear hS; intro _ hS) | (refine hS.st 2 rfl rfl rfl ?_; clear hS; intro _ hS) | (refine hS.st0 3 rfl rfl rfl ?_; clear hS; intro _ hS) | (refine hS.st 3 rfl rfl rfl ?_; clear hS; intro _ hS) | (refine hS.st0 4 rfl rfl rfl ?_; clear hS; intro _ hS) | (refine hS.st 4 rfl rfl rfl ?_; clear hS; intro _ hS) | (refine hS.st0 5 rfl rfl rfl ?_; clear hS; intro _ hS) | (refine hS.st 5 rfl rfl rfl ?_; clear hS; intro _ hS) | (refine hS.st0 6 rfl rfl rfl ?_; clear hS; intro _ hS) | (refine hS.st 6 rfl rfl rfl ?_; clear hS; intro _ hS) | (refine hS.st0 7 rfl rfl rfl ?_; clear hS; intro _ hS) | (refine hS.st 7 rfl rfl rfl ?_; clear hS; intro _ hS) | (refine bnd_mk (by decide) (by decide) ?_) | (refine so_i rfl ?_))
  show cl Tryd.prog 37 #[e.v] _ _
  refine eright_k ?_
  intro w1 hx1
  replace hS := hS.to hx1
  clear hx1
  refine asI_i rfl (lv_i (cond_split (fun h0 => ?_) (fun h0 => ?_)))
  · exact lv_i (lv_i (hbad _ hS.ext (by simpa using h0)))
  have hE : e.rightE = 0 := by simpa using h0
  have hr1 : r < w.heap.size := h.r_lt
  refine lp_mk (fun i : Nat => [.int .i64 (i : Int)]) (fun m i w' => m = 64 - i ∧ i ≤ 64 ∧ St w w' [(r1, e.cells, 40)] ∧ ∀ (j : Nat) s, j < i → S[j]? = some s → free s = false) 64 0 rfl ⟨rfl, Nat.zero_le _, hS, fun j s hj => by omega⟩ ?_
  clear hS
  rintro _ i w2 ⟨rfl, hi, hS, hall⟩ J hJ
  refine asI_i rfl (cond_split (fun hc => ?_) (fun hc => ?_))
  · have hil : i < S.length := by
      rw [h.ws.len]
      have := of_decide_eq_true hc
      omega
    have hs : S[i]? = some S[i] := List.getElem?_eq_getElem hil
    have hgm := h.gen S[i] (List.getElem_mem hil)
    generalize S[i] = s at hs hgm
    have h2 := h.ext hS.ext fun _ _ hf => hf
    have hi64 : i < 64 := by rw [h.ws.len] at hil; exact hil
    refine lv_i (dr_i (bnd_mk (by omega) (by omega) ?_))
    have ea : Addr.add (Addr.add ⟨r, 0, none⟩ 1) (Int.toNat (i : Int) * 10) = ⟨r, 1 + (i * 10 + 0), none⟩ := by rw [add_mk, add_mk, Int.toNat_natCast]; congr 1 <;> omega
    rw [ea]
    have ea1 : Addr.add ⟨r, 1 + (i * 10 + 0), none⟩ 1 = ⟨r, 1 + (i * 10 + 1), none⟩ := by rw [add_mk]; congr 1
    have ea2 : Addr.add ⟨r, 1 + (i * 10 + 0), none⟩ 2 = ⟨r, 1 + (i * 10 + 2), none⟩ := by rw [add_mk]; congr 1
    rw [ea1, ea2]
    refine jn_of (fun t w' => t = [.bool (!free s)] ∧ w2 = w') ?_ ?_
    · rintro _ _ ⟨rfl, rfl⟩
      refine asB_i rfl (cond_split (fun hb => ?_) (fun hb => ?_))
      · have ei : IntKind.wrap .i64 ((i : Int) + 1) = ((i + 1 : Nat) : Int) := by rw [wr64 (by omega) (by omega)]; omega
        rw [ei]
        refine hJ (64 - (i + 1)) (i + 1) w2 (by omega) ⟨rfl, by omega, hS, fun j s' hj hs' => ?_⟩
        by_cases hji : j = i
        · subst hji
          rw [hs] at hs'
          cases hs'
          simpa using hb
        · exact hall j s' (by omega) hs'
      have hfr : free s = true := by simpa using hb
      have hgen : s.gen + 1 ≤ 1099511627776 := by
        have : s.gen ≠ 1099511627776 := by
          intro hg
          unfold free at hfr
          rw [hg] at hfr
          simp at hfr
        omega
      refine ld_mk (h2.ws.cell hs (k := 0) rfl) (asI_i rfl ?_)
      rw [wr64 (n := s.gen + 1) (by omega) (by omega)]
      refine h2.ws.st (k := 0) ⟨s.gen + 1, s.there, s.e⟩ hs (by decide) rfl rfl ?_
      intro w3 hw3 hx3 hz3
      have g1 : ∀ q : Spot, (S.set i q)[i]? = some q := fun q => List.getElem?_set_self hil
      refine hw3.st (k := 1) ⟨s.gen + 1, true, s.e⟩ (g1 _) (by decide) rfl rfl ?_
      intro w4 hw4 hx4 hz4
      rw [List.set_set] at hw4
      have hkn := hS.kn (r1, e.cells, 40) List.mem_cons_self
      have hne : r1 ≠ r := by
        have := hkn.2
        simp only at this
        omega
      have hb4 : w4.heap[r1]? = some (.cells e.cells.toArray 40 (0, 0)) := hx4.blk (hx3.blk hkn.1 hne) hne
      refine ld8b hb4 (o := 0) (e := e) (fun k _ => by simp) ?_ rfl
      refine hw4.st8 (g1 _) e rfl ?_
      intro w5 hw5 hx5 hz5
      rw [List.set_set] at hw5
      refine ld_mk (hw5.cell (g1 _) (k := 0) rfl) (asI_i rfl ?_)
      have ew : IntKind.wrap .i64 (IntKind.wrap .i64 ((s.gen + 1) * 64) + (i : Int)) = (s.gen + 1) * 64 + (i : Int) := by rw [wr64 (n := (s.gen + 1) * 64) (by omega) (by omega), wr64 (by omega) (by omega)]
      simp only
      rw [ew]
      refine hw5.st (k := 2) (spn s i e) (g1 _) (by decide) rfl rfl ?_
      intro w6 hw6 hx6 hz6
      rw [List.set_set] at hw6
      refine dw_mk ?_
      have hX26 : Ext (onl r) w2 w6.drew := ((((hx3.trans hx4).trans hx5).trans hx6).trans (Ext.of_no (Ext.drew w6)))
      have hw7 := hw6.ext (Ext.drew w6) fun h => h
      have hb7 : w6.drew.heap[r1]? = some (.cells e.cells.toArray 40 (0, 0)) := hX26.blk hkn.1 hne
      refine dr_i (ld_mk hw7.cell0 (asP_i rfl ?_))
      have c1 : w6.drew.cell? (Addr.add ⟨r1, 0, none⟩ 1) = some (.int .i64 e.x) := by rw [add_mk, blk_cell hb7]; rfl
      have c2 : w6.drew.cell? (Addr.add (Addr.add ⟨r1, 0, none⟩ 1) 1) = some (.int .i64 e.y) := by rw [add_mk, add_mk, blk_cell hb7]; rfl
      have c3 : w6.drew.cell? (Addr.add (Addr.add ⟨r1, 0, none⟩ 1) 2) = some (.int .i64 e.r) := by rw [add_mk, add_mk, blk_cell hb7]; rfl
      refine ld_mk c1 (asI_i rfl (ld_mk c2 (asI_i rfl (ld_mk c3 (asI_i rfl ?_)))))
      obtain ⟨mb, mc, C, bb, kb, bc, kc, hg, hp⟩ := h2.gr
      have hg7 := hg.ext hX26 fun k hk e => h.nr (by
        have : k = r := e
        rw [← this]; exact hk)
      show cl Tryd.prog 35 #[.pointer (some ⟨g, 0, none⟩), .int .i64 (i : Int), e.box.v] w6.drew _
      refine gPut_k hg7 (fun x => ?_) ?_
      · rw [hp]
        have := h.bd x
        omega
      intro w8 F' C' bb' kb' bc' kc' hg8 hpl hx8 hF1 hF2
      have hw8 := hw7.ext hx8 h.nr
      refine asI_i rfl (ld_mk (hw8.cell (g1 _) (k := 2) rfl) (asI_i rfl (lv_i (lv_i ?_))))
      have hX : Ext (wF F r) w w8 := by
        have a1 : Ext (wF F r) w w2 := Ext.of_no hS.ext
        have a2 : Ext (wF F r) w w6.drew := a1.then hX26 fun k _ hk => .inr hk
        exact a2.then hx8 fun k _ hk => .inl hk
      have hsz := hS.ext.size
      have hsz2 := hX26.size
      have hG : ∀ k, F' k → F k ∨ w.heap.size ≤ k := fun k hk => by
        rcases hF1 k hk with h | h
        · exact .inl h
        · exact .inr (by omega)
      refine hok w8 F' i s hE ⟨hs, hfr, fun j s' hj hs' => hall j s' hj hs'⟩ ⟨hw8, ⟨mb, mc, C', bb', kb', bc', kc', hg8, by rw [hpl, hp]⟩, fun hf => ?_, fun x => ?_, fun q hq => ?_⟩ hX hG hF2
      · rcases hG r hf with h' | h'
        · exact h.nr h'
        · omega
      · unfold gputD
        split
        · have := putL_len (l := cellsL' wside e.box) (id := (i : Int)) (D := D) x
          have := h.bd x
          have := @cells_len wside e.box
          omega
        · have := h.bd x
          omega
      · rcases List.mem_or_eq_of_mem_set hq with hq | rfl
        · exact h.gen q hq
        · simp only [spn]; omega
    · intro J2 hJ2
      refine ld_mk (h2.ws.cell hs (k := 1) rfl) (asB_i rfl (cond_split (fun hb => hJ2 _ _ ⟨?_, rfl⟩) (fun hb => ld_mk (h2.ws.cell hs (k := 0) rfl) (asI_i rfl (hJ2 _ _ ⟨?_, rfl⟩)))))
      · unfold free
        rw [hb]; rfl
      · unfold free
        rw [hb]
        simp
  · have hi64 : i = 64 := by
      have := of_decide_eq_false hc
      omega
    subst hi64
    refine lv_i (lv_i (hfull _ hS.ext hE fun j s hs => hall j s ?_ hs))
    have := (List.getElem?_eq_some_iff.1 hs).1
    rw [h.ws.len] at this
    exact this

/-- an entity that is written to a block of one's own -/
theorem _root_.Go.Sx.St.st8 {w0 w : World} {L : List (Nat × List Value × TypeId)} (h : St w0 w L) (i : Nat) {r : Nat} {cs : List Value} {t : TypeId} (hL : L[i]? = some (r, cs, t)) (hc : cs.length = 8) (e : Ent) {K : World → Prop}
    (hK : ∀ w', St w0 w' (L.set i (r, e.cells, t)) → K w') :
    Sx.st w ⟨r, 0, none⟩ (.int .i64 e.h) fun w1 => Sx.st w1 (Addr.add ⟨r, 0, none⟩ 1) (.int .i64 e.x) fun w2 => Sx.st w2 (Addr.add ⟨r, 0, none⟩ 2) (.int .i64 e.y) fun w3 => Sx.st w3 (Addr.add ⟨r, 0, none⟩ 3) (.int .i64 e.r) fun w4 =>
      Sx.st w4 (Addr.add ⟨r, 0, none⟩ 4) (.int .i64 e.vx) fun w5 => Sx.st w5 (Addr.add ⟨r, 0, none⟩ 5) (.int .i64 e.vy) fun w6 => Sx.st w6 (Addr.add ⟨r, 0, none⟩ 6) (.int .i64 e.o) fun w7 => Sx.st w7 (Addr.add ⟨r, 0, none⟩ 7) (.int .i64 e.t) fun w8 => K w8 := by
  match cs, hc with
  | [a0, a1, a2, a3, a4, a5, a6, a7], _ =>
    have hil := (List.getElem?_eq_some_iff.1 hL).1
    have g1 : ∀ q : Nat × List Value × TypeId, (L.set i q)[i]? = some q := fun q => List.getElem?_set_self hil
    refine h.st0 i hL rfl rfl fun w1 h1 => ?_
    refine h1.st i (g1 _) rfl rfl fun w2 h2 => ?_
    rw [List.set_set] at h2
    refine h2.st i (g1 _) rfl rfl fun w3 h3 => ?_
    rw [List.set_set] at h3
    refine h3.st i (g1 _) rfl rfl fun w4 h4 => ?_
    rw [List.set_set] at h4
    refine h4.st i (g1 _) rfl rfl fun w5 h5 => ?_
    rw [List.set_set] at h5
    refine h5.st i (g1 _) rfl rfl fun w6 h6 => ?_
    rw [List.set_set] at h6
    refine h6.st i (g1 _) rfl rfl fun w7 h7 => ?_
    rw [List.set_set] at h7
    refine h7.st i (g1 _) rfl rfl fun w8 h8 => ?_
    rw [List.set_set] at h8
    exact hK w8 h8

theorem kill_k {w : World} {F : Nat → Prop} {r g : Nat} {S : List Spot} {B : List (Int × Bx)} {D : List ((Int × Int) × List Int)} {N : Nat} (h : Wd w F r g S B D N) (hN : N ≤ 549755813888) {hh : Int} {K : Value → World → Prop}
    (hnone : atI S hh = none → K (.int .i64 190) w)
    (hok : ∀ w' i s, atI S hh = some i → i = hh.toNat % 64 → hh = hh.toNat → S[i]? = some s → s.there = true → s.e.h = hh → Wd w' F r g (S.set i ⟨s.gen, false, s.e⟩) (gdropB B i) (gdropD wside B D i) N → Ext (wF F r) w w' → K (.int .i64 0) w') :
    cl Tryd.prog 24 #[.pointer (some ⟨r, 0, none⟩), .int .i64 hh] w K := by
  apply F24_calls
  unfold F24
  refine lv_i (at_k h.ws (fun hn => asP_i rfl (cond_t rfl (lv_i (hnone hn)))) ?_)
  intro i s hat hhn hi hs ht he
  refine asP_i rfl (cond_f rfl (dr_i ?_))
  have ea1 : Addr.add ⟨r, 1 + i * 10, none⟩ 1 = ⟨r, 1 + (i * 10 + 1), none⟩ := by rw [add_mk]; congr 1
  rw [ea1]
  refine h.ws.st (k := 1) ⟨s.gen, false, s.e⟩ hs (by decide) rfl rfl ?_
  intro w1 hw1 hx1 hz1
  refine dr_i (ld_mk hw1.cell0 (asP_i rfl ?_))
  have em : Int.tmod hh 64 = (i : Int) := by
    rw [hi]
    conv => lhs; rw [hhn]
    rfl
  rw [em]
  obtain ⟨mb, mc, C, bb, kb, bc, kc, hg, hp⟩ := h.gr
  have hg1 := hg.ext hx1 fun k hk e => h.nr (by
    have : k = r := e
    rw [← this]; exact hk)
  refine gDrop_k hg1 (fun x => ?_) ?_
  · rw [hp]
    have := h.bd x
    omega
  intro w2 C' bb' kb' bc' kc' hg2 hpl hx2
  refine asI_i rfl (lv_i (hok w2 i s hat hi hhn hs ht he ⟨hw1.ext hx2 h.nr, ⟨mb, mc, C', bb', kb', bc', kc', hg2, by rw [hpl, hp]⟩, h.nr, fun x => ?_, fun q hq => ?_⟩ ?_))
  · unfold gdropD
    split
    · exact Nat.le_trans (dropL_len h.nd x) (h.bd x)
    · exact h.bd x
  · rcases List.mem_or_eq_of_mem_set hq with hq | rfl
    · exact h.gen q hq
    · exact h.gen s (List.mem_of_getElem? hs)
  · have a1 : Ext (wF F r) w w1 := hx1.mono fun k _ hk => .inr hk
    exact a1.then hx2 fun k _ hk => .inl hk

def getE (S : List Spot) (h : Int) : Ent := match atI S h with
  | some i => match S[i]? with | some s => s.e | none => Ent.zero
  | none => Ent.zero
def getC (S : List Spot) (h : Int) : Int := if (atI S h).isSome = true then 0 else 190

theorem get_k {w : World} {r g : Nat} {S : List Spot} (hw : WS w r g S) {hh : Int} {K : Value → World → Prop}
    (hK : ∀ w', Ext no w w' → K (.tuple #[(getE S hh).v, .int .i64 (getC S hh)]) w') :
    cl Tryd.prog 15 #[.pointer (some ⟨r, 0, none⟩), .int .i64 hh] w K := by
  apply F15_calls
  unfold F15
  have hS := St.start w
  (refine St.nw hS ?_; clear hS; intro r1 _ hS)
  have hw1 := hw.ext hS.ext fun h => h
  refine lv_i (at_k hw1 (fun hn => ?_) (fun i s hat hhn hi hs ht he => ?_))
  · refine asP_i rfl (cond_t rfl ?_)
    refine hS.st8 0 rfl rfl Ent.zero ?_
    intro w2 hS2
    refine lv_i (ld8b (e := Ent.zero) (o := 0) (hS2.kn _ List.mem_cons_self).1 (fun k _ => by simp) ?_ rfl)
    have e1 : getE S hh = Ent.zero := by unfold getE; rw [hn]
    have e2 : getC S hh = 190 := by unfold getC; rw [hn]; rfl
    have := hK _ hS2.ext
    rw [e1, e2] at this
    exact this
  · refine asP_i rfl (cond_f rfl (dr_i ?_))
    have ea2 : Addr.add ⟨r, 1 + i * 10, none⟩ 2 = ⟨r, 1 + (i * 10 + 2), none⟩ := by rw [add_mk]; congr 1
    rw [ea2]
    refine ld8b (e := s.e) hw1.blk (fun k hk => ?_) ?_ rfl
    · have := wc_get (g := g) hs (k := 2 + k) (by omega)
      rw [show 1 + (i * 10 + 2) + k = 1 + (i * 10 + (2 + k)) by omega]
      simp only [List.getElem?_toArray, this]
      rw [Nat.add_comm 2 k]
      rfl
    refine hS.st8 0 rfl rfl s.e ?_
    intro w2 hS2
    refine lv_i (ld8b (e := s.e) (o := 0) (hS2.kn _ List.mem_cons_self).1 (fun k _ => by simp) ?_ rfl)
    have e1 : getE S hh = s.e := by unfold getE; rw [hat]; simp only [hs]
    have e2 : getC S hh = 0 := by unfold getC; rw [hat]; rfl
    have := hK _ hS2.ext
    rw [e1, e2] at this
    exact this
end Go.Proofs.YtamobmjfdiecbaaDoor

/- WoG: what a world's calls Set and List do, as contracts over lists of places. Conditions: those of each theorem, on its arguments. -/
namespace Go.Proofs.YtamobmjfdiecbaaDoor
open Go Go.Sx Go.Fp
attribute [local irreducible] jn lv ld st nw asI asB asP asS asY asM asF asA asT lp rn ru rq cl dw dr bnd bn2 nz nn hd hr so eqW
attribute [local irreducible] callOk

def setE (S : List Spot) (h : Int) (e : Ent) : Int := if (atI S h).isSome = true then e.rightE else 190

theorem set_k {w : World} {F : Nat → Prop} {r g : Nat} {S : List Spot} {B : List (Int × Bx)} {D : List ((Int × Int) × List Int)} {N : Nat} (h : Wd w F r g S B D N) (hN : N ≤ 549755813888) {hh : Int} {e : Ent} {K : Value → World → Prop}
    (hbad : ∀ w', Ext no w w' → setE S hh e ≠ 0 → K (.int .i64 (setE S hh e)) w')
    (hok : ∀ w' F' i s, setE S hh e = 0 → e.rightE = 0 → atI S hh = some i → i = hh.toNat % 64 → hh = hh.toNat → S[i]? = some s → s.there = true → s.e.h = hh → Wd w' F' r g (S.set i ⟨s.gen, s.there, { e with h := hh }⟩) (gmoveB wside B i e.box) (gmoveD wside B D i e.box) (N + 1024) →
      Ext (wF F r) w w' → (∀ k, F' k → F k ∨ w.heap.size ≤ k) → (∀ k, F k → F' k) → K (.int .i64 0) w') :
    cl Tryd.prog 26 #[.pointer (some ⟨r, 0, none⟩), .int .i64 hh, e.v] w K := by
  apply F26_calls
  unfold F26
  have hS := St.start w
  (refine St.nw hS ?_; clear hS; intro r1 _ hS)
  have hw1 := h.ws.ext hS.ext fun h => h
  refine lv_i (at_k hw1 (fun hn => ?_) (fun i s hat hhn hi hs ht he => ?_))
  · have e1 : setE S hh e = 190 := by unfold setE; rw [hn]; rfl
    have := hbad _ hS.ext (by rw [e1]; decide)
    rw [e1] at this
    exact asP_i rfl (cond_t rfl (lv_i this))
  refine asP_i rfl (cond_f rfl ?_)
  have e1 : setE S hh e = e.rightE := by unfold setE; rw [hat]; rfl
  repeat (first | (refine asI_i rfl ?_) | (refine asB_i rfl ?_) | (refine asP_i rfl ?_) | (refine asS_i rfl ?_) | (refine asY_i rfl ?_) | (refine asM_i rfl ?_) | (refine asA_i rfl rfl ?_) | (refine asT_i rfl rfl ?_) | (refine lv_i ?_) | (refine St.nw hS ?_; clear hS; intro _ _ hS) | (refine St.dw hS ?_; clear hS; intro _ hS _) | (refine hS.ld0 0 rfl rfl ?_) | (refine hS.ld 0 rfl rfl ?_) | (refine hS.ld0 1 rfl rfl ?_) | (refine hS.ld 1 rfl rfl ?_) | (refine hS.ld0 2 rfl rfl ?_) | (refine hS.ld 2 rfl rfl ?_) | (refine hS.ld0 3 rfl rfl ?_) | (refine hS.ld 3 rfl rfl ?_) | (refine hS.ld0 4 rfl rfl ?_) | (refine hS.ld 4 rfl rfl ?_) | (refine hS.ld0 5 rfl rfl ?_) | (refine hS.ld 5 rfl rfl ?_) | (refine hS.ld0 6 rfl rfl ?_) | (refine hS.ld 6 rfl rfl ?_) | (refine hS.ld0 7 rfl rfl ?_) | (refine hS.ld 7 rfl rfl ?_) | (refine hS.hd0 0 rfl rfl ?_) | (refine hS.hd 0 rfl rfl ?_) | (refine hS.hd0 1 rfl rfl ?_) | (refine hS.hd 1 rfl rfl ?_) | (refine hS.hd0 2 rfl rfl ?_) | (refine hS.hd 2 rfl rfl ?_) | (refine hS.hd0 3 rfl rfl ?_) | (refine hS.hd 3 rfl rfl ?_) | (refine hS.hd0 4 rfl rfl ?_) | (refine hS.hd 4 rfl rfl ?_) | (refine hS.hd0 5 rfl rfl ?_) | (refine hS.hd 5 rfl rfl ?_) | (refine hS.hd0 6 rfl rfl ?_) | (refine hS.hd 6 rfl rfl ?_) | (refine hS.hd0 7 rfl rfl ?_) | (refine hS.hd 7 rfl rfl ?_) | (refine hS.st0 0 rfl rfl rfl ?_; clear hS; intro _ hS) | (refine hS.st 0 rfl rfl rfl ?_; clear hS; intro _ hS) | (refine hS.st0 1 rfl rfl rfl ?_; clear hS; intro _ hS) | (refine hS.st 1 rfl rfl rfl ?_; clear hS; intro _ hS) | (refine hS.st0 2 rfl rfl rfl ?_; clear hS; intro _ hS) | (refine hS.st 2 rfl rfl rfl ?_; clear hS; intro _ hS) | (refine hS.st0 3 rfl rfl rfl ?_; clear hS; intro _ hS) | (refine hS.st 3 rfl rfl rfl ?_; clear hS; intro _ hS) | (refine hS.st0 4 rfl rfl rfl ?_; clear hS; intro _ hS) | (refine hS.st 4 rfl rfl rfl ?_; clear hS; intro _ hS) | (refine hS.st0 5 rfl rfl rfl ?_; clear hS; intro _ hS) | (refine hS.st 5 rfl rfl rfl ?_; clear hS; intro _ hS) | (refine hS.st0 6 rfl rfl rfl ?_; clear hS; intro _ hS) | (refine hS.st 6 rfl rfl rfl ?_; clear hS; intro _ hS) | (refine hS.st0 7 rfl rfl rfl ?_; clear hS; intro _ hS) | (refine hS.st 7 rfl rfl rfl ?_; clear hS; intro _ hS) | (refine bnd_mk (by decide) (by decide) ?_) | (refine so_i rfl ?_))
  show cl Tryd.prog 37 #[e.v] _ _
  refine eright_k ?_
  intro w1 hx1
  replace hS := hS.to hx1
  clear hx1
  refine asI_i rfl (lv_i (cond_split (fun h0 => ?_) (fun h0 => ?_)))
  · have hne : e.rightE ≠ 0 := by simpa using h0
    have := hbad _ hS.ext (by rw [e1]; exact hne)
    rw [e1] at this
    exact lv_i this
  have hE : e.rightE = 0 := by simpa using h0
  have h1 := h.ext hS.ext fun _ _ hf => hf
  have hil := (List.getElem?_eq_some_iff.1 hs).1
  have hkn := hS.kn (r1, e.cells, 40) List.mem_cons_self
  have hr1 : r < w.heap.size := h.r_lt
  have hne : r1 ≠ r := by
    have := hkn.2
    simp only at this
    omega
  refine ld8b hkn.1 (o := 0) (e := e) (fun k _ => by simp) (dr_i ?_) rfl
  have ea2 : Addr.add ⟨r, 1 + i * 10, none⟩ 2 = ⟨r, 1 + (i * 10 + 2), none⟩ := by rw [add_mk]; congr 1
  rw [ea2]
  refine h1.ws.st8 hs e rfl ?_
  intro w2 hw2 hx2 hz2
  have g1 : ∀ q : Spot, (S.set i q)[i]? = some q := fun q => List.getElem?_set_self hil
  refine dr_i ?_
  rw [ea2]
  refine hw2.st (k := 2) ⟨s.gen, s.there, { e with h := hh }⟩ (g1 _) (by decide) rfl rfl ?_
  intro w3 hw3 hx3 hz3
  rw [List.set_set] at hw3
  refine dw_mk ?_
  have hX : Ext (onl r) w1 w3.drew := (hx2.trans hx3).trans (Ext.of_no (Ext.drew w3))
  have hw4 := hw3.ext (Ext.drew w3) fun h => h
  have hb4 : w3.drew.heap[r1]? = some (.cells e.cells.toArray 40 (0, 0)) := hX.blk hkn.1 hne
  refine dr_i (ld_mk hw4.cell0 (asP_i rfl ?_))
  have c1 : w3.drew.cell? (Addr.add ⟨r1, 0, none⟩ 1) = some (.int .i64 e.x) := by rw [add_mk, blk_cell hb4]; rfl
  have c2 : w3.drew.cell? (Addr.add (Addr.add ⟨r1, 0, none⟩ 1) 1) = some (.int .i64 e.y) := by rw [add_mk, add_mk, blk_cell hb4]; rfl
  have c3 : w3.drew.cell? (Addr.add (Addr.add ⟨r1, 0, none⟩ 1) 2) = some (.int .i64 e.r) := by rw [add_mk, add_mk, blk_cell hb4]; rfl
  refine ld_mk c1 (asI_i rfl (ld_mk c2 (asI_i rfl (ld_mk c3 (asI_i rfl ?_)))))
  have em : Int.tmod hh 64 = (i : Int) := by
    rw [hi]
    conv => lhs; rw [hhn]
    rfl
  rw [em]
  obtain ⟨mb, mc, C, bb, kb, bc, kc, hg, hp⟩ := h1.gr
  have hg4 := hg.ext hX fun k hk e => h.nr (by
    have : k = r := e
    rw [← this]; exact hk)
  show cl Tryd.prog 41 #[.pointer (some ⟨g, 0, none⟩), .int .i64 (i : Int), e.box.v] w3.drew _
  refine gMove_k hg4 (fun x => ?_) ?_
  · rw [hp]
    have := h.bd x
    omega
  intro w5 F' C' bb' kb' bc' kc' hg5 hpl hx5 hF1 hF2
  have hXX : Ext (wF F r) w w5 := by
    have a1 : Ext (wF F r) w w1 := Ext.of_no hS.ext
    have a2 : Ext (wF F r) w w3.drew := a1.then hX fun k _ hk => .inr hk
    exact a2.then hx5 fun k _ hk => .inl hk
  have hsz := hS.ext.size
  have hsz2 := hX.size
  have hG : ∀ k, F' k → F k ∨ w.heap.size ≤ k := fun k hk => by
    rcases hF1 k hk with h | h
    · exact .inl h
    · exact .inr (by omega)
  refine asI_i rfl (lv_i (hok w5 F' i s (by rw [e1]; exact hE) hE hat hi hhn hs ht he ⟨hw4.ext hx5 h.nr, ⟨mb, mc, C', bb', kb', bc', kc', hg5, by rw [hpl, hp]⟩, fun hf => ?_, fun x => ?_, fun q hq => ?_⟩ hXX hG hF2))
  · rcases hG r hf with h' | h'
    · exact h.nr h'
    · omega
  · unfold gmoveD
    split
    · have := putL_len (l := cellsL' wside e.box) (id := (i : Int)) (D := dropL D (cellsL' wside (boxAt B (i : Int))) (i : Int)) x
      have := dropL_len (l := cellsL' wside (boxAt B (i : Int))) (id := (i : Int)) h.nd x
      have := h.bd x
      have := @cells_len wside e.box
      omega
    · have := h.bd x
      omega
  · rcases List.mem_or_eq_of_mem_set hq with hq | rfl
    · exact h.gen q hq
    · exact h.gen s (List.mem_of_getElem? hs)

/-! ### List -/
def listS (S : List Spot) : List Ent := (S.filter fun s => s.there).map fun s => s.e

theorem hold_of {P : Program} {w : World} {a : Addr} : ∀ (vs : List Value) (i : Nat), (∀ j v, vs[j]? = some v → w.cell? (a.add (i + j)) = some v) → Hold P w (factsOf a i vs)
  | [], _, _ => fun x hx => by simp [factsOf] at hx
  | v :: vs, i, h => by
    intro x hx
    simp only [factsOf, List.mem_cons] at hx
    rcases hx with rfl | hx
    · exact h 0 v rfl
    · exact hold_of vs (i + 1) (fun j u hj => by have := h (j + 1) u (by simpa using hj); rwa [show i + (j + 1) = i + 1 + j by omega] at this) x hx

theorem extract_spot {S : List Spot} {i : Nat} {s : Spot} (hi : S[i]? = some s) : ((S.flatMap Spot.cells).toArray.extract (i * 10) (i * 10 + 10)) = s.cells.toArray := by
  apply Array.ext_getElem?
  intro j
  have hl := fl_lenN (f := Spot.cells) Spot.cells_length S
  have hil := (List.getElem?_eq_some_iff.1 hi).1
  by_cases hj : j < 10
  · have := fl_getN (f := Spot.cells) Spot.cells_length hi j hj
    rw [Array.getElem?_extract]
    simp only [List.size_toArray, hl]
    rw [if_pos (by omega)]
    simpa using this
  · rw [Array.getElem?_extract]
    simp only [List.size_toArray, hl]
    rw [if_neg (by omega)]
    have : s.cells.length ≤ j := by rw [Spot.cells_length]; omega
    simp [this]

set_option maxRecDepth 100000 in
theorem sE : SlN Tryd.prog 22 40 8 64 := ⟨rfl, ⟨_, _, rfl, rfl, rfl, rfl, rfl⟩, by decide⟩
theorem Ent.cells_length (e : Ent) : e.cells.length = 8 := rfl
theorem Ent.one (e : Ent) : ∀ u ∈ e.cells, Sx.one u = true := by
  intro u hu
  simp only [Ent.cells, List.mem_cons, List.not_mem_nil, or_false] at hu
  rcases hu with rfl | rfl | rfl | rfl | rfl | rfl | rfl | rfl <;> rfl

theorem listS_take (S : List Spot) (i : Nat) {s : Spot} (hs : S[i]? = some s) : listS (S.take (i + 1)) = listS (S.take i) ++ (if s.there = true then [s.e] else []) := by
  unfold listS
  rw [List.take_add_one, hs, List.filter_append, List.map_append]
  congr 1
  simp only [Option.toList_some, List.filter_cons, List.filter_nil]
  split <;> simp

theorem listS_len (S : List Spot) : (listS S).length ≤ S.length := by
  unfold listS
  rw [List.length_map]
  exact List.length_filter_le _ _

theorem list_k {w : World} {r g : Nat} {S : List Spot} (hw : WS w r g S) {K : Value → World → Prop}
    (hK : ∀ p c w', Ext no w w' → RowN w' w.heap.size 40 8 p c (listS S).length ((listS S).flatMap Ent.cells) → K (.slice p (listS S).length c) w') :
    cl Tryd.prog 10 #[.pointer (some ⟨r, 0, none⟩)] w K := by
  apply F10_calls
  unfold F10
  have hl := fl_lenN (f := Spot.cells) Spot.cells_length S
  have h64 := hw.len
  refine dr_i ⟨S.flatMap Spot.cells, by rw [hl, h64], ?_, ?_⟩
  · refine hold_of _ 0 fun j v hj => ?_
    rw [Nat.zero_add, add_mk, add_mk, blk_cell hw.blk]
    unfold wc
    rw [List.getElem?_toArray, Nat.zero_add, Nat.add_comm 1, List.getElem?_cons_succ]
    exact hj
  refine lp_mk (fun t : (Option Addr × Nat × Nat) × Nat => [.slice t.1.1 t.1.2.1 t.1.2.2, .int .i64 (t.2 : Int)])
    (fun m t w' => m = 64 - t.2 ∧ t.2 ≤ 64 ∧ Ext no w w' ∧ t.1.2.1 = (listS (S.take t.2)).length ∧ RowN w' w.heap.size 40 8 t.1.1 t.1.2.2 t.1.2.1 ((listS (S.take t.2)).flatMap Ent.cells)) 64 ((none, 0, 0), 0) rfl
    ⟨rfl, Nat.zero_le _, Ext.refl _ _, rfl, RowN.nil _ _ _ _⟩ ?_
  rintro _ ⟨⟨p, n, c⟩, i⟩ w1 ⟨rfl, hi, hx1, hn, hr1⟩ J hJ
  simp only at hi hn hr1 hJ ⊢
  refine asS_i rfl (asI_i rfl (cond_split (fun hc => ?_) (fun hc => ?_)))
  · have hil : i < S.length := by
      have := of_decide_eq_true hc
      omega
    have hs : S[i]? = some S[i] := List.getElem?_eq_getElem hil
    generalize S[i] = s at hs
    have ei : IntKind.wrap .i64 ((i : Int) + 1) = ((i + 1 : Nat) : Int) := by rw [wr64 (by omega) (by omega)]; omega
    refine jn_of (fun t w' => ∃ p' c', t = [.slice p' (listS (S.take (i + 1))).length c'] ∧ Ext no w w' ∧ RowN w' w.heap.size 40 8 p' c' (listS (S.take (i + 1))).length ((listS (S.take (i + 1))).flatMap Ent.cells)) ?_ ?_
    · rintro _ w2 ⟨p', c', rfl, hx2, hr2⟩
      refine asS_i rfl ?_
      rw [ei]
      exact hJ (64 - (i + 1)) ((p', _, c'), i + 1) w2 (by omega) ⟨rfl, by simp only; omega, hx2, rfl, hr2⟩
    · intro J2 hJ2
      refine bnd_mk (by omega) (by omega) ?_
      rw [Int.toNat_natCast, extract_spot hs]
      refine asA_i (l := s.cells) rfl rfl (asI_i rfl (asB_i rfl (asI_i rfl (asI_i rfl (asI_i rfl (asI_i rfl (asI_i rfl (asI_i rfl (asI_i rfl (asI_i rfl ?_))))))))))
      have hS := St.start w1
      (refine St.nw hS ?_; clear hS; intro r2 _ hS)
      refine hS.st0 0 rfl rfl rfl fun w2 h2 => h2.st 0 rfl rfl rfl fun w3 h3 => h3.st 0 rfl rfl rfl fun w4 h4 => h4.st 0 rfl rfl rfl fun w5 h5 => h5.st 0 rfl rfl rfl fun w6 h6 => ?_
      refine h6.st 0 rfl rfl rfl fun w7 h7 => h7.st 0 rfl rfl rfl fun w8 h8 => h8.st 0 rfl rfl rfl fun w9 h9 => h9.st 0 rfl rfl rfl fun w10 h10 => h10.st 0 rfl rfl rfl fun w11 h11 => ?_
      have hb : w11.heap[r2]? = some (.cells s.cells.toArray 67 (0, 0)) := (h11.kn _ List.mem_cons_self).1
      have c1 : w11.cell? (Addr.add ⟨r2, 0, none⟩ 1) = some (.bool s.there) := by rw [add_mk, blk_cell hb]; rfl
      have hxx : Ext no w w11 := hx1.trans h11.ext
      refine ld_mk c1 (asB_i rfl (cond_split (fun ht => ?_) (fun ht => hJ2 _ _ ⟨p, c, ?_, hxx, ?_⟩)))
      · refine ld8b (o := 2) (e := s.e) hb (fun k hk => ?_) ?_ (by rw [add_mk])
        · simp only [List.getElem?_toArray]
          rw [Nat.add_comm]
          rfl
        have hlen := listS_len (S.take i)
        rw [List.length_take] at hlen
        refine sE.app1 (vs := s.e.cells) (hr1.ext h11.ext fun _ _ h => h) hxx.size rfl s.e.one (le_maxLen (by omega)) (by omega) ?_
        intro p' c' w12 hr12 hE12 hM12
        have hx12 : Ext no w w12 := hxx.then hE12 fun k hk ⟨a, ha, hab⟩ => by
          have := ((hr1.ext h11.ext fun _ _ h => h).at ha).1
          omega
        have el : listS (S.take (i + 1)) = listS (S.take i) ++ [s.e] := by rw [listS_take S i hs, if_pos ht]
        have el2 : n + 1 = (listS (S.take (i + 1))).length := by rw [el, List.length_append, ← hn]; rfl
        refine asS_i rfl (hJ2 _ _ ⟨p', c', by rw [el2], hx12, ?_⟩)
        rw [← el2, el, List.flatMap_append]
        simpa using hr12
      · have el : listS (S.take (i + 1)) = listS (S.take i) := by rw [listS_take S i hs, if_neg (by rw [ht]; decide)]; simp
        rw [el, ← hn]
      · have el : listS (S.take (i + 1)) = listS (S.take i) := by rw [listS_take S i hs, if_neg (by rw [ht]; decide)]; simp
        rw [el, ← hn]
        exact hr1.ext h11.ext fun _ _ h => h
  · have hi64 : i = 64 := by
      have := of_decide_eq_false hc
      omega
    subst hi64
    have et : S.take 64 = S := List.take_of_length_le (by omega)
    rw [et] at hn hr1
    subst hn
    exact hK p c w1 hx1 hr1
end Go.Proofs.YtamobmjfdiecbaaDoor

/- WoH: a world beside blocks of one's own: its calls again, told so; the document's examples of worlds come out (awake). Conditions: those of each theorem, on its arguments. -/
namespace Go.Proofs.YtamobmjfdiecbaaDoor
open Go Go.Sx Go.Fp
attribute [local irreducible] jn lv ld st nw asI asB asP asS asY asM asF asA asT lp rn ru rq cl dw dr bnd bn2 nz nn hd hr so eqW
attribute [local irreducible] callOk

theorem _root_.Go.Sx.St.toM {w0 w w' : World} {L : List (Nat × List Value × TypeId)} (h : St w0 w L) {M : Nat → Prop} (hx : Ext M w w') (hM : ∀ k, M k → w0.heap.size ≤ k) (hL : ∀ b ∈ L, ¬ M b.1) : St w0 w' L :=
  ⟨h.ext.then hx fun k hk hm => by have := hM k hm; omega, fun b hb => ⟨hx.blk (h.kn b hb).1 (hL b hb), (h.kn b hb).2⟩, h.nd⟩

structure Pw (W w : World) (L : List (Nat × List Value × TypeId)) (F : Nat → Prop) (r g : Nat) (S : List Spot) (B : List (Int × Bx)) (D : List ((Int × Int) × List Int)) (N : Nat) : Prop where
  st : St W w L
  wd : Wd w F r g S B D N
  fr : ∀ k, wF F r k → W.heap.size ≤ k ∧ ∀ b ∈ L, b.1 ≠ k

section
variable {W w : World} {L : List (Nat × List Value × TypeId)} {F : Nat → Prop} {r g : Nat} {S : List Spot} {B : List (Int × Bx)} {D : List ((Int × Int) × List Int)} {N : Nat}

theorem Pw.to (h : Pw W w L F r g S B D N) {w' : World} (hx : Ext no w w') : Pw W w' L F r g S B D N := ⟨h.st.to hx, h.wd.ext hx fun _ _ hf => hf, h.fr⟩

theorem Pw.lt (h : Pw W w L F r g S B D N) : ∀ k, wF F r k → k < w.heap.size := by
  rintro k (hk | rfl)
  · exact h.wd.f_lt k hk
  · exact h.wd.r_lt

theorem Pw.nw (h : Pw W w L F r g S B D N) {cs : List Value} {t : TypeId} {K : Nat → World → Prop} (hK : ∀ q w', Pw W w' ((q, cs, t) :: L) F r g S B D N → K q w') : nw w (.cells cs.toArray t) K := by
  have hx := Ext.alloc w (.cells cs.toArray t)
  refine nw_mk (hK _ _ ⟨h.st.alloc cs t, h.wd.ext hx fun _ _ hf => hf, fun k hk => ⟨(h.fr k hk).1, fun b hb => ?_⟩⟩)
  · rcases List.mem_cons.1 hb with rfl | hb
    · have := h.lt k hk
      simp only
      omega
    · exact (h.fr k hk).2 b hb

/-- behind a step of the world -/
theorem Pw.step (h : Pw W w L F r g S B D N) {w' : World} {F' : Nat → Prop} {S' : List Spot} {B' : List (Int × Bx)} {D' : List ((Int × Int) × List Int)} {N' : Nat} (hw : Wd w' F' r g S' B' D' N') (hx : Ext (wF F r) w w') (hG : ∀ k, F' k → F k ∨ w.heap.size ≤ k) : Pw W w' L F' r g S' B' D' N' := by
  refine ⟨h.st.toM hx (fun k hk => (h.fr k hk).1) (fun b hb hk => (h.fr _ hk).2 b hb rfl), hw, ?_⟩
  have key : ∀ k, wF F' r k → wF F r k ∨ w.heap.size ≤ k := by
    rintro k (hk | rfl)
    · rcases hG k hk with h | h
      · exact .inl (.inl h)
      · exact .inr h
    · exact .inl (.inr rfl)
  intro k hk
  rcases key k hk with h' | h'
  · exact h.fr k h'
  · have := h.st.ext.size
    refine ⟨by omega, fun b hb => ?_⟩
    have := blk_lt (h.st.kn b hb).1
    omega

theorem Pw.start {F : Nat → Prop} {r g : Nat} {W w : World} (hs : St W w L) {w' : World} (hx : Ext no w w') (hw : Wd w' F r g S B D N) (hF : ∀ k, F k → w.heap.size ≤ k) (hr : w.heap.size ≤ r) : Pw W w' L F r g S B D N := by
  refine ⟨hs.to hx, hw, ?_⟩
  have := hs.ext.size
  rintro k (hk | rfl)
  · have := hF k hk
    refine ⟨by omega, fun b hb => ?_⟩
    have := blk_lt (hs.kn b hb).1
    omega
  · refine ⟨by omega, fun b hb => ?_⟩
    have := blk_lt (hs.kn b hb).1
    omega

theorem Pw.spawn (h : Pw W w L F r g S B D N) (hN : N ≤ 549755813888) {e : Ent} {K : Value → World → Prop}
    (hbad : ∀ w', Pw W w' L F r g S B D N → e.rightE ≠ 0 → K (.tuple #[.int .i64 0, .int .i64 e.rightE]) w')
    (hfull : ∀ w', Pw W w' L F r g S B D N → e.rightE = 0 → (∀ (j : Nat) s, S[j]? = some s → free s = false) → K (.tuple #[.int .i64 0, .int .i64 2]) w')
    (hok : ∀ w' F' i s, e.rightE = 0 → IsFree S i s → Pw W w' L F' r g (S.set i (spn s i e)) (gputB wside B i e.box) (gputD wside B D i e.box) (N + 1024) → K (.tuple #[.int .i64 ((s.gen + 1) * 64 + (i : Int)), .int .i64 0]) w') :
    cl Tryd.prog 22 #[.pointer (some ⟨r, 0, none⟩), e.v] w K :=
  spawn_k h.wd hN (fun w' hx he => hbad w' (h.to hx) he) (fun w' hx he hf => hfull w' (h.to hx) he hf) fun w' F' i s he hf hw hx hG _ => hok w' F' i s he hf (h.step hw hx hG)

theorem Pw.kill (h : Pw W w L F r g S B D N) (hN : N ≤ 549755813888) {hh : Int} {K : Value → World → Prop}
    (hnone : atI S hh = none → K (.int .i64 190) w)
    (hok : ∀ w' i s, atI S hh = some i → i = hh.toNat % 64 → hh = hh.toNat → S[i]? = some s → s.there = true → s.e.h = hh → Pw W w' L F r g (S.set i ⟨s.gen, false, s.e⟩) (gdropB B i) (gdropD wside B D i) N → K (.int .i64 0) w') :
    cl Tryd.prog 24 #[.pointer (some ⟨r, 0, none⟩), .int .i64 hh] w K :=
  kill_k h.wd hN hnone fun w' i s h1 h2 h3 h4 h5 h6 hw hx => hok w' i s h1 h2 h3 h4 h5 h6 (h.step hw hx fun k hk => .inl hk)

theorem Pw.get (h : Pw W w L F r g S B D N) {hh : Int} {K : Value → World → Prop} (hK : ∀ w', Pw W w' L F r g S B D N → K (.tuple #[(getE S hh).v, .int .i64 (getC S hh)]) w') :
    cl Tryd.prog 15 #[.pointer (some ⟨r, 0, none⟩), .int .i64 hh] w K := get_k h.wd.ws fun w' hx => hK w' (h.to hx)

theorem Pw.set (h : Pw W w L F r g S B D N) (hN : N ≤ 549755813888) {hh : Int} {e : Ent} {K : Value → World → Prop}
    (hbad : ∀ w', Pw W w' L F r g S B D N → setE S hh e ≠ 0 → K (.int .i64 (setE S hh e)) w')
    (hok : ∀ w' F' i s, setE S hh e = 0 → e.rightE = 0 → atI S hh = some i → i = hh.toNat % 64 → hh = hh.toNat → S[i]? = some s → s.there = true → s.e.h = hh → Pw W w' L F' r g (S.set i ⟨s.gen, s.there, { e with h := hh }⟩) (gmoveB wside B i e.box) (gmoveD wside B D i e.box) (N + 1024) → K (.int .i64 0) w') :
    cl Tryd.prog 26 #[.pointer (some ⟨r, 0, none⟩), .int .i64 hh, e.v] w K :=
  set_k h.wd hN (fun w' hx he => hbad w' (h.to hx) he) fun w' F' i s h0 h1 h2 h3 h4 h5 h6 h7 hw hx hG _ => hok w' F' i s h0 h1 h2 h3 h4 h5 h6 h7 (h.step hw hx hG)

theorem Pw.right (h : Pw W w L F r g S B D N) {e : Ent} {K : Value → World → Prop} (hK : ∀ w', Pw W w' L F r g S B D N → K (.int .i64 e.rightE) w') : cl Tryd.prog 37 #[e.v] w K := eright_k fun w' hx => hK w' (h.to hx)

theorem Pw.drew (h : Pw W w L F r g S B D N) {K : World → Prop} (hK : Pw W w.drew L F r g S B D N → K w.drew) : dw w K := dw_mk (hK (h.to (Ext.drew w)))

/-- an entity in a block of one's own, read -/
theorem Pw.ld8 (h : Pw W w L F r g S B D N) (i : Nat) {q : Nat} {e : Ent} (hL : L[i]? = some (q, e.cells, 40)) {K : Int → Int → Int → Int → Int → Int → Int → Int → Prop} (hK : K e.h e.x e.y e.r e.vx e.vy e.o e.t) :
    ld w ⟨q, 0, none⟩ fun v1 => asI .i64 v1 fun x0 => ld w (Addr.add ⟨q, 0, none⟩ 1) fun v2 => asI .i64 v2 fun x1 => ld w (Addr.add ⟨q, 0, none⟩ 2) fun v3 => asI .i64 v3 fun x2 => ld w (Addr.add ⟨q, 0, none⟩ 3) fun v4 => asI .i64 v4 fun x3 =>
      ld w (Addr.add ⟨q, 0, none⟩ 4) fun v5 => asI .i64 v5 fun x4 => ld w (Addr.add ⟨q, 0, none⟩ 5) fun v6 => asI .i64 v6 fun x5 => ld w (Addr.add ⟨q, 0, none⟩ 6) fun v7 => asI .i64 v7 fun x6 => ld w (Addr.add ⟨q, 0, none⟩ 7) fun v8 => asI .i64 v8 fun x7 => K x0 x1 x2 x3 x4 x5 x6 x7 :=
  ld8b (o := 0) (e := e) (h.st.kn _ (List.mem_of_getElem? hL)).1 (fun k _ => by simp) hK rfl

/-- an entity into the newest block of one's own -/
theorem Pw.st8 {q : Nat} {cs : List Value} {t : TypeId} (h : Pw W w ((q, cs, t) :: L) F r g S B D N) (hc : cs.length = 8) (e : Ent) {K : World → Prop} (hK : ∀ w', Pw W w' ((q, e.cells, t) :: L) F r g S B D N → K w') :
    Sx.st w ⟨q, 0, none⟩ (.int .i64 e.h) fun w1 => Sx.st w1 (Addr.add ⟨q, 0, none⟩ 1) (.int .i64 e.x) fun w2 => Sx.st w2 (Addr.add ⟨q, 0, none⟩ 2) (.int .i64 e.y) fun w3 => Sx.st w3 (Addr.add ⟨q, 0, none⟩ 3) (.int .i64 e.r) fun w4 =>
      Sx.st w4 (Addr.add ⟨q, 0, none⟩ 4) (.int .i64 e.vx) fun w5 => Sx.st w5 (Addr.add ⟨q, 0, none⟩ 5) (.int .i64 e.vy) fun w6 => Sx.st w6 (Addr.add ⟨q, 0, none⟩ 6) (.int .i64 e.o) fun w7 => Sx.st w7 (Addr.add ⟨q, 0, none⟩ 7) (.int .i64 e.t) fun w8 => K w8 := by
  have one : ∀ {w : World} {cs : List Value} {j : Nat} {v u : Value} {K : World → Prop}, Pw W w ((q, cs, t) :: L) F r g S B D N → cs[j]? = some u → Sx.one v = true → (∀ w', Pw W w' ((q, cs.set j v, t) :: L) F r g S B D N → K w') → Sx.st w ⟨q, j, none⟩ v K := by
    intro w cs j v u K h hj h1 hK
    refine h.st.stj 0 rfl hj h1 fun w' hs hx => hK w' ⟨hs, h.wd.ext hx fun k hk e => ?_, fun k hk => ⟨(h.fr k hk).1, fun b hb => ?_⟩⟩
    · have e' : k = q := e
      exact (h.fr k hk).2 (q, cs, t) List.mem_cons_self e'.symm
    · rcases List.mem_cons.1 hb with rfl | hb
      · exact (h.fr k hk).2 (q, cs, t) List.mem_cons_self
      · exact (h.fr k hk).2 b (List.mem_cons_of_mem _ hb)
  match cs, hc with
  | [a0, a1, a2, a3, a4, a5, a6, a7], _ =>
    simp only [add_mk, Nat.zero_add]
    exact one h rfl rfl fun w1 h1 => one h1 rfl rfl fun w2 h2 => one h2 rfl rfl fun w3 h3 => one h3 rfl rfl fun w4 h4 => one h4 rfl rfl fun w5 h5 => one h5 rfl rfl fun w6 h6 => one h6 rfl rfl fun w7 h7 => one h7 rfl rfl fun w8 h8 => hK w8 h8
end

theorem IsFree.unique {S : List Spot} {i j : Nat} {s t : Spot} (h : IsFree S i s) (h' : IsFree S j t) : i = j ∧ s = t := by
  have key : ∀ {i j : Nat} {s t : Spot}, IsFree S i s → IsFree S j t → ¬ i < j := fun h h' hlt => by
    have := h'.2.2 _ _ hlt h.1
    rw [h.2.1] at this
    cases this
  have h1 := key h h'
  have h2 := key h' h
  have e : i = j := by omega
  subst e
  have := h.1.symm.trans h'.1
  exact ⟨rfl, by simpa using this⟩

def one1 : Ent := ⟨0, 0, 0, 1, 0, 0, 0, 0⟩
def aS0 : List Spot := List.replicate 64 Spot.zero
def aS1 : List Spot := aS0.set 0 (spn Spot.zero 0 one1)
def aS2 : List Spot := aS1.set 1 (spn Spot.zero 1 one1)
def aS3 : List Spot := aS2.set 0 ⟨1, false, { one1 with h := 64 }⟩
def aS4 : List Spot := aS3.set 0 (spn ⟨1, false, { one1 with h := 64 }⟩ 0 one1)

end Go.Proofs.YtamobmjfdiecbaaDoor

/- Op: arguments laid open: what a reading of a slice of numbers, or of bools, says of its places and its length. No condition. -/
namespace Go.Sx
open Go Go.ChangeShapes Go.WideShapes Go.ChangeAt Go.RowKit

section
variable {H : Type} {enc : TypeId × Value → H} {P : Program} {W : World} {base : Nat} {t e : TypeId} {k : IntKind} {a : Option Addr} {len cap : Nat} {d : DataW H} {ps : List MemPlace} {ts : List TypeId} {ds : List (DataW H)} {j : Nat}

theorem reads_of {W : World} {x : Addr} {vs : List Value} (h : ∀ (i : Nat) (v : Value), vs[i]? = some v → W.cell? (x.add i) = some v) : Reads W (some x) vs := by
  cases vs with
  | nil => exact .inl rfl
  | cons u us =>
    have h0 := h 0 u rfl
    have hs : x.spot = none := by
      cases hsp : x.spot with
      | none => rfl
      | some s =>
        have : x.add 0 = x := by simp [Addr.add]
        rw [this] at h0
        unfold World.cell? at h0
        split at h0
        · simp [hsp] at h0
        · cases h0
    obtain ⟨b, o, sp⟩ := x
    simp only at hs
    subst hs
    exact .inr ⟨b, o, rfl, fun i v hv => by have := h i v hv; rwa [add_mk] at this⟩

theorem op_ints (hsz : (DataW.weightsEach P ts ds).all (· ≤ reachBytes) = true) (ht : ts[j]? = some t) (hd : ds[j]? = some d) (hu : P.underlying t = some (.slice e)) (he : P.underlying e = some (.int k)) (hc : P.cellsOf e = 1) {B : Nat} (hB : P.bytesOf e = B)
    (h : DataW.Trod enc P W base (fun _ => true) true t (.slice a len cap) d ps) :
    ∃ zs : List Int, Reads W a (iv k zs) ∧ zs.length = len ∧ (∀ n ∈ zs, (Lit.int k n).wf = true) ∧ len * B ≤ 140737488351232 := by
  obtain ⟨fuel, hf⟩ := h
  rcases open_ints hu he hc hf with ⟨hcs, _⟩ | ⟨x, l, c, zs, hcs, _, hl, _, hz, hx, hcell, hwf⟩
  · simp [Value.cells] at hcs
    obtain ⟨rfl, rfl, rfl⟩ := hcs
    exact ⟨[], .inl rfl, rfl, by simp, by simp⟩
  · simp [Value.cells] at hcs
    obtain ⟨rfl, rfl, rfl⟩ := hcs
    obtain ⟨hx, _⟩ := Prod.mk.inj hx
    subst hx
    simp only [if_true] at hz
    have hl2 : len ≤ zs.length := by omega
    refine ⟨zs.take len, reads_of fun i v hv => ?_, by simp; omega, fun n hn => hwf n (List.mem_of_mem_take hn), ?_⟩
    · have hi : i < len := by
        have := (List.getElem?_eq_some_iff.1 hv).1
        simp [iv] at this
        omega
      rw [hcell i (by omega)]
      rw [iv_get (by simp; omega)] at hv
      rw [← hv]
      congr 2
      simp [hi]
    · have z := sized_slice hsz ht hd hu
      rw [hB] at z
      have h1 : (lits (H := H) k (zs.take len)).length + (lits (H := H) k (zs.drop len)).length = zs.length := by
        simp [lits]
        omega
      rw [h1] at z
      exact Nat.le_trans (Nat.mul_le_mul_right _ hl2) z

theorem op_bools (hsz : (DataW.weightsEach P ts ds).all (· ≤ reachBytes) = true) (ht : ts[j]? = some t) (hd : ds[j]? = some d) (hu : P.underlying t = some (.slice e)) (he : P.underlying e = some .bool) (hc : P.cellsOf e = 1) {B : Nat} (hB : P.bytesOf e = B)
    (h : DataW.Trod enc P W base (fun _ => true) true t (.slice a len cap) d ps) :
    ∃ zs : List Bool, Reads W a (tv zs) ∧ zs.length = len ∧ len * B ≤ 140737488351232 := by
  obtain ⟨fuel, hf⟩ := h
  rcases Deep.open_bools hu he hc hf with ⟨hcs, _⟩ | ⟨x, l, c, Bo, hcs, _, hl, _, hx, hcell⟩
  · simp [Value.cells] at hcs
    obtain ⟨rfl, rfl, rfl⟩ := hcs
    exact ⟨[], .inl rfl, rfl, by simp⟩
  · simp [Value.cells] at hcs
    obtain ⟨rfl, rfl, rfl⟩ := hcs
    obtain ⟨hx, _⟩ := Prod.mk.inj hx
    refine ⟨(List.range len).map Bo, reads_of fun i v hv => ?_, by simp, ?_⟩
    · have hi : i < len := by
        have := (List.getElem?_eq_some_iff.1 hv).1
        simp [tv] at this
        omega
      rw [hcell i (by omega)]
      simp [tv, hi] at hv
      rw [← hv]
    · have hx' := hx
      unfold Deep.boolRow at hx'
      subst hx'
      have z := sized_slice hsz ht hd hu
      rw [hB] at z
      refine Nat.le_trans (Nat.mul_le_mul_right _ ?_) z
      simp

/-- how many places a reading of a slice holds -/
def dlen : DataW H → Nat
  | .slice es rs => es.length + rs.length
  | _ => 0

theorem op_dlen (hu : P.underlying t = some (.slice e)) (h : DataW.Trod enc P W base (fun _ => true) true t (.slice a len cap) d ps) : len ≤ dlen d := by
  obtain ⟨fuel, hf⟩ := h
  rcases DataW.trod_slice hu hf with ⟨hcs, _⟩ | ⟨x, l, c, elems, rest, n, _, hcs, hx, _, _, _, hl, _⟩
  · simp [Value.cells] at hcs
    obtain ⟨rfl, rfl, rfl⟩ := hcs
    exact Nat.zero_le _
  · simp [Value.cells] at hcs
    obtain ⟨rfl, rfl, rfl⟩ := hcs
    obtain ⟨hx, _⟩ := Prod.mk.inj hx
    subst hx
    simp [dlen]
    omega

/-- numbers of one byte as natural numbers -/
theorem bytes_of {zs : List Int} (h : ∀ n ∈ zs, (Lit.int .u8 n).wf = true) : ∃ bs : List Nat, iv .u8 zs = bv bs ∧ bs.length = zs.length ∧ ∀ b ∈ bs, b < 256 := by
  refine ⟨zs.map Int.toNat, ?_, by simp, ?_⟩
  · simp only [iv, bv, List.map_map]
    apply List.map_congr_left
    intro n hn
    have := h n hn
    simp only [Lit.wf, Bool.and_eq_true, IntKind.min, IntKind.max, IntKind.bits, IntKind.signed] at this
    simp at this ⊢
    omega
  · intro b hb
    simp only [List.mem_map] at hb
    obtain ⟨n, hn, rfl⟩ := hb
    have := h n hn
    simp only [Lit.wf, Bool.and_eq_true, IntKind.min, IntKind.max, IntKind.bits, IntKind.signed] at this
    simp at this
    omega

theorem i64_of {n : Int} (h : (Lit.int .i64 n).wf = true) : -9223372036854775808 ≤ n ∧ n ≤ 9223372036854775807 := by
  simp only [Lit.wf, Bool.and_eq_true, IntKind.min, IntKind.max, IntKind.bits, IntKind.signed] at h
  simp at h
  omega
end

theorem calls_of_cl {P : Program} {f : FuncId} {args : Array Value} {w : World} (h : cl P f args w fun v w' => v = .bool true ∧ Ext no w w') :
    Calls P f args w fun e w' => e = .returned (.bool true) ∧ Below w.heap.size w w' :=
  Calls.mono h fun e w' ⟨v, he, hv, hx⟩ => ⟨by rw [he, hv], hx.below fun _ _ h => h⟩
end Go.Sx

/- OpS: arguments laid open whose types are made of numbers, bools and strings alone, structs in structs too: what a reading says of their cells; slices of them. No condition. -/
namespace Go.Sx
open Go Go.ChangeShapes Go.WideShapes Go.ChangeAt Go.RowKit

inductive Lf where
  | int (k : IntKind)
  | bool
  | str

def Fits : Lf → Value → Prop
  | .int k, v => ∃ n, v = .int k n ∧ (Lit.int k n).wf = true
  | .bool, v => ∃ b, v = .bool b
  | .str, v => ∃ s, v = .string s ∧ s.size ≤ maxLen

def FitsAll : List Lf → List Value → Prop
  | [], cs => cs = []
  | l :: ls, cs => ∃ v r, cs = v :: r ∧ Fits l v ∧ FitsAll ls r

theorem FitsAll.length : ∀ {ls : List Lf} {cs : List Value}, FitsAll ls cs → cs.length = ls.length
  | [], _, h => by rw [show _ = [] from h]; rfl
  | _ :: _, _, ⟨_, _, e, _, h⟩ => by rw [e]; simp [h.length]

theorem FitsAll.append : ∀ {a b : List Lf} {x y : List Value}, FitsAll a x → FitsAll b y → FitsAll (a ++ b) (x ++ y)
  | [], _, _, _, h, k => by rw [show _ = [] from h]; exact k
  | _ :: _, _, _, _, ⟨v, r, e, f, h⟩, k => ⟨v, _, by rw [e]; rfl, f, h.append k⟩

def lfsF (P : Program) (g : TypeId → Option (List Lf)) : List Field → Nat → Option (List Lf)
  | [], _ => some []
  | f :: r, o =>
    match g f.type with
    | some l => if f.offset = o ∧ P.cellsOf f.type = l.length then (lfsF P g r (o + l.length)).map (l ++ ·) else none
    | none => none

def lfs (P : Program) : Nat → TypeId → Option (List Lf)
  | 0, _ => none
  | n + 1, t =>
    match P.underlying t with
    | some .bool => some [.bool]
    | some (.int k) => some [.int k]
    | some .string => some [.str]
    | some (.struct fs) =>
      match lfsF P (lfs P n) fs.toList 0 with
      | some l => if P.cellsOf t = l.length then some l else none
      | none => none
    | _ => none

section
variable {H : Type} {enc : TypeId × Value → H} {P : Program} {W : World} {base : Nat} {spare : Nat → Bool} {held : Bool}

theorem trod_fits : ∀ (n : Nat) {t : TypeId} {fuel : Nat} {cs : List Value} {x : DataW H × List MemPlace} {ls : List Lf}, lfs P n t = some ls → DataW.trod enc P W base spare held fuel t cs = some x → FitsAll ls cs
  | 0, _, _, _, _, _, h, _ => by simp [lfs] at h
  | n + 1, t, fuel, cs, x, ls, h, ht => by
    unfold lfs at h
    split at h
    · rename_i hu
      simp only [Option.some.injEq] at h
      subst h
      obtain ⟨b, h1, _⟩ := DataW.trod_bool hu ht
      exact ⟨_, [], h1, ⟨b, rfl⟩, rfl⟩
    · rename_i k hu
      simp only [Option.some.injEq] at h
      subst h
      obtain ⟨m, h1, _, hw⟩ := DataW.trod_int hu ht
      exact ⟨_, [], h1, ⟨m, rfl, hw⟩, rfl⟩
    · rename_i hu
      simp only [Option.some.injEq] at h
      subst h
      obtain ⟨s, h1, _, hw⟩ := DataW.trod_string hu ht
      exact ⟨_, [], h1, ⟨s, rfl, hw⟩, rfl⟩
    · rename_i fs hu
      split at h
      · rename_i l hl
        split at h
        · rename_i hc
          simp only [Option.some.injEq] at h
          subst h
          obtain ⟨xs, m, _, _, hlen, hxs, hf⟩ := DataW.trod_struct hu ht
          have each : ∀ f ∈ fs.toList, ∃ y, DataW.trod enc P W base spare held m f.type ((cs.drop f.offset).take (P.cellsOf f.type)) = some y := by
            intro f hfm
            obtain ⟨i, hi⟩ := List.getElem?_of_mem hfm
            have hi' : fs[i]? = some f := by simpa using hi
            have hlt : i < xs.length := by
              rw [hxs]
              exact (Array.getElem?_eq_some_iff.1 hi').1
            exact ⟨xs[i], (hf i f hi').trans (List.getElem?_eq_getElem hlt)⟩
          have go : ∀ (r : List Field) (o : Nat) (l : List Lf), lfsF P (lfs P n) r o = some l → (∀ f ∈ r, ∃ y, DataW.trod enc P W base spare held m f.type ((cs.drop f.offset).take (P.cellsOf f.type)) = some y) → FitsAll l ((cs.drop o).take l.length) := by
            intro r
            induction r with
            | nil =>
              intro o l hr _
              simp only [lfsF, Option.some.injEq] at hr
              subst hr
              show List.take 0 _ = []
              simp
            | cons f r ih =>
              intro o l hr he
              simp only [lfsF] at hr
              split at hr
              · rename_i lf hlf
                split at hr
                · rename_i hoff
                  obtain ⟨l', hl', rfl⟩ := Option.map_eq_some_iff.1 hr
                  obtain ⟨y, hy⟩ := he f (List.mem_cons_self ..)
                  have h1 := trod_fits n hlf hy
                  rw [hoff.1, hoff.2] at h1
                  have h2 := ih _ _ hl' fun g hg => he g (List.mem_cons_of_mem _ hg)
                  rw [List.length_append, List.take_add, List.drop_drop]
                  exact h1.append h2
                · cases hr
              · cases hr
          have := go _ _ _ hl each
          rw [List.drop_zero, List.take_of_length_le (by rw [hlen, hc]; exact Nat.le_refl _)] at this
          exact this
        · cases h
      · cases h
    · cases h

theorem op_agg {t : TypeId} {fs : Array Field} {r : Reach} {b0 : Nat} {v : Value} {d : DataW H} {ps : List MemPlace} (hs : P.underlying t = some (.struct fs)) (hv : Value.okWide P W r b0 t v)
    (h : DataW.Trod enc P W base spare held t v d ps) {n : Nat} {ls : List Lf} (hl : lfs P n t = some ls) : ∃ cs : List Value, v = .agg cs.toArray ∧ FitsAll ls cs := by
  obtain ⟨cs, rfl, _⟩ := okWide_struct hs hv
  obtain ⟨fuel, hf⟩ := h
  exact ⟨cs.toList, by simp, trod_fits n hl hf⟩

theorem flat_get {α : Type} {C : Nat} (hC : 0 < C) : ∀ {chunks : List (List α)} (k : Nat), (∀ c ∈ chunks, c.length = C) → chunks.flatten[k]? = (chunks[k / C]?).bind fun c => c[k % C]?
  | [], k, _ => by simp
  | c :: r, k, h => by
    have hc := h c (List.mem_cons_self ..)
    rw [List.flatten_cons]
    by_cases hk : k < C
    · rw [List.getElem?_append_left (by omega), Nat.div_eq_of_lt hk, Nat.mod_eq_of_lt hk]
      simp
    · rw [List.getElem?_append_right (by omega), hc, flat_get hC _ fun c' hc' => h c' (List.mem_cons_of_mem _ hc')]
      have e1 : k / C = (k - C) / C + 1 := by
        have : k = (k - C) + C := by omega
        rw [this, Nat.add_div_right _ hC]
        simp
      have e2 : k % C = (k - C) % C := by
        have : k = (k - C) + C := by omega
        rw [this, Nat.add_mod_right]
        simp
      rw [e1, e2]
      simp

theorem op_slice {t e : TypeId} {a : Option Addr} {len cap : Nat} {d : DataW H} {ps : List MemPlace} {ts : List TypeId} {ds : List (DataW H)} {j : Nat}
    (hsz : (DataW.weightsEach P ts ds).all (· ≤ reachBytes) = true) (ht : ts[j]? = some t) (hd : ds[j]? = some d) (hu : P.underlying t = some (.slice e)) {n : Nat} {ls : List Lf} (hl : lfs P n e = some ls) (hpos : 0 < ls.length) (hC : P.cellsOf e = ls.length) {B : Nat} (hB : P.bytesOf e = B)
    (h : DataW.Trod enc P W base (fun _ => true) true t (.slice a len cap) d ps) :
    ∃ chunks : List (List Value), Reads W a chunks.flatten ∧ chunks.length = len ∧ (∀ c ∈ chunks, FitsAll ls c) ∧ len * B ≤ 140737488351232 := by
  obtain ⟨fuel, hf⟩ := h
  rcases DataW.trod_slice hu hf with ⟨hcs, _⟩ | ⟨x, l, c, elems, rest, m, _, hcs, hx, _, _, _, hel, hat, _⟩
  · simp [Value.cells] at hcs
    obtain ⟨rfl, rfl, rfl⟩ := hcs
    exact ⟨[], .inl rfl, rfl, by simp, by simp⟩
  · simp [Value.cells] at hcs
    obtain ⟨rfl, rfl, rfl⟩ := hcs
    obtain ⟨hx, _⟩ := Prod.mk.inj hx
    have each : ∀ i, i < len → ∃ cs, W.cells? base (x.add (i * ls.length)) ls.length = some cs ∧ FitsAll ls cs := by
      intro i hi
      have := hat i hi
      rw [List.getElem?_eq_getElem (by omega), hC] at this
      cases hcc : W.cells? base (x.add (i * ls.length)) ls.length with
      | none => rw [hcc] at this; simp at this
      | some cs =>
        rw [hcc] at this
        exact ⟨cs, rfl, trod_fits n hl this⟩
    refine ⟨(List.range len).map fun i => (W.cells? base (x.add (i * ls.length)) ls.length).getD [], ?_, by simp, ?_, ?_⟩
    · refine reads_of fun k v hv => ?_
      have hall : ∀ c ∈ ((List.range len).map fun i => (W.cells? base (x.add (i * ls.length)) ls.length).getD []), c.length = ls.length := by
        intro c hc
        simp only [List.mem_map, List.mem_range] at hc
        obtain ⟨i, hi, rfl⟩ := hc
        obtain ⟨cs, h1, h2⟩ := each i hi
        rw [h1]
        exact h2.length
      rw [flat_get hpos k hall] at hv
      obtain ⟨c, hc, hv⟩ := Option.bind_eq_some_iff.1 hv
      have hi : k / ls.length < len := by
        have := (List.getElem?_eq_some_iff.1 hc).1
        simpa using this
      obtain ⟨cs, h1, h2⟩ := each _ hi
      simp [hi, h1] at hc
      subst hc
      obtain ⟨_, _, hcell⟩ := World.cells?_some h1
      have hm : k % ls.length < ls.length := Nat.mod_lt _ hpos
      have := hcell _ hm
      rw [Go.Deep.add_add] at this
      have ek : k / ls.length * ls.length + k % ls.length = k := by
        rw [Nat.mul_comm]
        exact Nat.div_add_mod k ls.length
      rw [ek] at this
      rw [this, hv]
    · intro c hc
      simp only [List.mem_map, List.mem_range] at hc
      obtain ⟨i, hi, rfl⟩ := hc
      obtain ⟨cs, h1, h2⟩ := each i hi
      rw [h1]
      exact h2
    · have hd' := hd
      rw [hx] at hd'
      have z := sized_slice hsz ht hd' hu
      rw [hB] at z
      refine Nat.le_trans (Nat.mul_le_mul_right _ ?_) z
      simp
      omega
end
end Go.Sx

/- WoL1: arguments that are entities; the law WorldFull comes out true for every input. Conditions: those of the law's arguments as they are read. -/
namespace Go.Proofs.YtamobmjfdiecbaaDoor
open Go Go.Sx Go.Fp
attribute [local irreducible] jn lv ld st nw asI asB asP asS asY asM asF asA asT lp rn ru rq cl dw dr bnd bn2 nz nn hd hr so eqW
attribute [local irreducible] callOk

def i8 : List Lf := [.int .i64, .int .i64, .int .i64, .int .i64, .int .i64, .int .i64, .int .i64, .int .i64]
def Ent.I (e : Ent) : Prop := I64 e.h ∧ I64 e.x ∧ I64 e.y ∧ I64 e.r ∧ I64 e.vx ∧ I64 e.vy ∧ I64 e.o ∧ I64 e.t

theorem ent_of {z : List Value} (h : FitsAll [.int .i64, .int .i64, .int .i64, .int .i64, .int .i64, .int .i64, .int .i64, .int .i64] z) : ∃ e : Ent, z = e.cells ∧ e.I := by
  obtain ⟨_, _, rfl, ⟨x0, rfl, h0⟩, _, _, rfl, ⟨x1, rfl, h1⟩, _, _, rfl, ⟨x2, rfl, h2⟩, _, _, rfl, ⟨x3, rfl, h3⟩, _, _, rfl, ⟨x4, rfl, h4⟩, _, _, rfl, ⟨x5, rfl, h5⟩, _, _, rfl, ⟨x6, rfl, h6⟩, _, _, rfl, ⟨x7, rfl, h7⟩, rfl⟩ := h
  exact ⟨⟨x0, x1, x2, x3, x4, x5, x6, x7⟩, rfl, i64_of h0, i64_of h1, i64_of h2, i64_of h3, i64_of h4, i64_of h5, i64_of h6, i64_of h7⟩

theorem and63 (x : Int) : 0 ≤ Go.bits .and .i64 x 63 ∧ Go.bits .and .i64 x 63 ≤ 63 := by
  have h : ∀ a : Nat, a ≤ 63 → 0 ≤ IntKind.wrap .i64 (a : Int) ∧ IntKind.wrap .i64 (a : Int) ≤ 63 := fun a ha => by
    rw [wr64 (by omega) (by omega)]; omega
  simp only [Go.bits]
  refine h _ ?_
  rw [BitVec.toNat_and]
  refine Nat.le_trans Nat.and_le_right ?_
  decide

/-- a world in which the first places are taken by one and the same -/
def fullS (e : Ent) (i : Nat) : List Spot := (List.range i).map (fun j => spn Spot.zero j e) ++ List.replicate (64 - i) Spot.zero

theorem fullS_lt {e : Ent} {i j : Nat} (h : j < i) : (fullS e i)[j]? = some (spn Spot.zero j e) := by
  unfold fullS
  rw [List.getElem?_append_left (by simpa using h)]
  simp [h]
theorem fullS_ge {e : Ent} {i j : Nat} (h : i ≤ j) (hj : j < 64) : (fullS e i)[j]? = some Spot.zero := by
  unfold fullS
  rw [List.getElem?_append_right (by simpa using h)]
  have e1 : ((List.range i).map (fun j => spn Spot.zero j e)).length = i := by simp
  rw [e1, List.getElem?_replicate, if_pos (by omega)]
theorem fullS_len {e : Ent} {i : Nat} (h : i ≤ 64) : (fullS e i).length = 64 := by
  unfold fullS
  simp
  omega
theorem fullS_set {e : Ent} {i : Nat} (h : i < 64) : (fullS e i).set i (spn Spot.zero i e) = fullS e (i + 1) := by
  apply List.ext_getElem?
  intro j
  by_cases hj : j = i
  · subst hj
    rw [List.getElem?_set_self (by rw [fullS_len (by omega)]; exact h), fullS_lt (by omega)]
  · rw [List.getElem?_set_ne (fun e => hj e.symm)]
    rcases Nat.lt_or_gt_of_ne hj with hj' | hj'
    · rw [fullS_lt hj', fullS_lt (by omega)]
    · by_cases h64 : j < 64
      · rw [fullS_ge (by omega) h64, fullS_ge (by omega) h64]
      · rw [List.getElem?_eq_none (by rw [fullS_len (by omega)]; omega), List.getElem?_eq_none (by rw [fullS_len (by omega)]; omega)]
theorem fullS_free {e : Ent} {i : Nat} (h : i < 64) : IsFree (fullS e i) i Spot.zero :=
  ⟨fullS_ge (Nat.le_refl _) h, rfl, fun j s hj hs => by rw [fullS_lt hj] at hs; cases hs; rfl⟩

end Go.Proofs.YtamobmjfdiecbaaDoor

/- WoJ: entities that equal themselves, lists of entities that are read, the list of a world beside it. Conditions: those of each theorem, on its arguments. -/
namespace Go.Proofs.YtamobmjfdiecbaaDoor
open Go Go.Sx Go.Fp
attribute [local irreducible] jn lv ld st nw asI asB asP asS asY asM asF asA asT lp rn ru rq cl dw dr bnd bn2 nz nn hd hr so eqW
attribute [local irreducible] callOk

theorem _root_.Go.Sx.Reads.no {w w' : World} (hx : Ext no w w') {p : Option Addr} {vs : List Value} (h : Reads w p vs) : Reads w' p vs := h.ext hx fun _ _ h => h

theorem equal_self {t : TypeId} {x : Value} {m : Nat} (hk : Tryd.prog.keyTypeAt m t = true) (hm : m ≤ 10000) (hf : x.formed Tryd.prog t = true) {D : Nat} {l : List Lit} (hl : Tryd.prog.keyLits D t x.cells.toList = some l) (w : World) :
    (Op.equal t x x).run Tryd.prog w = .ok true w := by
  obtain ⟨r, hr, hiff⟩ := run_equalIn_deep (P := Tryd.prog) (10000 - m) m t hk w D D x x l l hf hf hl hl
  have e : 10000 - m + m = 10000 := by omega
  rw [e] at hr
  have : r = true := hiff.2 rfl
  subst this
  exact hr
theorem eqW_self {t : TypeId} {x : Value} {m : Nat} (hg : Tryd.prog.eqGuardType Tryd.prog.depth t = false) (hk : Tryd.prog.keyTypeAt m t = true) (hm : m ≤ 10000) (hf : x.formed Tryd.prog t = true) {D : Nat} {l : List Lit} (hl : Tryd.prog.keyLits D t x.cells.toList = some l)
    {K : Bool → Prop} (h : K true) : eqW Tryd.prog t x x K := eqW_mk hg (fun w => equal_self hk hm hf hl w) h

theorem wfI {n : Int} (h : I64 n) : (Lit.int .i64 n).wf = true := by
  obtain ⟨h1, h2⟩ := h
  simp only [Lit.wf, Bool.and_eq_true, decide_eq_true_eq, IntKind.min, IntKind.max, IntKind.bits, IntKind.signed]
  simp
  omega
theorem cE : Tryd.prog.cellsOf 40 = 8 := by kernel_rfl
theorem cB : Tryd.prog.cellsOf 38 = 3 := by kernel_rfl
theorem cV : Tryd.prog.cellsOf 36 = 2 := by kernel_rfl
theorem cI : Tryd.prog.cellsOf 3 = 1 := by kernel_rfl
theorem lits8 {e : Ent} (h : e.I) : Tryd.prog.keyLits 4 40 e.v.cells.toList = some [.int .i64 e.h, .int .i64 e.x, .int .i64 e.y, .int .i64 e.r, .int .i64 e.vx, .int .i64 e.vy, .int .i64 e.o, .int .i64 e.t] := by
  obtain ⟨h0, h1, h2, h3, h4, h5, h6, h7⟩ := h
  simp [Program.keyLits, Tryd.underlying40, Tryd.underlying38, Tryd.underlying36, Tryd.underlying3, cE, cB, cV, cI, Ent.v, Ent.cells, Value.cells, wfI h0, wfI h1, wfI h2, wfI h3, wfI h4, wfI h5, wfI h6, wfI h7]
  try rw [if_pos (by decide)]
  try rfl
set_option maxRecDepth 100000 in
theorem eqEnt {e : Ent} (h : e.I) {K : Bool → Prop} (hK : K true) : eqW Tryd.prog 40 e.v e.v K :=
  eqW_self (m := 4) (by kernel_rfl) (by kernel_rfl) (by decide) rfl (lits8 h) hK

theorem ents_of {ls : List Lf} (hl : ls = [.int .i64, .int .i64, .int .i64, .int .i64, .int .i64, .int .i64, .int .i64, .int .i64]) : ∀ {R : List (List Value)}, (∀ c ∈ R, FitsAll ls c) → ∃ es : List Ent, R.flatten = es.flatMap Ent.cells ∧ es.length = R.length ∧ ∀ e ∈ es, e.I
  | [], _ => ⟨[], rfl, rfl, by simp⟩
  | c :: R, h => by
    subst hl
    obtain ⟨e, rfl, he⟩ := ent_of (h c List.mem_cons_self)
    obtain ⟨es, h1, h2, h3⟩ := ents_of rfl (R := R) fun c hc => h c (List.mem_cons_of_mem _ hc)
    refine ⟨e :: es, by rw [List.flatten_cons, h1]; rfl, by simp [h2], fun x hx => ?_⟩
    rcases List.mem_cons.1 hx with rfl | hx
    · exact he
    · exact h3 x hx

theorem ld8c {w : World} {A : Addr} {e : Ent} (hc : ∀ k, k < 8 → w.cell? (Addr.add A k) = e.cells[k]?) {K : Int → Int → Int → Int → Int → Int → Int → Int → Prop} (hK : K e.h e.x e.y e.r e.vx e.vy e.o e.t) :
    ld w A fun v1 => asI .i64 v1 fun x0 => ld w (Addr.add A 1) fun v2 => asI .i64 v2 fun x1 => ld w (Addr.add A 2) fun v3 => asI .i64 v3 fun x2 => ld w (Addr.add A 3) fun v4 => asI .i64 v4 fun x3 =>
      ld w (Addr.add A 4) fun v5 => asI .i64 v5 fun x4 => ld w (Addr.add A 5) fun v6 => asI .i64 v6 fun x5 => ld w (Addr.add A 6) fun v7 => asI .i64 v7 fun x6 => ld w (Addr.add A 7) fun v8 => asI .i64 v8 fun x7 => K x0 x1 x2 x3 x4 x5 x6 x7 :=
  ld8 (by have := hc 0 (by decide); rwa [Sx.add_zero'] at this) (hc 1 (by decide)) (hc 2 (by decide)) (hc 3 (by decide)) (hc 4 (by decide)) (hc 5 (by decide)) (hc 6 (by decide)) (hc 7 (by decide)) hK

theorem hd8c {w : World} {A : Addr} {e : Ent} (hc : ∀ k, k < 8 → w.cell? (Addr.add A k) = e.cells[k]?) {X : Prop} (hX : X) :
    hd w A (.int .i64 e.h) (hd w (Addr.add A 1) (.int .i64 e.x) (hd w (Addr.add A 2) (.int .i64 e.y) (hd w (Addr.add A 3) (.int .i64 e.r) (hd w (Addr.add A 4) (.int .i64 e.vx) (hd w (Addr.add A 5) (.int .i64 e.vy) (hd w (Addr.add A 6) (.int .i64 e.o) (hd w (Addr.add A 7) (.int .i64 e.t) X))))))) :=
  hd_i (by have := hc 0 (by decide); rwa [Sx.add_zero'] at this) (hd_i (hc 1 (by decide)) (hd_i (hc 2 (by decide)) (hd_i (hc 3 (by decide)) (hd_i (hc 4 (by decide)) (hd_i (hc 5 (by decide)) (hd_i (hc 6 (by decide)) (hd_i (hc 7 (by decide)) hX)))))))

theorem rsame_k {w : World} {a b : Option Addr} {n m ca cb : Nat} {es : List Ent} (hI : ∀ e ∈ es, e.I) (ha : Reads w a (es.flatMap Ent.cells)) (hb : Reads w b (es.flatMap Ent.cells)) (hn : es.length = n) (hm : es.length = m) (hM : n ≤ 140737488351232) {K : Value → World → Prop}
    (hK : ∀ w', Ext no w w' → K (.bool true) w') : cl Tryd.prog 18 #[.slice a n ca, .slice b m cb] w K := by
  subst hm
  subst hn
  apply F18_calls
  unfold F18
  refine cond_f (by simp) (lv_i ?_)
  refine lp_mk (fun i : Nat => [.int .i64 (i : Int)]) (fun m i w' => m = es.length - i ∧ i ≤ es.length ∧ Ext no w w') es.length 0 rfl ⟨rfl, Nat.zero_le _, Ext.refl _ _⟩ ?_
  rintro _ i w1 ⟨rfl, hi, hx⟩ J hJ
  refine asI_i rfl (cond_split (fun hc => ?_) (fun _ => hK w1 hx))
  have hlt : i < es.length := by
    have := of_decide_eq_true hc
    omega
  have he : es[i]? = some es[i] := List.getElem?_eq_getElem hlt
  have hIe := hI _ (List.getElem_mem hlt)
  generalize es[i] = e at he hIe
  refine dw_mk ?_
  have hx' : Ext no w w1.drew := hx.trans (Ext.drew w1)
  have hl8 : ∀ a, (∀ k, k < 8 → w1.drew.cell? (Addr.add (Addr.add a (i * 8)) k) = e.cells[k]?) → ∀ k, k < 8 → w1.cell? (Addr.add (Addr.add a (i * 8)) k) = e.cells[k]? := fun a h k hk => h k hk
  refine Reads.atN (f := Ent.cells) Ent.cells_length (Reads.no hx' ha) rfl he (by decide) fun a' _ hca => ?_
  rw [Int.toNat_natCast]
  refine ld8c hca ?_
  refine Reads.atN (f := Ent.cells) Ent.cells_length (Reads.no hx' hb) rfl he (by decide) fun b' _ hcb => ?_
  refine ld8c hcb (eqEnt hIe (cond_f rfl (lv_i ?_)))
  have ei : IntKind.wrap .i64 ((i : Int) + 1) = ((i + 1 : Nat) : Int) := by rw [wr64 (by omega) (by omega)]; omega
  rw [ei]
  exact hJ (es.length - (i + 1)) (i + 1) _ (by omega) ⟨rfl, by omega, hx'⟩

section
variable {W w : World} {L : List (Nat × List Value × TypeId)} {F : Nat → Prop} {r g : Nat} {S : List Spot} {B : List (Int × Bx)} {D : List ((Int × Int) × List Int)} {N : Nat}

theorem Pw.tail {x : Nat × List Value × TypeId} (h : Pw W w (x :: L) F r g S B D N) : Pw W w L F r g S B D N := ⟨h.st.tail, h.wd, fun k hk => ⟨(h.fr k hk).1, fun b hb => (h.fr k hk).2 b (List.mem_cons_of_mem _ hb)⟩⟩

/-- a block laid since -/
theorem Pw.add (h : Pw W w L F r g S B D N) {w' : World} (hx : Ext no w w') {q : Nat} {cs : List Value} {t : TypeId} (hq : w.heap.size ≤ q) (hb : w'.heap[q]? = some (.cells cs.toArray t (0, 0))) : Pw W w' ((q, cs, t) :: L) F r g S B D N := by
  have h' := h.to hx
  have := h.st.ext.size
  refine ⟨⟨h'.st.ext, fun b hb' => ?_, List.Pairwise.cons (fun b hb' => ?_) h'.st.nd⟩, h'.wd, fun k hk => ⟨(h.fr k hk).1, fun b hb' => ?_⟩⟩
  · rcases List.mem_cons.1 hb' with rfl | hb'
    · exact ⟨hb, by simp only; omega⟩
    · exact h'.st.kn b hb'
  · have := blk_lt (h.st.kn b hb').1
    simp only
    omega
  · rcases List.mem_cons.1 hb' with rfl | hb'
    · have := h.lt k hk
      simp only
      omega
    · exact (h.fr k hk).2 b hb'

/-- the blocks of LL hold the list es at p -/
def Holds (LL : List (Nat × List Value × TypeId)) (p : Option Addr) (es : List Ent) : Prop := ∀ w : World, (∀ b ∈ LL, w.heap[b.1]? = some (.cells b.2.1.toArray b.2.2 (0, 0))) → Reads w p (es.flatMap Ent.cells)

theorem Pw.reads {LL : List (Nat × List Value × TypeId)} {p : Option Addr} {es : List Ent} (h : Pw W w L F r g S B D N) (hH : Holds LL p es) (hs : ∀ b ∈ LL, b ∈ L) : Reads w p (es.flatMap Ent.cells) := hH w fun b hb => (h.st.kn b (hs b hb)).1

theorem Pw.list (h : Pw W w L F r g S B D N) {K : Value → World → Prop}
    (hK : ∀ p c w' LL, Pw W w' (LL ++ L) F r g S B D N → Holds LL p (listS S) → K (.slice p (listS S).length c) w') :
    cl Tryd.prog 10 #[.pointer (some ⟨r, 0, none⟩)] w K := by
  refine list_k h.wd.ws fun p c w' hx hr => ?_
  rcases hr.cases with ⟨rfl, _, _, h0⟩ | ⟨q, cur, rfl, hq, hb, _, _, _, ht⟩
  · exact hK none c w' [] (h.to hx) fun _ _ => .inl h0
  · refine hK _ c w' [(q, cur.toList, _)] (h.add hx hq (by simpa using hb)) fun w1 hw1 => .inr ⟨q, 0, rfl, fun i v hv => ?_⟩
    have hb1 := hw1 _ List.mem_cons_self
    rw [blk_cell hb1, Nat.zero_add]
    rw [← ht, List.getElem?_take] at hv
    split at hv
    · simpa using hv
    · cases hv
end
end Go.Proofs.YtamobmjfdiecbaaDoor

/- PhE: rows of boxes; whether all may be. Conditions: those of each theorem, on its arguments. -/
namespace Go.Proofs.YtamobmjfdiecbaaDoor
open Go Go.Sx
attribute [local irreducible] jn lv ld st nw asI asB asP asS asY asM asF asA asT lp rn ru rq cl dw dr bnd bn2 nz nn hd hr so eqW

def fl (bs : List Bx) : List Value := bs.flatMap Bx.cells
theorem fl_length (bs : List Bx) : (fl bs).length = bs.length * 3 := by
  induction bs with
  | nil => rfl
  | cons b bs ih =>
    have : fl (b :: bs) = b.cells ++ fl bs := rfl
    rw [this, List.length_append, ih]
    simp [Bx.cells]
    omega
theorem fl_get : ∀ {bs : List Bx} {i : Nat} {b : Bx}, bs[i]? = some b → ∀ k, k < 3 → (fl bs)[i * 3 + k]? = b.cells[k]?
  | [], _, _, h, _, _ => by simp at h
  | c :: bs, 0, b, h, k, hk => by
    simp only [List.getElem?_cons_zero, Option.some.injEq] at h
    subst h
    have : fl (c :: bs) = c.cells ++ fl bs := rfl
    rw [this, Nat.zero_mul, Nat.zero_add, List.getElem?_append_left (by simpa [Bx.cells] using hk)]
  | c :: bs, i + 1, b, h, k, hk => by
    have : fl (c :: bs) = c.cells ++ fl bs := rfl
    have hl : c.cells.length = 3 := rfl
    rw [this, List.getElem?_append_right (by omega), hl]
    have e : (i + 1) * 3 + k - 3 = i * 3 + k := by omega
    rw [e]
    exact fl_get (by simpa using h) k hk

/-- one box of a row -/
theorem bx_at {w : World} {l : Option Addr} {bs : List Bx} (hr : Reads w l (fl bs)) {i n : Nat} (hn : bs.length = n) {b : Bx} (hb : bs[i]? = some b) {K : Addr → Prop}
    (hK : ∀ a, w.cell? (Addr.add a (Int.toNat (i : Int) * 3)) = some (.int .i64 b.x) → w.cell? (Addr.add (Addr.add a (Int.toNat (i : Int) * 3)) 1) = some (.int .i64 b.y) → w.cell? (Addr.add (Addr.add a (Int.toNat (i : Int) * 3)) 2) = some (.int .i64 b.r) → K a) :
    dr l fun a => bnd (i : Int) n (K a) := by
  have hi : i < n := by
    have := (List.getElem?_eq_some_iff.1 hb).1
    omega
  refine hr.at3 (by omega) (by simpa using hi) (by rw [fl_length, hn]) ?_
  intro a h0 h1 h2
  rw [Int.toNat_natCast] at h0 h1 h2
  have g := fl_get hb
  refine hK a ?_ ?_ ?_
  · rw [Int.toNat_natCast, h0]; exact g 0 (by decide)
  · rw [Int.toNat_natCast, h1]; exact g 1 (by decide)
  · rw [Int.toNat_natCast, h2]; exact g 2 (by decide)

def allR (bs : List Bx) : Bool := bs.all Bx.right

theorem all_false {bs : List Bx} {i : Nat} {b : Bx} (hb : bs[i]? = some b) (h : b.right = false) : allR bs = false := by
  rw [allR, List.all_eq_false]
  exact ⟨b, List.mem_of_getElem? hb, by simp [h]⟩

theorem all_true {bs : List Bx} (h : ∀ j, j < bs.length → ∀ b, bs[j]? = some b → b.right = true) : allR bs = true := by
  rw [allR, List.all_eq_true]
  intro b hb
  obtain ⟨j, hj⟩ := List.getElem?_of_mem hb
  exact h j (List.getElem?_eq_some_iff.1 hj).1 b hj

theorem all_k {a : Bx} {w : World} {l : Option Addr} {n c : Nat} {bs : List Bx} (hL : Reads w l (fl bs)) (hn : bs.length = n) (hm : n ≤ 1125899906842624) {K : Value → World → Prop}
    (hK : ∀ w', Ext no w w' → K (.bool (allR bs && a.right)) w') : cl Tryd.prog 55 #[a.v, .slice l n c] w K := by
  subst hn
  apply F55_calls
  unfold F55
  have hS := St.start w
  (refine St.nw hS ?_; clear hS; intro ra _ hS)
  refine lp_mk (fun i : Nat => [.int .i64 (i : Int)]) (fun m i w' => m = bs.length - i ∧ i ≤ bs.length ∧ St w w' [(ra, a.cells, 38)] ∧ ∀ j, j < i → ∀ b, bs[j]? = some b → b.right = true) bs.length 0 rfl ⟨rfl, Nat.zero_le _, hS, by omega⟩ ?_
  clear hS
  rintro _ i w1 ⟨rfl, hi, hS, hall⟩ J hJ
  repeat (first | (refine asI_i rfl ?_) | (refine asB_i rfl ?_) | (refine asP_i rfl ?_) | (refine asS_i rfl ?_) | (refine asY_i rfl ?_) | (refine asM_i rfl ?_) | (refine asA_i rfl rfl ?_) | (refine asT_i rfl rfl ?_) | (refine lv_i ?_))
  refine cond_split (fun hc => ?_) (fun hc => ?_)
  · have hil : i < bs.length := by simpa using hc
    have hb : bs[i]? = some bs[i] := List.getElem?_eq_getElem hil
    generalize bs[i] = b at hb
    refine bx_at (Reads.no hS.ext hL) rfl hb ?_
    intro ad c0 c1 c2
    refine ld_mk c0 (asI_i rfl (ld_mk c1 (asI_i rfl (ld_mk c2 (asI_i rfl ?_)))))
    repeat (first | (refine right_k ?_; intro _ x; replace hS := hS.to x; clear x) | (refine asI_i rfl ?_) | (refine asB_i rfl ?_) | (refine asP_i rfl ?_) | (refine asS_i rfl ?_) | (refine asY_i rfl ?_) | (refine asM_i rfl ?_) | (refine asA_i rfl rfl ?_) | (refine asT_i rfl rfl ?_) | (refine lv_i ?_) | (refine St.nw hS ?_; clear hS; intro _ _ hS) | (refine St.dw hS ?_; clear hS; intro _ hS _) | (refine hS.ld0 0 rfl rfl ?_) | (refine hS.ld 0 rfl rfl ?_) | (refine hS.ld0 1 rfl rfl ?_) | (refine hS.ld 1 rfl rfl ?_) | (refine hS.ld0 2 rfl rfl ?_) | (refine hS.ld 2 rfl rfl ?_) | (refine hS.ld0 3 rfl rfl ?_) | (refine hS.ld 3 rfl rfl ?_) | (refine hS.ld0 4 rfl rfl ?_) | (refine hS.ld 4 rfl rfl ?_) | (refine hS.ld0 5 rfl rfl ?_) | (refine hS.ld 5 rfl rfl ?_) | (refine hS.ld0 6 rfl rfl ?_) | (refine hS.ld 6 rfl rfl ?_) | (refine hS.ld0 7 rfl rfl ?_) | (refine hS.ld 7 rfl rfl ?_) | (refine hS.hd0 0 rfl rfl ?_) | (refine hS.hd 0 rfl rfl ?_) | (refine hS.hd0 1 rfl rfl ?_) | (refine hS.hd 1 rfl rfl ?_) | (refine hS.hd0 2 rfl rfl ?_) | (refine hS.hd 2 rfl rfl ?_) | (refine hS.hd0 3 rfl rfl ?_) | (refine hS.hd 3 rfl rfl ?_) | (refine hS.hd0 4 rfl rfl ?_) | (refine hS.hd 4 rfl rfl ?_) | (refine hS.hd0 5 rfl rfl ?_) | (refine hS.hd 5 rfl rfl ?_) | (refine hS.hd0 6 rfl rfl ?_) | (refine hS.hd 6 rfl rfl ?_) | (refine hS.hd0 7 rfl rfl ?_) | (refine hS.hd 7 rfl rfl ?_) | (refine hS.st0 0 rfl rfl rfl ?_; clear hS; intro _ hS) | (refine hS.st 0 rfl rfl rfl ?_; clear hS; intro _ hS) | (refine hS.st0 1 rfl rfl rfl ?_; clear hS; intro _ hS) | (refine hS.st 1 rfl rfl rfl ?_; clear hS; intro _ hS) | (refine hS.st0 2 rfl rfl rfl ?_; clear hS; intro _ hS) | (refine hS.st 2 rfl rfl rfl ?_; clear hS; intro _ hS) | (refine hS.st0 3 rfl rfl rfl ?_; clear hS; intro _ hS) | (refine hS.st 3 rfl rfl rfl ?_; clear hS; intro _ hS) | (refine hS.st0 4 rfl rfl rfl ?_; clear hS; intro _ hS) | (refine hS.st 4 rfl rfl rfl ?_; clear hS; intro _ hS) | (refine hS.st0 5 rfl rfl rfl ?_; clear hS; intro _ hS) | (refine hS.st 5 rfl rfl rfl ?_; clear hS; intro _ hS) | (refine hS.st0 6 rfl rfl rfl ?_; clear hS; intro _ hS) | (refine hS.st 6 rfl rfl rfl ?_; clear hS; intro _ hS) | (refine hS.st0 7 rfl rfl rfl ?_; clear hS; intro _ hS) | (refine hS.st 7 rfl rfl rfl ?_; clear hS; intro _ hS) | (refine bnd_mk (by decide) (by decide) ?_) | (refine so_i rfl ?_))
    refine cond_split (fun h => ?_) (fun h => ?_)
    · rw [rightE_ne] at h
      have hk := hK _ hS.ext
      rw [all_false hb (by simpa using h)] at hk
      exact hk
    · rw [rightE_ne] at h
      have ei : IntKind.wrap .i64 ((i : Int) + 1) = ((i + 1 : Nat) : Int) := by rw [wr64 (by omega) (by omega)]; omega
      rw [ei]
      refine hJ (bs.length - (i + 1)) (i + 1) _ (by omega) ⟨rfl, by omega, hS.tail, fun j hj b' hb' => ?_⟩
      by_cases hji : j = i
      · subst hji
        rw [hb] at hb'
        cases hb'
        simpa using h
      · exact hall j (by omega) b' hb'
  · have hil : i = bs.length := by
      have : ¬ i < bs.length := by simpa using hc
      omega
    subst hil
    repeat (first | (refine right_k ?_; intro _ x; replace hS := hS.to x; clear x) | (refine asI_i rfl ?_) | (refine asB_i rfl ?_) | (refine asP_i rfl ?_) | (refine asS_i rfl ?_) | (refine asY_i rfl ?_) | (refine asM_i rfl ?_) | (refine asA_i rfl rfl ?_) | (refine asT_i rfl rfl ?_) | (refine lv_i ?_) | (refine St.nw hS ?_; clear hS; intro _ _ hS) | (refine St.dw hS ?_; clear hS; intro _ hS _) | (refine hS.ld0 0 rfl rfl ?_) | (refine hS.ld 0 rfl rfl ?_) | (refine hS.ld0 1 rfl rfl ?_) | (refine hS.ld 1 rfl rfl ?_) | (refine hS.ld0 2 rfl rfl ?_) | (refine hS.ld 2 rfl rfl ?_) | (refine hS.ld0 3 rfl rfl ?_) | (refine hS.ld 3 rfl rfl ?_) | (refine hS.ld0 4 rfl rfl ?_) | (refine hS.ld 4 rfl rfl ?_) | (refine hS.ld0 5 rfl rfl ?_) | (refine hS.ld 5 rfl rfl ?_) | (refine hS.ld0 6 rfl rfl ?_) | (refine hS.ld 6 rfl rfl ?_) | (refine hS.ld0 7 rfl rfl ?_) | (refine hS.ld 7 rfl rfl ?_) | (refine hS.hd0 0 rfl rfl ?_) | (refine hS.hd 0 rfl rfl ?_) | (refine hS.hd0 1 rfl rfl ?_) | (refine hS.hd 1 rfl rfl ?_) | (refine hS.hd0 2 rfl rfl ?_) | (refine hS.hd 2 rfl rfl ?_) | (refine hS.hd0 3 rfl rfl ?_) | (refine hS.hd 3 rfl rfl ?_) | (refine hS.hd0 4 rfl rfl ?_) | (refine hS.hd 4 rfl rfl ?_) | (refine hS.hd0 5 rfl rfl ?_) | (refine hS.hd 5 rfl rfl ?_) | (refine hS.hd0 6 rfl rfl ?_) | (refine hS.hd 6 rfl rfl ?_) | (refine hS.hd0 7 rfl rfl ?_) | (refine hS.hd 7 rfl rfl ?_) | (refine hS.st0 0 rfl rfl rfl ?_; clear hS; intro _ hS) | (refine hS.st 0 rfl rfl rfl ?_; clear hS; intro _ hS) | (refine hS.st0 1 rfl rfl rfl ?_; clear hS; intro _ hS) | (refine hS.st 1 rfl rfl rfl ?_; clear hS; intro _ hS) | (refine hS.st0 2 rfl rfl rfl ?_; clear hS; intro _ hS) | (refine hS.st 2 rfl rfl rfl ?_; clear hS; intro _ hS) | (refine hS.st0 3 rfl rfl rfl ?_; clear hS; intro _ hS) | (refine hS.st 3 rfl rfl rfl ?_; clear hS; intro _ hS) | (refine hS.st0 4 rfl rfl rfl ?_; clear hS; intro _ hS) | (refine hS.st 4 rfl rfl rfl ?_; clear hS; intro _ hS) | (refine hS.st0 5 rfl rfl rfl ?_; clear hS; intro _ hS) | (refine hS.st 5 rfl rfl rfl ?_; clear hS; intro _ hS) | (refine hS.st0 6 rfl rfl rfl ?_; clear hS; intro _ hS) | (refine hS.st 6 rfl rfl rfl ?_; clear hS; intro _ hS) | (refine hS.st0 7 rfl rfl rfl ?_; clear hS; intro _ hS) | (refine hS.st 7 rfl rfl rfl ?_; clear hS; intro _ hS) | (refine bnd_mk (by decide) (by decide) ?_) | (refine so_i rfl ?_))
    have hk := hK _ hS.ext
    rw [all_true hall] at hk
    have e : (a.rightE == 0) = a.right := by unfold Bx.rightE; cases a.right <;> rfl
    rw [e]
    exact hk

end Go.Proofs.YtamobmjfdiecbaaDoor
