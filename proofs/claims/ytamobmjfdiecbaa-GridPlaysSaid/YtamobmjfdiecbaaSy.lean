/-
  Sy: WORKING WITH THE FORMULAS OF Sx: the words' values at typed values; what a call leaves alone ('Ext'); rows of memory of the
  call's own, over the library's 'ownsRow'. Own work of the session; no condition.
-/
import Derived.Test.YtamobmjfdiecbaaSx
import Derived.Laws.AppendOwn
import Derived.Laws.MakeOwn
import Derived.Laws.OwnMore
import Derived.Laws.CopyRow
import Derived.Below
import Derived.ArgAppend
namespace Go.Sx
open Go Go.RowKit

/-! ### The words at typed values -/
theorem asI_mk {k : IntKind} {x : Int} {K : Int → Prop} : asI k (.int k x) K = K x := by simp [asI]
theorem asB_mk {x : Bool} {K : Bool → Prop} : asB (.bool x) K = K x := by simp [asB]
theorem asP_mk {x : Option Addr} {K : Option Addr → Prop} : asP (.pointer x) K = K x := by simp [asP]
theorem asS_mk {p : Option Addr} {n c : Nat} {K : Option Addr → Nat → Nat → Prop} : asS (.slice p n c) K = K p n c := by
  apply propext
  exact ⟨fun ⟨_, _, _, h1, h2⟩ => by cases h1; exact h2, fun h => ⟨_, _, _, rfl, h⟩⟩
theorem asY_mk {x : ByteArray} {K : ByteArray → Prop} : asY (.string x) K = K x := by simp [asY]
theorem asM_mk {x : Option Nat} {K : Option Nat → Prop} : asM (.map x) K = K x := by simp [asM]
theorem asF_mk {k : FloatKind} {x : Nat} {K : Nat → Prop} : asF k (.float k x) K = K x := by simp [asF]
theorem asC_mk {k : FloatKind} {x y : Nat} {K : Nat → Nat → Prop} : asC k (.complex k x y) K = K x y := by
  apply propext
  exact ⟨fun ⟨_, _, h1, h2⟩ => by cases h1; exact h2, fun h => ⟨_, _, rfl, h⟩⟩
theorem asN_mk {k : Nat} {fs cs : Array Value} {K : Nat → Array Value → Array Value → Prop} : asN (.func (.func k) fs cs) K = K k fs cs := by
  apply propext
  exact ⟨fun ⟨_, _, _, h1, h2⟩ => by cases h1; exact h2, fun h => ⟨_, _, _, rfl, h⟩⟩
theorem asA_mk {n : Nat} {l : List Value} {K : (Nat → Value) → Prop} (h : l.length = n) : asA n (.agg l.toArray) K = K (fun i => l.getD i undef) := by
  apply propext
  constructor
  · rintro ⟨l', h1, h2, h3⟩
    have : l = l' := by simpa using h1
    subst this
    exact h3
  · intro h'
    exact ⟨l, rfl, h, h'⟩
theorem asT_mk {n : Nat} {l : List Value} {K : (Nat → Value) → Prop} (h : l.length = n) : asT n (.tuple l.toArray) K = K (fun i => l.getD i undef) := by
  apply propext
  constructor
  · rintro ⟨l', h1, h2, h3⟩
    have : l = l' := by simpa using h1
    subst this
    exact h3
  · intro h'
    exact ⟨l, rfl, h, h'⟩
theorem dr_some {a : Addr} {K : Addr → Prop} : dr (some a) K = K a := rfl

theorem ld_mk {w : World} {a : Addr} {v : Value} {K : Value → Prop} (h : w.cell? a = some v) (hk : K v) : ld w a K := ⟨v, h, hk⟩
theorem cl_mono {P : Program} {f : FuncId} {args : Array Value} {w : World} {K K' : Value → World → Prop} (h : cl P f args w K) (hk : ∀ v w', K v w' → K' v w') : cl P f args w K' :=
  Calls.mono h fun _ _ ⟨v, he, hv⟩ => ⟨v, he, hk _ _ hv⟩
theorem rn_mk {P : Program} {s : Sem Value} {w : World} {K : Value → World → Prop} {v : Value} {w' : World} (h : s.run P w = .ok v w') (hk : K v w') : rn P s w K := by
  unfold rn; rw [h]; exact hk
theorem ru_mk {P : Program} {s : Sem Unit} {w : World} {K : World → Prop} {w' : World} (h : s.run P w = .ok () w') (hk : K w') : ru P s w K := by
  unfold ru; rw [h]; exact hk
theorem rq_mk {P : Program} {s : Sem Value} {w : World} {K : Value → Prop} {v : Value} (h : s.run P w = .ok v w) (hk : K v) : rq P s w K := ⟨v, h, hk⟩
theorem jn_mk {K : List Value → World → Prop} {B : (List Value → World → Prop) → Prop} (h : B K) : jn K B := h
theorem dw_mk {w : World} {K : World → Prop} (h : K w.drew) : dw w K := h
theorem bnd_mk {i : Int} {n : Nat} {X : Prop} (h1 : 0 ≤ i) (h2 : i < n) (h : X) : bnd i n X := ⟨⟨h1, h2⟩, h⟩
theorem bn2_mk {i : Int} {n : Nat} {X : Prop} (h1 : 0 ≤ i) (h2 : i ≤ n) (h : X) : bn2 i n X := ⟨⟨h1, h2⟩, h⟩
theorem nz_mk {y : Int} {X : Prop} (h1 : y ≠ 0) (h : X) : nz y X := by
  unfold nz
  have : (y == 0) = false := by simpa using h1
  rw [this]; exact h
theorem nn_mk {y : Int} {X : Prop} (h1 : 0 ≤ y) (h : X) : nn y X := by
  unfold nn
  have : decide (y < 0) = false := by simpa using h1
  rw [this]; exact h
theorem cond_t {b : Bool} {A B : Prop} (hb : b = true) (h : A) : cond b A B := by subst hb; exact h
theorem cond_f {b : Bool} {A B : Prop} (hb : b = false) (h : B) : cond b A B := by subst hb; exact h
theorem cond_split {b : Bool} {A B : Prop} (h1 : b = true → A) (h2 : b = false → B) : cond b A B := by cases b; exact h2 rfl; exact h1 rfl

/-- A loop, by what holds of a typed state at a number of rounds that are still to come. -/
theorem lp_mk {σ : Type} (enc : σ → List Value) (I : Nat → σ → World → Prop) {vs : List Value} {w : World}
    {body : (List Value → World → Prop) → List Value → World → Prop} (n0 : Nat) (s0 : σ) (h0 : enc s0 = vs) (hI : I n0 s0 w)
    (h : ∀ n s w, I n s w → ∀ J : List Value → World → Prop, (∀ m s' w', m < n → I m s' w' → J (enc s') w') → body J (enc s) w) : lp vs w body := by
  refine ⟨fun n vs w => ∃ s, enc s = vs ∧ I n s w, ⟨n0, s0, h0, hI⟩, ?_⟩
  rintro n vs w ⟨s, rfl, hs⟩
  exact h n s w hs _ fun m s' w' hm hi => ⟨m, hm, s', rfl, hi⟩

/-! ### What is left alone -/
/-- w' is w with new blocks, and writes to blocks of M alone; the streams are as they were. -/
structure Ext (M : Nat → Prop) (w w' : World) : Prop where
  os : w'.os = w.os
  tape : w'.tape = w.tape
  output : w'.output = w.output
  size : w.heap.size ≤ w'.heap.size
  block : ∀ k, k < w.heap.size → ¬ M k → w'.heap[k]? = w.heap[k]?

def no : Nat → Prop := fun _ => False
def onl (g : Nat) : Nat → Prop := fun k => k = g

theorem Ext.refl (M : Nat → Prop) (w : World) : Ext M w w := ⟨rfl, rfl, rfl, Nat.le_refl _, fun _ _ _ => rfl⟩
theorem Ext.trans {M : Nat → Prop} {a b c : World} (h : Ext M a b) (k : Ext M b c) : Ext M a c :=
  ⟨k.os.trans h.os, k.tape.trans h.tape, k.output.trans h.output, Nat.le_trans h.size k.size, fun i hi hm => (k.block i (Nat.lt_of_lt_of_le hi h.size) hm).trans (h.block i hi hm)⟩
theorem Ext.mono {M M' : Nat → Prop} {w w' : World} (h : Ext M w w') (hm : ∀ k, k < w.heap.size → M k → M' k) : Ext M' w w' :=
  ⟨h.os, h.tape, h.output, h.size, fun k hk hn => h.block k hk fun hmk => hn (hm k hk hmk)⟩
theorem Ext.of_no {M : Nat → Prop} {w w' : World} (h : Ext no w w') : Ext M w w' := h.mono fun _ _ hf => hf.elim
/-- a later step may write what is new, and M -/
theorem Ext.then {M M' : Nat → Prop} {a b c : World} (h : Ext M a b) (k : Ext M' b c) (hm : ∀ i, i < a.heap.size → M' i → M i) : Ext M a c :=
  ⟨k.os.trans h.os, k.tape.trans h.tape, k.output.trans h.output, Nat.le_trans h.size k.size,
    fun i hi hn => (k.block i (Nat.lt_of_lt_of_le hi h.size) fun hmi => hn (hm i hi hmi)).trans (h.block i hi hn)⟩
theorem Ext.drew (w : World) : Ext no w w.drew := ⟨rfl, rfl, rfl, Nat.le_refl _, fun _ _ _ => rfl⟩
theorem Ext.alloc (w : World) (o : Obj) : Ext no w (w.alloc o) := ⟨rfl, rfl, rfl, by simp, fun k hk _ => Below.heap_alloc w o k hk⟩
theorem Ext.set (w : World) (a : Addr) (v : Value) : Ext (onl a.block) w (w.setCell a v) :=
  ⟨rfl, rfl, rfl, by simp [World.setCell], fun _ _ hn => Below.heap_setCell w a v _ hn⟩
theorem Ext.of_grown {w w' : World} {row : Option Nat} (h : w.grownBy w' row) : Ext (fun k => some k = row) w w' :=
  ⟨h.os, h.tape, h.output, h.size, fun k hk hn => h.block k hk hn⟩
theorem Ext.below {M : Nat → Prop} {w w' : World} (h : Ext M w w') (hm : ∀ k, k < w.heap.size → ¬ M k) : Below w.heap.size w w' :=
  ⟨h.os, h.tape, h.output, h.size, fun k hk => h.block k hk (hm k hk)⟩

theorem blk_lt {w : World} {k : Nat} {o : Obj} (h : w.heap[k]? = some o) : k < w.heap.size := (Array.getElem?_eq_some_iff.1 h).1
theorem Ext.blk {M : Nat → Prop} {w w' : World} (h : Ext M w w') {k : Nat} {o : Obj} (hb : w.heap[k]? = some o) (hn : ¬ M k) : w'.heap[k]? = some o :=
  (h.block k (blk_lt hb) hn).trans hb
theorem Ext.cell {M : Nat → Prop} {w w' : World} (h : Ext M w w') {a : Addr} {v : Value} (hc : w.cell? a = some v) (hn : ¬ M a.block) : w'.cell? a = some v :=
  (World.cell?_of_block (h.block a.block (World.block_lt_of_cell? w a hc) hn)).trans hc
theorem Ext.own {M : Nat → Prop} {w w' : World} (h : Ext M w w') {base : Nat} {e : TypeId} {size : Nat} {v : Value} {n : Nat} {xs : List Value}
    (ho : w.ownsRow base e size v n xs) (hn : ∀ g, v.ownBlock = some g → ¬ M g) : w'.ownsRow base e size v n xs := by
  refine ⟨ho.1, ?_⟩
  rcases ho.2 with hx | ⟨g, cap, cur, rfl, hb, hg, rest⟩
  · exact .inl hx
  · exact .inr ⟨g, cap, cur, rfl, hb, h.blk hg (hn g rfl), rest⟩

theorem blk_cell {w : World} {k : Nat} {cs : Array Value} {t : TypeId} {fr : Nat × Nat} (h : w.heap[k]? = some (.cells cs t fr)) (j : Nat) : w.cell? ⟨k, j, none⟩ = cs[j]? := by
  simp [World.cell?, h]
theorem blk_frozen {w : World} {k : Nat} {cs : Array Value} {t : TypeId} (h : w.heap[k]? = some (.cells cs t (0, 0))) (j : Nat) : w.frozen? ⟨k, j, none⟩ = false := by
  simp [World.frozen?, h]
theorem blk_set {w : World} {k : Nat} {cs : Array Value} {t : TypeId} {fr : Nat × Nat} (h : w.heap[k]? = some (.cells cs t fr)) (j : Nat) (v : Value) :
    (w.setCell ⟨k, j, none⟩ v).heap[k]? = some (.cells (cs.setIfInBounds j v) t fr) := by
  have hlt := blk_lt h
  have he : w.heap[k] = .cells cs t fr := by
    have := Array.getElem?_eq_some_iff.1 h
    exact this.2
  simp [World.setCell, Array.getElem?_modify, h]
theorem st_mk {w : World} {k : Nat} {cs : Array Value} {t : TypeId} {j : Nat} {v : Value} {K : World → Prop} (h : w.heap[k]? = some (.cells cs t (0, 0))) (hj : j < cs.size) (ho : one v = true)
    (hk : K (w.setCell ⟨k, j, none⟩ v)) : st w ⟨k, j, none⟩ v K := by
  refine ⟨⟨cs[j], ?_⟩, blk_frozen h j, ho, hk⟩
  rw [blk_cell h]
  simp [hj]
theorem nw_mk {w : World} {o : Obj} {K : Nat → World → Prop} (h : K w.heap.size (w.alloc o)) : nw w o K := h
theorem new_blk (w : World) (o : Obj) : (w.alloc o).heap[w.heap.size]? = some o := heap_alloc_new w o
theorem new_size (w : World) (o : Obj) : (w.alloc o).heap.size = w.heap.size + 1 := by simp
theorem drew_heap (w : World) : w.drew.heap = w.heap := rfl
theorem drew_cell (w : World) (a : Addr) : w.drew.cell? a = w.cell? a := rfl

theorem add_mk (k o n : Nat) : Addr.add ⟨k, o, none⟩ n = ⟨k, o + n, none⟩ := by
  unfold Addr.add; split <;> simp_all

/-! ### Slices that are read -/
/-- the slice's places read as these values -/
def Reads (w : World) (p : Option Addr) (vs : List Value) : Prop :=
  vs = [] ∨ ∃ b o, p = some ⟨b, o, none⟩ ∧ ∀ (i : Nat) (v : Value), vs[i]? = some v → w.cell? ⟨b, o + i, none⟩ = some v

theorem Reads.ext {M : Nat → Prop} {w w' : World} (h : Ext M w w') {p : Option Addr} {vs : List Value} (hr : Reads w p vs) (hn : ∀ a, p = some a → ¬ M a.block) : Reads w' p vs := by
  rcases hr with h0 | ⟨b, o, rfl, hc⟩
  · exact .inl h0
  · exact .inr ⟨b, o, rfl, fun i v hv => h.cell (hc i v hv) (hn ⟨b, o, none⟩ rfl)⟩

theorem Reads.below {w w' : World} {B : Nat} (h : Ext (fun k => B ≤ k) w w') {p : Option Addr} {vs : List Value} (hr : Reads w p vs) (hn : ∀ a, p = some a → a.block < B) : Reads w' p vs :=
  hr.ext h fun a ha => by have := hn a ha; omega

/-- one read of a slice's place -/
theorem Reads.at {w : World} {p : Option Addr} {vs : List Value} (hr : Reads w p vs) {i : Int} {v : Value} (h0 : 0 ≤ i) (hv : vs[i.toNat]? = some v) {K : Value → Prop} (hk : K v) {n : Nat} (hn : vs.length ≤ n) :
    dr p fun a => bnd i n (ld w (Addr.add a (Int.toNat i * 1)) K) := by
  rcases hr with rfl | ⟨b, o, rfl, hc⟩
  · simp at hv
  · refine bnd_mk h0 ?_ ?_
    · have := (List.getElem?_eq_some_iff.1 hv).1
      omega
    · rw [Nat.mul_one, add_mk]
      exact ld_mk (hc _ _ hv) hk

theorem own_reads {w : World} {base : Nat} {e : TypeId} {v : Value} {n : Nat} {xs : List Value} (h : w.ownsRow base e 1 v n xs) :
    ∃ p c, v = .slice p n c ∧ Reads w p xs ∧ n ≤ c ∧ c ≤ maxLen ∧ (∀ a, p = some a → base ≤ a.block ∧ a.block < w.heap.size) := by
  have hl := h.1
  rcases h.2 with ⟨rfl, rfl⟩ | ⟨g, cap, cur, rfl, hb, hg, h1, h2, h3, h4⟩
  · refine ⟨none, 0, rfl, .inl ?_, Nat.le_refl _, by simp [maxLen], by simp⟩
    exact List.eq_nil_of_length_eq_zero (by simpa using hl)
  · refine ⟨_, cap, rfl, .inr ⟨g, 0, rfl, fun i v hv => ?_⟩, h1, h2, fun a ha => ?_⟩
    · rw [blk_cell hg, Nat.zero_add]
      rw [← h4, List.getElem?_take] at hv
      split at hv
      · simpa using hv
      · cases hv
    · cases ha
      exact ⟨hb, blk_lt hg⟩
end Go.Sx
