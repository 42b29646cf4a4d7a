/-
  Sy: WORKING WITH THE FORMULAS OF Sx: the words' values at typed values; what a call leaves alone ('Ext'); rows of memory of the
  call's own, over the library's 'ownsRow'. Own work of the session; no condition.
-/
import Derived.Test.YtfnepdppkmjboaaDoorMgSnapAcks1
import Derived.Laws.AppendOwn
import Derived.Laws.MakeOwn
import Derived.Laws.OwnMore
import Derived.Laws.CopyRow
import Derived.Below
import Derived.ArgAppend
import Derived.Laws.BytesArg
import Derived.Lib.Bytes
import Derived.Laws.BitsLemmas
import Derived.Laws.Entries
import Derived.Test.YtfnepdppkmjboaaDoorMgSnapAcks2
import Ieee.Arith
import Derived.Laws.Externs
namespace Go.Sx
open Go Go.RowKit

/-! ### The words at typed values -/
theorem asI_mk {k : IntKind} {x : Int} {K : Int → Prop} : asI k (.int k x) K = K x := by simp [asI]
theorem asB_mk {x : Bool} {K : Bool → Prop} : asB (.bool x) K = K x := by simp [asB]
theorem asP_mk {x : Option Addr} {K : Option Addr → Prop} : asP (.pointer x) K = K x := by simp [asP]
theorem asS_mk {p : Option Addr} {n c : Nat} {K : Option Addr → Nat → Nat → Prop} : asS (.slice p n c) K = K p n c := by
  apply propext
  exact ⟨fun ⟨_, _, _, h1, h2⟩ => by cases h1; exact h2, fun h => ⟨_, _, _, rfl, h⟩⟩
theorem asY_mk {x : ByteArray} {K : ByteArray → Prop} : asY (.string x) K = K x := by simp [asY]
theorem asM_mk {x : Option Nat} {K : Option Nat → Prop} : asM (.map x) K = K x := by simp [asM]
theorem asF_mk {k : FloatKind} {x : Nat} {K : Nat → Prop} : asF k (.float k x) K = K x := by simp [asF]
theorem asC_mk {k : FloatKind} {x y : Nat} {K : Nat → Nat → Prop} : asC k (.complex k x y) K = K x y := by
  apply propext
  exact ⟨fun ⟨_, _, h1, h2⟩ => by cases h1; exact h2, fun h => ⟨_, _, rfl, h⟩⟩
theorem asN_mk {k : Nat} {fs cs : Array Value} {K : Nat → Array Value → Array Value → Prop} : asN (.func (.func k) fs cs) K = K k fs cs := by
  apply propext
  exact ⟨fun ⟨_, _, _, h1, h2⟩ => by cases h1; exact h2, fun h => ⟨_, _, _, rfl, h⟩⟩
theorem asA_mk {n : Nat} {l : List Value} {K : (Nat → Value) → Prop} (h : l.length = n) : asA n (.agg l.toArray) K = K (fun i => l.getD i undef) := by
  apply propext
  constructor
  · rintro ⟨l', h1, h2, h3⟩
    have : l = l' := by simpa using h1
    subst this
    exact h3
  · intro h'
    exact ⟨l, rfl, h, h'⟩
theorem asT_mk {n : Nat} {l : List Value} {K : (Nat → Value) → Prop} (h : l.length = n) : asT n (.tuple l.toArray) K = K (fun i => l.getD i undef) := by
  apply propext
  constructor
  · rintro ⟨l', h1, h2, h3⟩
    have : l = l' := by simpa using h1
    subst this
    exact h3
  · intro h'
    exact ⟨l, rfl, h, h'⟩
theorem dr_some {a : Addr} {K : Addr → Prop} : dr (some a) K = K a := rfl

theorem ld_mk {w : World} {a : Addr} {v : Value} {K : Value → Prop} (h : w.cell? a = some v) (hk : K v) : ld w a K := ⟨v, h, hk⟩
theorem cl_mono {P : Program} {f : FuncId} {args : Array Value} {w : World} {K K' : Value → World → Prop} (h : cl P f args w K) (hk : ∀ v w', K v w' → K' v w') : cl P f args w K' :=
  Calls.mono h fun _ _ ⟨v, he, hv⟩ => ⟨v, he, hk _ _ hv⟩
theorem rn_mk {P : Program} {s : Sem Value} {w : World} {K : Value → World → Prop} {v : Value} {w' : World} (h : s.run P w = .ok v w') (hk : K v w') : rn P s w K := by
  unfold rn; rw [h]; exact hk
theorem ru_mk {P : Program} {s : Sem Unit} {w : World} {K : World → Prop} {w' : World} (h : s.run P w = .ok () w') (hk : K w') : ru P s w K := by
  unfold ru; rw [h]; exact hk
theorem rq_mk {P : Program} {s : Sem Value} {w : World} {K : Value → Prop} {v : Value} (h : s.run P w = .ok v w) (hk : K v) : rq P s w K := ⟨v, h, hk⟩
theorem jn_mk {K : List Value → World → Prop} {B : (List Value → World → Prop) → Prop} (h : B K) : jn K B := h
theorem dw_mk {w : World} {K : World → Prop} (h : K w.drew) : dw w K := h
theorem bnd_mk {i : Int} {n : Nat} {X : Prop} (h1 : 0 ≤ i) (h2 : i < n) (h : X) : bnd i n X := ⟨⟨h1, h2⟩, h⟩
theorem bn2_mk {i : Int} {n : Nat} {X : Prop} (h1 : 0 ≤ i) (h2 : i ≤ n) (h : X) : bn2 i n X := ⟨⟨h1, h2⟩, h⟩
theorem nz_mk {y : Int} {X : Prop} (h1 : y ≠ 0) (h : X) : nz y X := by
  unfold nz
  have : (y == 0) = false := by simpa using h1
  rw [this]; exact h
theorem nn_mk {y : Int} {X : Prop} (h1 : 0 ≤ y) (h : X) : nn y X := by
  unfold nn
  have : decide (y < 0) = false := by simpa using h1
  rw [this]; exact h
theorem cond_t {b : Bool} {A B : Prop} (hb : b = true) (h : A) : cond b A B := by subst hb; exact h
theorem cond_f {b : Bool} {A B : Prop} (hb : b = false) (h : B) : cond b A B := by subst hb; exact h
theorem cond_split {b : Bool} {A B : Prop} (h1 : b = true → A) (h2 : b = false → B) : cond b A B := by cases b; exact h2 rfl; exact h1 rfl

/-- A loop, by what holds of a typed state at a number of rounds that are still to come. -/
theorem lp_mk {σ : Type} (enc : σ → List Value) (I : Nat → σ → World → Prop) {vs : List Value} {w : World}
    {body : (List Value → World → Prop) → List Value → World → Prop} (n0 : Nat) (s0 : σ) (h0 : enc s0 = vs) (hI : I n0 s0 w)
    (h : ∀ n s w, I n s w → ∀ J : List Value → World → Prop, (∀ m s' w', m < n → I m s' w' → J (enc s') w') → body J (enc s) w) : lp vs w body := by
  refine ⟨fun n vs w => ∃ s, enc s = vs ∧ I n s w, ⟨n0, s0, h0, hI⟩, ?_⟩
  rintro n vs w ⟨s, rfl, hs⟩
  exact h n s w hs _ fun m s' w' hm hi => ⟨m, hm, s', rfl, hi⟩

/-! ### What is left alone -/
/-- w' is w with new blocks, and writes to blocks of M alone; the streams are as they were. -/
structure Ext (M : Nat → Prop) (w w' : World) : Prop where
  os : w'.os = w.os
  tape : w'.tape = w.tape
  output : w'.output = w.output
  size : w.heap.size ≤ w'.heap.size
  block : ∀ k, k < w.heap.size → ¬ M k → w'.heap[k]? = w.heap[k]?

def no : Nat → Prop := fun _ => False
def onl (g : Nat) : Nat → Prop := fun k => k = g

theorem Ext.refl (M : Nat → Prop) (w : World) : Ext M w w := ⟨rfl, rfl, rfl, Nat.le_refl _, fun _ _ _ => rfl⟩
theorem Ext.trans {M : Nat → Prop} {a b c : World} (h : Ext M a b) (k : Ext M b c) : Ext M a c :=
  ⟨k.os.trans h.os, k.tape.trans h.tape, k.output.trans h.output, Nat.le_trans h.size k.size, fun i hi hm => (k.block i (Nat.lt_of_lt_of_le hi h.size) hm).trans (h.block i hi hm)⟩
theorem Ext.mono {M M' : Nat → Prop} {w w' : World} (h : Ext M w w') (hm : ∀ k, k < w.heap.size → M k → M' k) : Ext M' w w' :=
  ⟨h.os, h.tape, h.output, h.size, fun k hk hn => h.block k hk fun hmk => hn (hm k hk hmk)⟩
theorem Ext.of_no {M : Nat → Prop} {w w' : World} (h : Ext no w w') : Ext M w w' := h.mono fun _ _ hf => hf.elim
/-- a later step may write what is new, and M -/
theorem Ext.then {M M' : Nat → Prop} {a b c : World} (h : Ext M a b) (k : Ext M' b c) (hm : ∀ i, i < a.heap.size → M' i → M i) : Ext M a c :=
  ⟨k.os.trans h.os, k.tape.trans h.tape, k.output.trans h.output, Nat.le_trans h.size k.size,
    fun i hi hn => (k.block i (Nat.lt_of_lt_of_le hi h.size) fun hmi => hn (hm i hi hmi)).trans (h.block i hi hn)⟩
theorem Ext.drew (w : World) : Ext no w w.drew := ⟨rfl, rfl, rfl, Nat.le_refl _, fun _ _ _ => rfl⟩
theorem Ext.alloc (w : World) (o : Obj) : Ext no w (w.alloc o) := ⟨rfl, rfl, rfl, by simp, fun k hk _ => Below.heap_alloc w o k hk⟩
theorem Ext.set (w : World) (a : Addr) (v : Value) : Ext (onl a.block) w (w.setCell a v) :=
  ⟨rfl, rfl, rfl, by simp [World.setCell], fun _ _ hn => Below.heap_setCell w a v _ hn⟩
theorem Ext.of_grown {w w' : World} {row : Option Nat} (h : w.grownBy w' row) : Ext (fun k => some k = row) w w' :=
  ⟨h.os, h.tape, h.output, h.size, fun k hk hn => h.block k hk hn⟩
theorem Ext.below {M : Nat → Prop} {w w' : World} (h : Ext M w w') (hm : ∀ k, k < w.heap.size → ¬ M k) : Below w.heap.size w w' :=
  ⟨h.os, h.tape, h.output, h.size, fun k hk => h.block k hk (hm k hk)⟩

theorem blk_lt {w : World} {k : Nat} {o : Obj} (h : w.heap[k]? = some o) : k < w.heap.size := (Array.getElem?_eq_some_iff.1 h).1
theorem Ext.blk {M : Nat → Prop} {w w' : World} (h : Ext M w w') {k : Nat} {o : Obj} (hb : w.heap[k]? = some o) (hn : ¬ M k) : w'.heap[k]? = some o :=
  (h.block k (blk_lt hb) hn).trans hb
theorem Ext.cell {M : Nat → Prop} {w w' : World} (h : Ext M w w') {a : Addr} {v : Value} (hc : w.cell? a = some v) (hn : ¬ M a.block) : w'.cell? a = some v :=
  (World.cell?_of_block (h.block a.block (World.block_lt_of_cell? w a hc) hn)).trans hc
theorem Ext.own {M : Nat → Prop} {w w' : World} (h : Ext M w w') {base : Nat} {e : TypeId} {size : Nat} {v : Value} {n : Nat} {xs : List Value}
    (ho : w.ownsRow base e size v n xs) (hn : ∀ g, v.ownBlock = some g → ¬ M g) : w'.ownsRow base e size v n xs := by
  refine ⟨ho.1, ?_⟩
  rcases ho.2 with hx | ⟨g, cap, cur, rfl, hb, hg, rest⟩
  · exact .inl hx
  · exact .inr ⟨g, cap, cur, rfl, hb, h.blk hg (hn g rfl), rest⟩

theorem blk_cell {w : World} {k : Nat} {cs : Array Value} {t : TypeId} {fr : Nat × Nat} (h : w.heap[k]? = some (.cells cs t fr)) (j : Nat) : w.cell? ⟨k, j, none⟩ = cs[j]? := by
  simp [World.cell?, h]
theorem blk_frozen {w : World} {k : Nat} {cs : Array Value} {t : TypeId} (h : w.heap[k]? = some (.cells cs t (0, 0))) (j : Nat) : w.frozen? ⟨k, j, none⟩ = false := by
  simp [World.frozen?, h]
theorem blk_set {w : World} {k : Nat} {cs : Array Value} {t : TypeId} {fr : Nat × Nat} (h : w.heap[k]? = some (.cells cs t fr)) (j : Nat) (v : Value) :
    (w.setCell ⟨k, j, none⟩ v).heap[k]? = some (.cells (cs.setIfInBounds j v) t fr) := by
  have hlt := blk_lt h
  have he : w.heap[k] = .cells cs t fr := by
    have := Array.getElem?_eq_some_iff.1 h
    exact this.2
  simp [World.setCell, Array.getElem?_modify, h]
theorem st_mk {w : World} {k : Nat} {cs : Array Value} {t : TypeId} {j : Nat} {v : Value} {K : World → Prop} (h : w.heap[k]? = some (.cells cs t (0, 0))) (hj : j < cs.size) (ho : one v = true)
    (hk : K (w.setCell ⟨k, j, none⟩ v)) : st w ⟨k, j, none⟩ v K := by
  refine ⟨⟨cs[j], ?_⟩, blk_frozen h j, ho, hk⟩
  rw [blk_cell h]
  simp [hj]
theorem nw_mk {w : World} {o : Obj} {K : Nat → World → Prop} (h : K w.heap.size (w.alloc o)) : nw w o K := h
theorem new_blk (w : World) (o : Obj) : (w.alloc o).heap[w.heap.size]? = some o := heap_alloc_new w o
theorem new_size (w : World) (o : Obj) : (w.alloc o).heap.size = w.heap.size + 1 := by simp
theorem drew_heap (w : World) : w.drew.heap = w.heap := rfl
theorem drew_cell (w : World) (a : Addr) : w.drew.cell? a = w.cell? a := rfl

theorem add_mk (k o n : Nat) : Addr.add ⟨k, o, none⟩ n = ⟨k, o + n, none⟩ := by
  unfold Addr.add; split <;> simp_all

/-! ### Slices that are read -/
/-- the slice's places read as these values -/
def Reads (w : World) (p : Option Addr) (vs : List Value) : Prop :=
  vs = [] ∨ ∃ b o, p = some ⟨b, o, none⟩ ∧ ∀ (i : Nat) (v : Value), vs[i]? = some v → w.cell? ⟨b, o + i, none⟩ = some v

theorem Reads.ext {M : Nat → Prop} {w w' : World} (h : Ext M w w') {p : Option Addr} {vs : List Value} (hr : Reads w p vs) (hn : ∀ a, p = some a → ¬ M a.block) : Reads w' p vs := by
  rcases hr with h0 | ⟨b, o, rfl, hc⟩
  · exact .inl h0
  · exact .inr ⟨b, o, rfl, fun i v hv => h.cell (hc i v hv) (hn ⟨b, o, none⟩ rfl)⟩

theorem Reads.below {w w' : World} {B : Nat} (h : Ext (fun k => B ≤ k) w w') {p : Option Addr} {vs : List Value} (hr : Reads w p vs) (hn : ∀ a, p = some a → a.block < B) : Reads w' p vs :=
  hr.ext h fun a ha => by have := hn a ha; omega

/-- one read of a slice's place -/
theorem Reads.at {w : World} {p : Option Addr} {vs : List Value} (hr : Reads w p vs) {i : Int} {v : Value} (h0 : 0 ≤ i) (hv : vs[i.toNat]? = some v) {K : Value → Prop} (hk : K v) {n : Nat} (hn : vs.length ≤ n) :
    dr p fun a => bnd i n (ld w (Addr.add a (Int.toNat i * 1)) K) := by
  rcases hr with rfl | ⟨b, o, rfl, hc⟩
  · simp at hv
  · refine bnd_mk h0 ?_ ?_
    · have := (List.getElem?_eq_some_iff.1 hv).1
      omega
    · rw [Nat.mul_one, add_mk]
      exact ld_mk (hc _ _ hv) hk

theorem own_reads {w : World} {base : Nat} {e : TypeId} {v : Value} {n : Nat} {xs : List Value} (h : w.ownsRow base e 1 v n xs) :
    ∃ p c, v = .slice p n c ∧ Reads w p xs ∧ n ≤ c ∧ c ≤ maxLen ∧ (∀ a, p = some a → base ≤ a.block ∧ a.block < w.heap.size) := by
  have hl := h.1
  rcases h.2 with ⟨rfl, rfl⟩ | ⟨g, cap, cur, rfl, hb, hg, h1, h2, h3, h4⟩
  · refine ⟨none, 0, rfl, .inl ?_, Nat.le_refl _, by simp [maxLen], by simp⟩
    exact List.eq_nil_of_length_eq_zero (by simpa using hl)
  · refine ⟨_, cap, rfl, .inr ⟨g, 0, rfl, fun i v hv => ?_⟩, h1, h2, fun a ha => ?_⟩
    · rw [blk_cell hg, Nat.zero_add]
      rw [← h4, List.getElem?_take] at hv
      split at hv
      · simpa using hv
      · cases hv
    · cases ha
      exact ⟨hb, blk_lt hg⟩
end Go.Sx

/- Sz: rows of memory of the calls' own, in the words of Sx: appends, makes, copies of bytes to strings, and the words' rules as the walks apply them. No condition. -/
namespace Go.Sx
open Go Go.RowKit

/-! ### The words' rules -/
theorem asI_i {k : IntKind} {v : Value} {x : Int} {K : Int → Prop} (e : v = .int k x) (h : K x) : asI k v K := ⟨x, e, h⟩
theorem asB_i {v : Value} {x : Bool} {K : Bool → Prop} (e : v = .bool x) (h : K x) : asB v K := ⟨x, e, h⟩
theorem asP_i {v : Value} {x : Option Addr} {K : Option Addr → Prop} (e : v = .pointer x) (h : K x) : asP v K := ⟨x, e, h⟩
theorem asS_i {v : Value} {p : Option Addr} {n c : Nat} {K : Option Addr → Nat → Nat → Prop} (e : v = .slice p n c) (h : K p n c) : asS v K := ⟨p, n, c, e, h⟩
theorem asY_i {v : Value} {x : ByteArray} {K : ByteArray → Prop} (e : v = .string x) (h : K x) : asY v K := ⟨x, e, h⟩
theorem asM_i {v : Value} {x : Option Nat} {K : Option Nat → Prop} (e : v = .map x) (h : K x) : asM v K := ⟨x, e, h⟩
theorem asF_i {k : FloatKind} {v : Value} {x : Nat} {K : Nat → Prop} (e : v = .float k x) (h : K x) : asF k v K := ⟨x, e, h⟩
theorem asA_i {n : Nat} {v : Value} {l : List Value} {K : (Nat → Value) → Prop} (e : v = .agg l.toArray) (hl : l.length = n) (h : K (fun i => l.getD i undef)) : asA n v K := ⟨l, e, hl, h⟩
theorem asT_i {n : Nat} {v : Value} {l : List Value} {K : (Nat → Value) → Prop} (e : v = .tuple l.toArray) (hl : l.length = n) (h : K (fun i => l.getD i undef)) : asT n v K := ⟨l, e, hl, h⟩
/-- a meeting, by what holds there -/
theorem jn_of {K : List Value → World → Prop} {B : (List Value → World → Prop) → Prop} (R : List Value → World → Prop) (hK : ∀ s w, R s w → K s w)
    (hB : ∀ J : List Value → World → Prop, (∀ s w, R s w → J s w) → B J) : jn K B := hB K hK
theorem lv_i {x : Int} {K : Int → Prop} (h : K x) : lv x K := h
theorem dr_i {a : Addr} {K : Addr → Prop} (h : K a) : dr (some a) K := h
theorem hd_i {w : World} {a : Addr} {v : Value} {X : Prop} (h1 : w.cell? a = some v) (h : X) : hd w a v X := ⟨h1, h⟩

/-! ### Rows -/
structure Row (w : World) (base : Nat) (e : TypeId) (p : Option Addr) (c : Nat) (xs : List Value) : Prop where
  own : w.ownsRow base e 1 (.slice p xs.length c) xs.length xs

def blocks (p : Option Addr) : Nat → Prop := fun k => ∃ a, p = some a ∧ a.block = k
/-- where a row lies after it has grown -/
def Moved (w : World) (p p' : Option Addr) : Prop := p' = p ∨ ∀ a, p' = some a → w.heap.size ≤ a.block

theorem Row.nil (w : World) (base : Nat) (e : TypeId) : Row w base e none 0 [] := ⟨World.ownsRow_nil w base e 1⟩

theorem Row.mono {w : World} {base base' : Nat} {e : TypeId} {p : Option Addr} {c : Nat} {xs : List Value} (h : Row w base e p c xs) (hb : base' ≤ base) : Row w base' e p c xs := by
  refine ⟨h.own.1, ?_⟩
  rcases h.own.2 with hx | ⟨g, cap, cur, hv, hb', rest⟩
  · exact .inl hx
  · exact .inr ⟨g, cap, cur, hv, Nat.le_trans hb hb', rest⟩

theorem Row.cases {w : World} {base : Nat} {e : TypeId} {p : Option Addr} {c : Nat} {xs : List Value} (h : Row w base e p c xs) :
    (p = none ∧ c = 0 ∧ xs = []) ∨ ∃ g cur, p = some ⟨g, 0, none⟩ ∧ base ≤ g ∧ w.heap[g]? = some (.cells cur e (0, 0)) ∧ xs.length ≤ c ∧ c ≤ maxLen ∧ cur.size = c ∧ cur.toList.take xs.length = xs := by
  rcases h.own.2 with ⟨hv, hn⟩ | ⟨g, cap, cur, hv, hb, hg, h1, h2, h3, h4⟩
  · simp only [Value.slice.injEq] at hv
    exact .inl ⟨hv.1, hv.2.2, List.eq_nil_of_length_eq_zero hn⟩
  · simp only [Value.slice.injEq, true_and] at hv
    obtain ⟨rfl, rfl⟩ := hv
    exact .inr ⟨g, cur, rfl, hb, hg, h1, h2, by simpa using h3, by simpa using h4⟩

theorem Row.at {w : World} {base : Nat} {e : TypeId} {p : Option Addr} {c : Nat} {xs : List Value} (h : Row w base e p c xs) {a : Addr} (hp : p = some a) : base ≤ a.block ∧ a.block < w.heap.size := by
  rcases h.cases with ⟨rfl, _⟩ | ⟨g, cur, rfl, hb, hg, _⟩
  · cases hp
  · cases hp; exact ⟨hb, blk_lt hg⟩

theorem Row.reads {w : World} {base : Nat} {e : TypeId} {p : Option Addr} {c : Nat} {xs : List Value} (h : Row w base e p c xs) : Reads w p xs := by
  obtain ⟨p', c', hv, hr, _⟩ := own_reads h.own
  cases hv; exact hr

theorem Row.ext {M : Nat → Prop} {w w' : World} (hx : Ext M w w') {base : Nat} {e : TypeId} {p : Option Addr} {c : Nat} {xs : List Value} (h : Row w base e p c xs)
    (hm : ∀ a, p = some a → ¬ M a.block) : Row w' base e p c xs := by
  refine ⟨hx.own h.own fun g hg => ?_⟩
  cases p with
  | none => simp [Value.ownBlock] at hg
  | some a =>
    simp only [Value.ownBlock, Option.some.injEq] at hg
    exact hg ▸ hm a rfl

/-- a write to a row -/
theorem Row.st {w : World} {base : Nat} {e : TypeId} {p : Option Addr} {c : Nat} {xs : List Value} (h : Row w base e p c xs) {i : Int} {n : Nat} {u : Value} {K : World → Prop}
    (h0 : 0 ≤ i) (hj : i.toNat < xs.length) (hn : xs.length ≤ n) (ho : one u = true)
    (hK : ∀ w', Row w' base e p c (xs.set i.toNat u) → Ext (blocks p) w w' → w'.heap.size = w.heap.size → K w') : dr p fun a => bnd i n (st w (Addr.add a (Int.toNat i * 1)) u K) := by
  rcases h.cases with ⟨_, _, rfl⟩ | ⟨g, cur, rfl, hb, hg, h1, h2, h3, h4⟩
  · simp at hj
  · refine dr_i (bnd_mk h0 (by omega) ?_)
    rw [Nat.mul_one, add_mk, Nat.zero_add]
    refine st_mk hg (by omega) ho (hK _ ?_ ((Ext.set w ⟨g, i.toNat, none⟩ u).mono fun k _ hk => ⟨_, rfl, hk.symm⟩) (by simp [World.setCell]))
    refine ⟨by simp, .inr ⟨g, c, cur.setIfInBounds i.toNat u, by simp, hb, blk_set hg _ _, by simpa using h1, h2, by simpa using h3, ?_⟩⟩
    simp only [List.length_set, Nat.mul_one, Array.toList_setIfInBounds]
    rw [List.take_set, h4]

/-- the slice that is appended: nothing, or a place -/
theorem Reads.new (w : World) (vs : List Value) (t : TypeId) : Reads (w.alloc (.cells vs.toArray t)) (some ⟨w.heap.size, 0, none⟩) vs := by
  refine .inr ⟨_, _, rfl, fun i v hv => ?_⟩
  rw [blk_cell (new_blk w _), Nat.zero_add]
  simpa using hv

/-- two rows, or blocks, that lie apart -/
def Apart (p q : Option Addr) : Prop := ∀ a b, p = some a → q = some b → a.block ≠ b.block
theorem Apart.symm {p q : Option Addr} (h : Apart p q) : Apart q p := fun a b ha hb => Ne.symm (h b a hb ha)
theorem Apart.none (q : Option Addr) : Apart none q := fun _ _ h => by cases h
theorem Moved.apart {w : World} {p p' q : Option Addr} (h : Moved w p p') (ha : Apart p q) (hq : ∀ a, q = some a → a.block < w.heap.size) : Apart p' q := by
  rcases h with rfl | h
  · exact ha
  · intro a b hpa hqb
    have := h a hpa
    have := hq b hqb
    omega
theorem Moved.trans {w w' : World} {p p' p'' : Option Addr} (h : Moved w p p') (hs : w.heap.size ≤ w'.heap.size) (k : Moved w' p' p'') : Moved w p p'' := by
  rcases k with rfl | k
  · exact h
  · exact .inr fun a ha => Nat.le_trans hs (k a ha)
theorem Row.keep {w w' : World} {q : Option Addr} (hx : Ext (blocks q) w w') {base : Nat} {e : TypeId} {p : Option Addr} {c : Nat} {xs : List Value} (h : Row w base e p c xs) (ha : Apart p q) : Row w' base e p c xs :=
  h.ext hx fun a hp ⟨b, hb, hab⟩ => ha a b hp hb hab.symm

section
variable {P : Program} {t ty e : TypeId} {i : TypeInfo} {z : Value}

theorem one_of {v : Value} (h : one v = true) : v.oneCell' = true := by cases v <;> simp_all [one, Value.oneCell']

/-- an append to a row of one's own -/
theorem rn_appC (ht : P.underlying t = some (.slice e)) (hi : P.info? e = some i) (hz : i.zero = some z) (hsize : i.size = 1) (hzs : z.cells.size = 1)
    {w : World} {base : Nat} {p : Option Addr} {n c : Nat} {xs : List Value} (hown : Row w base e p c xs) (hn : xs.length = n) (hbase : base ≤ w.heap.size)
    {q : Option Addr} {m c' : Nat} {news : List Value} (hsrc : Reads w q news) (hm : news.length = m) (h1 : ∀ u ∈ news, one u = true)
    (h63 : n + m ≤ maxLen) (hbytes : (n + m) * i.bytes ≤ 140737488355328) {K : Value → World → Prop}
    (hK : ∀ p' c'' w', Row w' base e p' c'' (xs ++ news) → Ext (blocks p) w w' → Moved w p p' → (p' = none → xs ++ news = []) → (n + m ≤ c → c'' = c) → K (.slice p' (n + m) c'') w') :
    rn P (Builtin.append_ #[t, t] ty #[.slice p n c, .slice q m c']) w K := by
  subst hn hm
  have ho := hown.own
  have h1' : ∀ u ∈ news, u.oneCell' = true := fun u hu => one_of (h1 u hu)
  have hE : ∀ {w' : World} {r : Option Nat}, w.grownBy w' r → (∀ k, r = some k → blocks p k) → Ext (blocks p) w w' := fun hg hr =>
    (Ext.of_grown hg).mono fun k _ hk => hr k hk.symm
  cases q with
  | none =>
    have hnil : news = [] := by
      rcases hsrc with h | ⟨b, o, h, _⟩
      · exact h
      · cases h
    subst hnil
    have hr : (Builtin.append_ #[t, t] ty #[.slice p xs.length c, .slice none 0 c']).run P w = .ok (.slice p xs.length c) w := by
      rcases hown.cases with ⟨rfl, rfl, rfl⟩ | ⟨g, cur, rfl, _, _, hc, _⟩
      · simp [Builtin.append_, run_underlying ht, sizeOf, typeInfo, hi, Builtin.lenOf, Builtin.firstCells]
      · simp [Builtin.append_, run_underlying ht, sizeOf, typeInfo, hi, Builtin.lenOf, Builtin.firstCells, hc, storeCells]
    refine rn_mk hr ?_
    refine hK p c w (by simpa using hown) (Ext.refl _ _) (.inl rfl) (fun hp => ?_) fun _ => rfl
    rcases hown.cases with ⟨_, _, rfl⟩ | ⟨g, cur, hpg, _⟩
    · rfl
    · rw [hp] at hpg; cases hpg
  | some a =>
    have hnews : ∀ j u, news[j]? = some u → w.cell? (a.add j) = some u := by
      intro j u hu
      rcases hsrc with h | ⟨b, o, h, hc⟩
      · subst h; simp at hu
      · cases h; rw [add_mk]; exact hc j u hu
    have hl : news.length = news.length * 1 := by simp
    rcases hown.cases with ⟨rfl, rfl, rfl⟩ | ⟨g, cur, rfl, hbg, hg, hnc, hcm, hcs, htake⟩
    · have hnil : w.ownsRow w.heap.size e 1 (.slice none 0 0) 0 [] := World.ownsRow_nil w _ e 1
      obtain ⟨v', w', hr, h2, h3, h4⟩ := run_append_own (P := P) w w.heap.size t ty e i z 1 i.bytes ht hi hz hsize rfl hzs (by decide) (.slice none 0 0) 0 [] hnil a news.length c' news hl hnews h1' h63 hbytes (Nat.le_refl _)
      obtain ⟨p', c'', hv, _, _⟩ := own_reads h2
      subst hv
      refine rn_mk hr ?_
      have hrow : Row w' w.heap.size e p' c'' ([] ++ news) := ⟨by simpa using h2⟩
      refine hK p' c'' w' (hrow.mono hbase) (hE h3 (by simp [Value.ownBlock])) (.inr fun a ha => (hrow.at ha).1) (fun hp => ?_) fun hc => ?_
      · rcases hrow.cases with ⟨_, _, h⟩ | ⟨g, cur, hpg, _⟩
        · exact h
        · rw [hp] at hpg; cases hpg
      · have : news.length = 0 := by simpa using hc
        have := h4.2 ⟨rfl, this⟩
        simp only [Value.slice.injEq] at this
        exact this.2.2
    · by_cases hroom : xs.length + news.length ≤ c
      · obtain ⟨w', hr, h2, h3⟩ := run_append_fits (P := P) w base t ty e i 1 ht hi hsize g xs.length c xs ho a news.length c' news hl hnews h1' hroom
        refine rn_mk hr (hK _ c w' ⟨by simpa using h2⟩ (hE h3 fun k hk => ⟨_, rfl, by simpa using hk⟩) (.inl rfl) (by simp) fun _ => rfl)
      · have holds : ∀ j u, xs[j]? = some u → w.cell? ((⟨g, 0, none⟩ : Addr).add j) = some u := ho.cells (g := g) rfl
        obtain ⟨v', w', hr, h2, h3⟩ := run_append_arg_grows (P := P) w t ty e i z 1 i.bytes ht hi hz hsize rfl hzs (by decide) ⟨g, 0, none⟩ xs.length c xs (by simp) holds a news.length c' news hl hnews (by omega) h63 hbytes
        obtain ⟨p', c'', hv, _, _⟩ := own_reads h2
        subst hv
        have hrow : Row w' w.heap.size e p' c'' (xs ++ news) := ⟨by simpa using h2⟩
        refine rn_mk hr (hK p' c'' w' (hrow.mono hbase) (hE h3 (by simp)) (.inr fun a ha => (hrow.at ha).1) (fun hp => ?_) fun hc => absurd hc hroom)
        rcases hrow.cases with ⟨_, _, h⟩ | ⟨g, cur, hpg, _⟩
        · exact h
        · rw [hp] at hpg; cases hpg

theorem rn_app (ht : P.underlying t = some (.slice e)) (hi : P.info? e = some i) (hz : i.zero = some z) (hsize : i.size = 1) (hzs : z.cells.size = 1)
    {w : World} {base : Nat} {p : Option Addr} {n c : Nat} {xs : List Value} (hown : Row w base e p c xs) (hn : xs.length = n) (hbase : base ≤ w.heap.size)
    {q : Option Addr} {m c' : Nat} {news : List Value} (hsrc : Reads w q news) (hm : news.length = m) (h1 : ∀ u ∈ news, one u = true)
    (h63 : n + m ≤ maxLen) (hbytes : (n + m) * i.bytes ≤ 140737488355328) {K : Value → World → Prop}
    (hK : ∀ p' c'' w', Row w' base e p' c'' (xs ++ news) → Ext (blocks p) w w' → Moved w p p' → (p' = none → xs ++ news = []) → K (.slice p' (n + m) c'') w') :
    rn P (Builtin.append_ #[t, t] ty #[.slice p n c, .slice q m c']) w K :=
  rn_appC ht hi hz hsize hzs hown hn hbase hsrc hm h1 h63 hbytes fun p' c'' w' h1 h2 h3 h4 _ => hK p' c'' w' h1 h2 h3 h4

/-- an append of one value, as the program writes it -/
theorem nw_app1 (ht : P.underlying t = some (.slice e)) (hi : P.info? e = some i) (hz : i.zero = some z) (hsize : i.size = 1) (hzs : z.cells.size = 1)
    {w : World} {base : Nat} {p : Option Addr} {n c : Nat} {xs : List Value} (hown : Row w base e p c xs) (hn : xs.length = n) (hbase : base ≤ w.heap.size)
    {v : Value} {t' : TypeId} (h1 : one v = true)
    (h63 : n + 1 ≤ maxLen) (hbytes : (n + 1) * i.bytes ≤ 140737488355328) {K : Value → World → Prop}
    (hK : ∀ p' c'' w', Row w' base e p' c'' (xs ++ [v]) → Ext (blocks p) w w' → Moved w p p' → K (.slice p' (n + 1) c'') w') :
    nw w (.cells #[v] t') fun r w1 => rn P (Builtin.append_ #[t, t] ty #[.slice p n c, .slice (some ⟨r, 0, none⟩) 1 1]) w1 K := by
  have hx : Ext no w (w.alloc (.cells #[v] t')) := Ext.alloc w _
  refine rn_app ht hi hz hsize hzs (hown.ext hx fun _ _ h => h) hn (Nat.le_trans hbase hx.size) (Reads.new w [v] t') rfl (by simpa using h1) h63 hbytes ?_
  intro p' c'' w' hr hE hmv _
  refine hK p' c'' w' hr ((Ext.of_no hx).then hE fun k _ hk => hk) ?_
  rcases hmv with h | h
  · exact .inl h
  · exact .inr fun a ha => Nat.le_trans hx.size (h a ha)

/-- make with room -/
theorem rn_make0 (ht : P.underlying t = some (.slice e)) (hi : P.info? e = some i) (hz : i.zero = some z) (hsize : i.size = 1)
    {w : World} {kl kc : IntKind} {c : Nat} (hbytes : i.bytes * c ≤ 281474976710656) (h63 : c ≤ maxLen) {K : Value → World → Prop}
    (hK : ∀ w', Row w' w.heap.size e (some ⟨w.heap.size, 0, none⟩) c [] → Ext no w w' → K (.slice (some ⟨w.heap.size, 0, none⟩) 0 c) w') :
    rn P (Instr.makeSlice t (.int kl 0) (.int kc (c : Int))) w K := by
  obtain ⟨w', hr, h2, h3⟩ := run_make_own (P := P) w w.heap.size t e i z 1 ht hi hz hsize kl kc c hbytes h63 (Nat.le_refl _)
  exact rn_mk hr (hK w' ⟨h2⟩ ((Ext.of_grown h3).mono fun _ _ h => by simp at h))

/-- make, full of zeros -/
theorem rn_makeN (ht : P.underlying t = some (.slice e)) (hi : P.info? e = some i) (hz : i.zero = some z) (hsize : i.size = 1) (hzs : z.cells = #[z])
    {w : World} {kl kc : IntKind} {n : Nat} (hbytes : i.bytes * n ≤ 281474976710656) (h63 : n ≤ maxLen) {K : Value → World → Prop}
    (hK : ∀ w', Row w' w.heap.size e (some ⟨w.heap.size, 0, none⟩) n (List.replicate n z) → Ext no w w' → K (.slice (some ⟨w.heap.size, 0, none⟩) n n) w') :
    rn P (Instr.makeSlice t (.int kl (n : Int)) (.int kc (n : Int))) w K := by
  obtain ⟨w', hr, h2, h3⟩ := run_make_full (P := P) w w.heap.size t e i z 1 ht hi hz hsize kl kc n hbytes h63 (Nat.le_refl _)
  rw [hzs, Nat.mul_one, toList_madeCells_one] at h2
  exact rn_mk hr (hK w' ⟨by simpa using h2⟩ ((Ext.of_grown h3).mono fun _ _ h => by simp at h))
end

/-- make with a length and room, told as the whole row -/
theorem rn_makeNC {P : Program} {t e : TypeId} {i : TypeInfo} {z : Value} (ht : P.underlying t = some (.slice e)) (hi : P.info? e = some i) (hz : i.zero = some z) (hsize : i.size = 1) (hzs : z.cells = #[z])
    {w : World} {kl kc : IntKind} {n c : Nat} (hnc : n ≤ c) (hbytes : i.bytes * c ≤ 281474976710656) (h63 : c ≤ maxLen) {K : Value → World → Prop}
    (hK : ∀ w', Row w' w.heap.size e (some ⟨w.heap.size, 0, Option.none⟩) c (List.replicate c z) → Ext no w w' → K (.slice (some ⟨w.heap.size, 0, Option.none⟩) n c) w') :
    rn P (Instr.makeSlice t (.int kl (n : Int)) (.int kc (c : Int))) w K := by
  have h63' : (c : Int) ≤ 9223372036854775807 := by
    simp only [maxLen] at h63
    omega
  have hb' : (i.bytes : Int) * (c : Int) ≤ 281474976710656 := by
    have h : ((i.bytes * c : Nat) : Int) ≤ 281474976710656 := by omega
    rwa [Int.natCast_mul] at h
  have hr := run_make (P := P) w t e i z ht hi hz kl kc n c (by omega) (by omega) hb' h63'
  simp only [Int.toNat_natCast] at hr
  refine rn_mk hr (hK _ ⟨?_⟩ (Ext.alloc w _))
  rw [hzs, hsize, Nat.mul_one]
  have := World.ownsRow_lit (base := w.heap.size) (e := e) (size := 1) w (madeCells #[z] c) c (Nat.le_refl _) h63 (by simp [madeCells])
  rw [toList_madeCells_one] at this
  simpa using this

/-- a copy to the head of a row -/
theorem rn_copy {P : Program} {t ty e e' : TypeId} (ht : P.underlying t = some (.slice e)) (hs : (P.info? e).map (·.size) = some 1)
    {w : World} {base : Nat} {p : Option Addr} {c : Nat} {xs : List Value} (h : Row w base e' p c xs) {n c1 : Nat} (hn : n ≤ xs.length)
    {q : Option Addr} {m c' : Nat} {news : List Value} (hsrc : Reads w q news) (hm : news.length = m) (hmn : m = n) (h1 : ∀ u ∈ news, one u = true) {K : Value → World → Prop}
    (hK : ∀ w', Row w' base e' p c (news ++ xs.drop news.length) → Ext (blocks p) w w' → K (.int .i64 (m : Int)) w') :
    rn P (Builtin.copy_ #[t, t] ty #[.slice p n c1, .slice q m c']) w K := by
  subst hmn hm
  have h1' : ∀ u ∈ news, u.oneCell' = true := fun u hu => one_of (h1 u hu)
  by_cases h0 : news = []
  · subst h0
    have hr : (Builtin.copy_ #[t, t] ty #[.slice p (List.length ([] : List Value)) c1, .slice q (List.length ([] : List Value)) c']).run P w = .ok (goInt 0) w := by
      cases hq : P.info? e with
      | none => simp [hq] at hs
      | some i => cases p <;> cases q <;> simp [Builtin.copy_, run_underlying ht, Builtin.lenOf, Builtin.firstCells, sizeOf, typeInfo, hq, storeCells, loadCells, loadCellsFrom]
    exact rn_mk hr (hK w (by simpa using h) (Ext.refl _ _))
  · rcases hsrc with hx | ⟨b, o, rfl, hc⟩
    · exact absurd hx h0
    · rcases h.cases with ⟨_, _, rfl⟩ | ⟨g, cur, rfl, hb, hg, hl, hcm, hcs, htk⟩
      · have : news.length = 0 := by simpa using hn
        exact absurd (List.eq_nil_of_length_eq_zero this) h0
      · have hr := run_copy_row (P := P) w t t ty e g 0 news.length c1 ⟨b, o, Option.none⟩ news.length c' cur e' news ht hs hg (by simp) (fun j v hv => by rw [add_mk]; exact hc j v hv) (by omega) h1'
        refine rn_mk hr (hK _ ⟨?_⟩ ⟨rfl, rfl, rfl, by simp [World.setRow], fun k _ hk => setRow_other w g k _ fun hkg => hk ⟨_, rfl, hkg.symm⟩⟩)
        have hll : (news ++ xs.drop news.length).length = xs.length := by simp; omega
        refine ⟨by simp, .inr ⟨g, c, _, by rw [hll], hb, setRow_heap w g cur _ e' _ hg, by rw [hll]; exact hl, hcm, ?_, ?_⟩⟩
        · simp
          omega
        · simp only [List.take_zero, List.nil_append, Nat.zero_add, Nat.mul_one, hll]
          rw [← htk]
          have e1 : (cur.toList.take xs.length).drop news.length = (cur.toList.drop news.length).take (xs.length - news.length) := by
            rw [List.drop_take]
          rw [e1]
          rw [List.take_append]
          have e2 : (List.take xs.length cur.toList).length = xs.length := by rw [htk]
          rw [e2]
          simp only [List.take_of_length_le hn]

/-- a type of slices whose elements take one cell -/
structure SlT (P : Program) (t e : TypeId) (z : Value) (b : Nat) : Prop where
  und : P.underlying t = some (.slice e)
  inf : ∃ i, P.info? e = some i ∧ i.zero = some z ∧ i.size = 1 ∧ i.bytes = b
  cells : z.cells = #[z]

section
variable {P : Program} {t ty e : TypeId} {z : Value} {b : Nat}

theorem SlT.appC (h : SlT P t e z b) {w : World} {base : Nat} {p : Option Addr} {n c : Nat} {xs : List Value} (hown : Row w base e p c xs) (hn : xs.length = n) (hbase : base ≤ w.heap.size)
    {q : Option Addr} {m c' : Nat} {news : List Value} (hsrc : Reads w q news) (hm : news.length = m) (h1 : ∀ u ∈ news, one u = true)
    (h63 : n + m ≤ maxLen) (hbytes : (n + m) * b ≤ 140737488355328) {K : Value → World → Prop}
    (hK : ∀ p' c'' w', Row w' base e p' c'' (xs ++ news) → Ext (blocks p) w w' → Moved w p p' → (p' = none → xs ++ news = []) → (n + m ≤ c → c'' = c) → K (.slice p' (n + m) c'') w') :
    rn P (Builtin.append_ #[t, t] ty #[.slice p n c, .slice q m c']) w K := by
  obtain ⟨i, hi, hz, hs, rfl⟩ := h.inf
  exact rn_appC h.und hi hz hs (by rw [h.cells]; rfl) hown hn hbase hsrc hm h1 h63 hbytes hK

theorem SlT.app (h : SlT P t e z b) {w : World} {base : Nat} {p : Option Addr} {n c : Nat} {xs : List Value} (hown : Row w base e p c xs) (hn : xs.length = n) (hbase : base ≤ w.heap.size)
    {q : Option Addr} {m c' : Nat} {news : List Value} (hsrc : Reads w q news) (hm : news.length = m) (h1 : ∀ u ∈ news, one u = true)
    (h63 : n + m ≤ maxLen) (hbytes : (n + m) * b ≤ 140737488355328) {K : Value → World → Prop}
    (hK : ∀ p' c'' w', Row w' base e p' c'' (xs ++ news) → Ext (blocks p) w w' → Moved w p p' → (p' = none → xs ++ news = []) → K (.slice p' (n + m) c'') w') :
    rn P (Builtin.append_ #[t, t] ty #[.slice p n c, .slice q m c']) w K := by
  obtain ⟨i, hi, hz, hs, rfl⟩ := h.inf
  exact rn_app h.und hi hz hs (by rw [h.cells]; rfl) hown hn hbase hsrc hm h1 h63 hbytes hK

theorem SlT.app1 (h : SlT P t e z b) {w : World} {base : Nat} {p : Option Addr} {n c : Nat} {xs : List Value} (hown : Row w base e p c xs) (hn : xs.length = n) (hbase : base ≤ w.heap.size)
    {v : Value} {t' : TypeId} (h1 : one v = true)
    (h63 : n + 1 ≤ maxLen) (hbytes : (n + 1) * b ≤ 140737488355328) {K : Value → World → Prop}
    (hK : ∀ p' c'' w', Row w' base e p' c'' (xs ++ [v]) → Ext (blocks p) w w' → Moved w p p' → K (.slice p' (n + 1) c'') w') :
    nw w (.cells #[v] t') fun r w1 => rn P (Builtin.append_ #[t, t] ty #[.slice p n c, .slice (some ⟨r, 0, none⟩) 1 1]) w1 K := by
  obtain ⟨i, hi, hz, hs, rfl⟩ := h.inf
  exact nw_app1 h.und hi hz hs (by rw [h.cells]; rfl) hown hn hbase h1 h63 hbytes hK

theorem SlT.make0 (h : SlT P t e z b) {w : World} {kl kc : IntKind} {c : Nat} (hbytes : b * c ≤ 281474976710656) (h63 : c ≤ maxLen) {K : Value → World → Prop}
    (hK : ∀ w', Row w' w.heap.size e (some ⟨w.heap.size, 0, none⟩) c [] → Ext no w w' → K (.slice (some ⟨w.heap.size, 0, none⟩) 0 c) w') :
    rn P (Instr.makeSlice t (.int kl 0) (.int kc (c : Int))) w K := by
  obtain ⟨i, hi, hz, hs, rfl⟩ := h.inf
  exact rn_make0 h.und hi hz hs hbytes h63 hK

theorem SlT.makeN (h : SlT P t e z b) {w : World} {kl kc : IntKind} {n : Nat} (hbytes : b * n ≤ 281474976710656) (h63 : n ≤ maxLen) {K : Value → World → Prop}
    (hK : ∀ w', Row w' w.heap.size e (some ⟨w.heap.size, 0, none⟩) n (List.replicate n z) → Ext no w w' → K (.slice (some ⟨w.heap.size, 0, none⟩) n n) w') :
    rn P (Instr.makeSlice t (.int kl (n : Int)) (.int kc (n : Int))) w K := by
  obtain ⟨i, hi, hz, hs, rfl⟩ := h.inf
  exact rn_makeN h.und hi hz hs h.cells hbytes h63 hK
end

theorem SlT.makeNC {P : Program} {t e : TypeId} {z : Value} {b : Nat} (h : SlT P t e z b) {w : World} {kl kc : IntKind} {n c : Nat} (hnc : n ≤ c) (hbytes : b * c ≤ 281474976710656) (h63 : c ≤ maxLen) {K : Value → World → Prop}
    (hK : ∀ w', Row w' w.heap.size e (some ⟨w.heap.size, 0, Option.none⟩) c (List.replicate c z) → Ext no w w' → K (.slice (some ⟨w.heap.size, 0, Option.none⟩) n c) w') :
    rn P (Instr.makeSlice t (.int kl (n : Int)) (.int kc (c : Int))) w K := by
  obtain ⟨i, hi, hz, hs, rfl⟩ := h.inf
  exact rn_makeNC h.und hi hz hs h.cells hnc hbytes h63 hK

theorem SlT.copy {P : Program} {t ty e : TypeId} {z : Value} {b : Nat} (ht : SlT P t e z b)
    {w : World} {base : Nat} {p : Option Addr} {c : Nat} {xs : List Value} (h : Row w base e p c xs) {n c1 : Nat} (hn : n ≤ xs.length)
    {q : Option Addr} {m c' : Nat} {news : List Value} (hsrc : Reads w q news) (hm : news.length = m) (hmn : m = n) (h1 : ∀ u ∈ news, one u = true) {K : Value → World → Prop}
    (hK : ∀ w', Row w' base e p c (news ++ xs.drop news.length) → Ext (blocks p) w w' → K (.int .i64 (m : Int)) w') :
    rn P (Builtin.copy_ #[t, t] ty #[.slice p n c1, .slice q m c']) w K := by
  obtain ⟨i, hi, hz, hs, rfl⟩ := ht.inf
  exact rn_copy ht.und (by rw [hi]; simp [hs]) h hn hsrc hm hmn h1 hK

/-- a part of a row that is read -/
theorem Reads.pre {w : World} {p : Option Addr} {xs ys : List Value} (h : Reads w p (xs ++ ys)) : Reads w p xs := by
  rcases h with h0 | ⟨b, o, rfl, hc⟩
  · exact .inl (List.append_eq_nil_iff.1 h0).1
  · exact .inr ⟨b, o, rfl, fun i v hv => hc i v (by rw [List.getElem?_append_left (List.getElem?_eq_some_iff.1 hv).1]; exact hv)⟩

theorem slp_block {p : Option Addr} {c n size : Nat} {a : Addr} (h : slp p c n size = some a) : ∃ b, p = some b ∧ b.block = a.block := by
  unfold slp at h
  split at h
  · exact ⟨a, h, rfl⟩
  · cases p with
    | none => simp at h
    | some b =>
      simp only [Option.map_some, Option.some.injEq] at h
      refine ⟨b, rfl, ?_⟩
      rw [← h]
      unfold Addr.add
      split <;> rfl

theorem Reads.drop {w : World} {p : Option Addr} {c n : Nat} {xs : List Value} (h : Reads w p xs) (hc : xs.length ≤ c) : Reads w (slp p c n 1) (xs.drop n) := by
  by_cases h0 : xs.drop n = []
  · exact .inl h0
  · have hn : n < xs.length := by
      by_cases hh : n < xs.length
      · exact hh
      · exact absurd (List.drop_eq_nil_of_le (by omega)) h0
    rcases h with h | ⟨b, o, rfl, hx⟩
    · subst h; simp at hn
    · have : slp (some ⟨b, o, Option.none⟩) c n 1 = some ⟨b, o + n, Option.none⟩ := by
        unfold slp
        rw [if_neg (by omega), Nat.mul_one]
        simp [add_mk]
      rw [this]
      refine .inr ⟨b, o + n, rfl, fun i v hv => ?_⟩
      rw [List.getElem?_drop] at hv
      have := hx _ _ hv
      rw [← this]
      congr 2
      omega

theorem le_maxLen {n : Nat} (h : n ≤ 140737488355328) : n ≤ maxLen := by simp only [maxLen]; omega

/-- the blocks from one on -/
def ge (b : Nat) : Nat → Prop := fun k => b ≤ k

theorem Ext.to_no {w w' : World} {b : Nat} (h : Ext (ge b) w w') (hb : w.heap.size ≤ b) : Ext no w w' := h.mono fun k hk hg => by
  have : b ≤ k := hg
  omega
theorem Ext.to_ge {w w' : World} {b : Nat} (h : Ext no w w') : Ext (ge b) w w' := Ext.of_no h

theorem Reads.lt {w : World} {p : Option Addr} {vs : List Value} (h : Reads w p vs) (hv : vs ≠ []) : ∃ a, p = some a ∧ a.block < w.heap.size := by
  rcases h with h0 | ⟨b, o, rfl, hc⟩
  · exact absurd h0 hv
  · cases vs with
    | nil => exact absurd rfl hv
    | cons v vs =>
      exact ⟨_, rfl, World.block_lt_of_cell? w _ (hc 0 v rfl)⟩

/-- what was there before stays readable -/
theorem Reads.old {w w' : World} {b : Nat} (hx : Ext (ge b) w w') (hb : w.heap.size ≤ b) {p : Option Addr} {vs : List Value} (h : Reads w p vs) : Reads w' p vs := by
  by_cases hv : vs = []
  · exact .inl hv
  · obtain ⟨a, rfl, hlt⟩ := h.lt hv
    refine h.ext hx fun x hx' hg => ?_
    cases hx'
    have : b ≤ a.block := hg
    omega

/-- numbers as values -/
def iv (k : IntKind) (zs : List Int) : List Value := zs.map (.int k)
theorem iv_length (k : IntKind) (zs : List Int) : (iv k zs).length = zs.length := by simp [iv]
theorem iv_get {k : IntKind} {zs : List Int} {i : Nat} (h : i < zs.length) : (iv k zs)[i]? = some (.int k (zs.getD i 0)) := by simp [iv, h]
def tv (l : List Bool) : List Value := l.map .bool
theorem tv_length (l : List Bool) : (tv l).length = l.length := by simp [tv]
theorem tv_get {l : List Bool} {i : Nat} (h : i < l.length) : (tv l)[i]? = some (.bool (l.getD i false)) := by simp [tv, h]

/-! ### Bytes -/
def bv (bs : List Nat) : List Value := bs.map fun (b : Nat) => .int .u8 (b : Int)
theorem bv_length (bs : List Nat) : (bv bs).length = bs.length := by simp [bv]
theorem bv_one {bs : List Nat} : ∀ u ∈ bv bs, one u = true := by
  intro u hu
  simp only [bv, List.mem_map] at hu
  obtain ⟨b, _, rfl⟩ := hu
  rfl
theorem bv_get {bs : List Nat} {i : Nat} (h : i < bs.length) : (bv bs)[i]? = some (.int .u8 ((bs.getD i 0 : Nat) : Int)) := by
  simp [bv, h]
theorem bv_append (a b : List Nat) : bv (a ++ b) = bv a ++ bv b := by simp [bv]
theorem bv_inj {a b : List Nat} (h : bv a = bv b) : a = b := by
  have hf : ∀ x y : Nat, (Value.int .u8 (x : Int)) = .int .u8 (y : Int) → x = y := by
    intro x y h
    cases h; rfl
  exact (List.map_inj_right hf).1 h

/-- the string of bytes -/
def strB (bs : List Nat) : ByteArray := strOfNums (bs.map fun (b : Nat) => (b : Int))

theorem run_str {P : Program} {src dst e : TypeId} (hs : P.underlying src = some (.slice e)) (he : P.underlying e = some (.int .u8)) (hd : P.underlying dst = some .string)
    {w : World} {p : Option Addr} {n c : Nat} {bs : List Nat} (hr : Reads w p (bv bs)) (hn : bs.length = n) (hp : p = none → bs = []) :
    (convert src dst (.slice p n c)).run P w = .ok (.string (strB bs)) w := by
  subst hn
  rcases hr with h0 | ⟨b, o, rfl, hc⟩
  · have hb : bs = [] := by simpa [bv] using h0
    subst hb
    cases p with
    | none =>
      have := run_convert_bytes_nil (P := P) w src e hs he 0 c dst hd
      exact this
    | some a =>
      rw [run_convert_bytes_string w src dst e _ _ _ hs he hd]
      simp [Conv.bytesToString, strB, strOfNums, loadCells, loadCellsFrom]
      rfl
  · refine run_convert_bytes_arg (P := P) w src e hs he b o _ c (bs.map fun (x : Nat) => (x : Int)) (by simp) ?_ dst hd
    intro i hi
    have := hc i _ (bv_get hi)
    rw [this]
    congr 2
    simp [List.getD_eq_getElem?_getD, hi]
end Go.Sx

/- Nums: whole numbers as Go's operators leave them, in plain numbers: wraps that do nothing, bit operators on natural numbers. No condition. -/
namespace Go.Sx
open Go

theorem pow_le_of {a b : Nat} (h : a ≤ b) : 2 ^ a ≤ 2 ^ b := Nat.pow_le_pow_right (by decide) h
theorem wr64 {n : Int} (h : -9223372036854775808 ≤ n) (h' : n ≤ 9223372036854775807) : IntKind.wrap .i64 n = n := by rw [IntKind.wrap_i64]; omega
theorem wr8 {n : Int} (h : 0 ≤ n) (h' : n ≤ 255) : IntKind.wrap .u8 n = n := by
  have : IntKind.wrap .u8 n = n % 256 := by simp [IntKind.wrap, IntKind.bits, IntKind.signed]
  rw [this]; omega

theorem ofInt_nat (n a : Nat) (h : a < 2 ^ n) : (BitVec.ofInt n (a : Int)).toNat = a := by
  simp
  exact Nat.mod_eq_of_lt h

theorem bits_and_nat {k : IntKind} {a b : Nat} (ha : a < 2 ^ k.bits) (hb : b < 2 ^ k.bits) : Go.bits .and k a b = k.wrap ((a &&& b : Nat) : Int) := by
  simp only [Go.bits, BitVec.toNat_and, ofInt_nat _ _ ha, ofInt_nat _ _ hb]
theorem bits_or_nat {k : IntKind} {a b : Nat} (ha : a < 2 ^ k.bits) (hb : b < 2 ^ k.bits) : Go.bits .or k a b = k.wrap ((a ||| b : Nat) : Int) := by
  simp only [Go.bits, BitVec.toNat_or, ofInt_nat _ _ ha, ofInt_nat _ _ hb]
theorem bits_xor_nat {k : IntKind} {a b : Nat} (ha : a < 2 ^ k.bits) (hb : b < 2 ^ k.bits) : Go.bits .xor k a b = k.wrap ((a ^^^ b : Nat) : Int) := by
  simp only [Go.bits, BitVec.toNat_xor, ofInt_nat _ _ ha, ofInt_nat _ _ hb]

theorem fdiv_pow (v m : Nat) : Int.fdiv (v : Int) (2 ^ m) = ((v >>> m : Nat) : Int) := by
  have h : ((2 : Int) ^ m) = ((2 ^ m : Nat) : Int) := by simp
  rw [h, Int.fdiv_eq_ediv_of_nonneg _ (Int.natCast_nonneg _), Nat.shiftRight_eq_div_pow]
  simp

theorem and_mask (v k : Nat) : v &&& (2 ^ k - 1) = v % 2 ^ k := by
  rw [Nat.and_two_pow_sub_one_eq_mod]

/-- one bit of a byte, as the program takes it -/
theorem bit_out {x : Nat} (hx : x < 256) {s : Nat} : Go.bits .and .u8 (Int.fdiv (x : Int) (2 ^ s)) (1 : Int) = ((x.testBit s).toNat : Int) := by
  rw [fdiv_pow]
  have h1 : x >>> s < 2 ^ IntKind.u8.bits := by
    have : x >>> s ≤ x := Nat.shiftRight_le x s
    simp [IntKind.bits]; omega
  have := bits_and_nat (k := .u8) (a := x >>> s) (b := 1) h1 (by simp [IntKind.bits])
  rw [show ((1 : Nat) : Int) = (1 : Int) from rfl] at this
  rw [this]
  have h2 : x >>> s &&& 1 = (x.testBit s).toNat := by
    rw [Nat.and_one_is_mod, Nat.testBit_eq_decide_div_mod_eq, Nat.shiftRight_eq_div_pow]
    rcases Nat.mod_two_eq_zero_or_one (x / 2 ^ s) with h | h <;> simp [h]
  rw [h2, wr8 (by omega)]
  cases x.testBit s <;> decide

theorem or_low (v : Nat) (b : Bool) : 2 * v ||| b.toNat = 2 * v + b.toNat := by
  have := Nat.two_pow_add_eq_or_of_lt (i := 1) (b := b.toNat) (by cases b <;> decide) v
  simpa using this.symm
theorem bit64 {v : Nat} (hv : v < 2 ^ 63) (i : Nat) : Go.bits .and .i64 (Int.fdiv (v : Int) (2 ^ i)) (1 : Int) = ((v.testBit i).toNat : Int) := by
  rw [fdiv_pow]
  have h63 : (2 : Nat) ^ 63 = 9223372036854775808 := by decide
  have h1 : v >>> i < 2 ^ IntKind.i64.bits := by
    have : v >>> i ≤ v := Nat.shiftRight_le v i
    simp only [IntKind.bits]
    omega
  have := bits_and_nat (k := .i64) (a := v >>> i) (b := 1) h1 (by simp [IntKind.bits])
  rw [show ((1 : Nat) : Int) = (1 : Int) from rfl] at this
  rw [this]
  have h2 : v >>> i &&& 1 = (v.testBit i).toNat := by
    rw [Nat.and_one_is_mod, Nat.testBit_eq_decide_div_mod_eq, Nat.shiftRight_eq_div_pow]
    rcases Nat.mod_two_eq_zero_or_one (v / 2 ^ i) with h | h <;> simp [h]
  rw [h2]
  cases v.testBit i <;> decide

theorem xor_byte {x : Nat} (hx : x < 256) : Go.bits .xor .u8 (x : Int) 255 = ((x ^^^ 255 : Nat) : Int) ∧ x ^^^ 255 < 256 ∧ (x ^^^ 255) ^^^ 255 = x := by
  have h : x ^^^ 255 < 2 ^ 8 := Nat.xor_lt_two_pow (by omega) (by decide)
  have := bits_xor_nat (k := .u8) (a := x) (b := 255) (by simp only [IntKind.bits]; omega) (by simp [IntKind.bits])
  rw [show ((255 : Nat) : Int) = (255 : Int) from rfl] at this
  refine ⟨by rw [this, wr8 (by omega) (by omega)], by omega, ?_⟩
  rw [Nat.xor_assoc, Nat.xor_self, Nat.xor_zero]

/-- a byte with one bit more -/
theorem or_bit {x k : Nat} (hx : x < 256) (hk : k ≤ 7) : Go.bits .or .u8 (x : Int) (IntKind.wrap .u8 ((1 : Int) * 2 ^ (min (Int.toNat (k : Int)) 8))) = ((x ||| 2 ^ k : Nat) : Int) ∧ x ||| 2 ^ k < 256 := by
  have hm : min (Int.toNat (k : Int)) 8 = k := by rw [Int.toNat_natCast]; omega
  have hp : 2 ^ k ≤ 2 ^ 7 := pow_le_of hk
  have h7 : (2 : Nat) ^ 7 = 128 := by decide
  have hp0 : 0 < 2 ^ k := Nat.two_pow_pos k
  have e1 : ((1 : Int) * 2 ^ k) = ((2 ^ k : Nat) : Int) := by simp
  have hlt : x ||| 2 ^ k < 2 ^ 8 := Nat.or_lt_two_pow (by omega) (by omega)
  rw [hm, e1, wr8 (n := ((2 ^ k : Nat) : Int)) (by omega) (by omega), bits_or_nat (by simp only [IntKind.bits]; omega) (by simp only [IntKind.bits]; omega)]
  exact ⟨wr8 (by omega) (by omega), by omega⟩

theorem tdiv_nat (a b : Nat) : Int.tdiv (a : Int) (b : Int) = ((a / b : Nat) : Int) := rfl
theorem tmod_nat (a b : Nat) : Int.tmod (a : Int) (b : Int) = ((a % b : Nat) : Int) := rfl
theorem tdiv8 (a : Nat) : Int.tdiv (a : Int) (8 : Int) = ((a / 8 : Nat) : Int) := rfl
theorem tmod8 (a : Nat) : Int.tmod (a : Int) (8 : Int) = ((a % 8 : Nat) : Int) := rfl


/-- the last bits of a byte -/
theorem low_u8 {x n : Nat} (hx : x < 256) (hn : n ≤ 7) : Go.bits .and .u8 (x : Int) (IntKind.wrap .u8 ((IntKind.wrap .u8 ((1 : Int) * 2 ^ (min (Int.toNat (n : Int)) 8))) - (1 : Int))) = ((x % 2 ^ n : Nat) : Int) := by
  have hm : min (Int.toNat (n : Int)) 8 = n := by rw [Int.toNat_natCast]; omega
  have hp : 2 ^ n ≤ 2 ^ 7 := pow_le_of hn
  have hp0 : 0 < 2 ^ n := Nat.two_pow_pos n
  have h7 : (2 : Nat) ^ 7 = 128 := by decide
  have e1 : ((1 : Int) * 2 ^ n) = ((2 ^ n : Nat) : Int) := by simp
  have e2 : ((2 ^ n : Nat) : Int) - 1 = ((2 ^ n - 1 : Nat) : Int) := by omega
  rw [hm, e1, wr8 (n := ((2 ^ n : Nat) : Int)) (by omega) (by omega), e2, wr8 (n := ((2 ^ n - 1 : Nat) : Int)) (by omega) (by omega)]
  rw [bits_and_nat (by simp [IntKind.bits]; omega) (by simp [IntKind.bits]; omega), and_mask]
  have : x % 2 ^ n < 2 ^ n := Nat.mod_lt _ hp0
  exact wr8 (by omega) (by omega)

/-- the byte that a round of bits gives -/
theorem put_byte {x v m k free : Nat} (hx : x < 256) (hv : v < 2 ^ 63) (hk : k ≤ free) (hf : free ≤ 8) (hkm : k ≤ m) (hm : m ≤ 63) :
    Go.bits .or .u8 (x : Int) (IntKind.wrap .u8 ((IntKind.wrap .u8 (Go.bits .and .i64 (Int.fdiv (v : Int) (2 ^ (min (Int.toNat ((m - k : Nat) : Int)) 64))) (IntKind.wrap .i64 ((IntKind.wrap .i64 ((1 : Int) * 2 ^ (min (Int.toNat (k : Int)) 64))) - (1 : Int))))) * 2 ^ (min (Int.toNat ((free - k : Nat) : Int)) 8))) =
      ((x ||| (((v >>> (m - k)) &&& (2 ^ k - 1)) <<< (free - k)) : Nat) : Int) := by
  have h1 : min (Int.toNat ((m - k : Nat) : Int)) 64 = m - k := by rw [Int.toNat_natCast]; omega
  have h2 : min (Int.toNat (k : Int)) 64 = k := by rw [Int.toNat_natCast]; omega
  have h3 : min (Int.toNat ((free - k : Nat) : Int)) 8 = free - k := by rw [Int.toNat_natCast]; omega
  have hp : 2 ^ k ≤ 2 ^ 8 := pow_le_of (by omega)
  have hp0 : 0 < 2 ^ k := Nat.two_pow_pos k
  have h8 : (2 : Nat) ^ 8 = 256 := by decide
  have h63 : (2 : Nat) ^ 63 = 9223372036854775808 := by decide
  have h64 : (2 : Nat) ^ 64 = 18446744073709551616 := by decide
  have hs : v >>> (m - k) ≤ v := Nat.shiftRight_le v _
  have e1 : ((1 : Int) * 2 ^ k) = ((2 ^ k : Nat) : Int) := by simp
  have e2 : ((2 ^ k : Nat) : Int) - 1 = ((2 ^ k - 1 : Nat) : Int) := by omega
  rw [h1, h2, h3, fdiv_pow, e1, wr64 (n := ((2 ^ k : Nat) : Int)) (by omega) (by omega), e2, wr64 (n := ((2 ^ k - 1 : Nat) : Int)) (by omega) (by omega)]
  rw [bits_and_nat (k := .i64) (by simp only [IntKind.bits]; omega) (by simp only [IntKind.bits]; omega)]
  have hy : v >>> (m - k) &&& (2 ^ k - 1) < 2 ^ k := by rw [and_mask]; exact Nat.mod_lt _ hp0
  generalize v >>> (m - k) &&& (2 ^ k - 1) = y at hy
  rw [wr64 (n := (y : Int)) (by omega) (by omega), wr8 (n := (y : Int)) (by omega) (by omega)]
  have e3 : ((y : Int) * 2 ^ (free - k)) = ((y <<< (free - k) : Nat) : Int) := by rw [Nat.shiftLeft_eq]; simp
  have hz : y <<< (free - k) < 2 ^ 8 := by
    rw [Nat.shiftLeft_eq]
    calc y * 2 ^ (free - k) < 2 ^ k * 2 ^ (free - k) := Nat.mul_lt_mul_of_pos_right hy (Nat.two_pow_pos _)
      _ = 2 ^ (k + (free - k)) := (Nat.pow_add 2 k (free - k)).symm
      _ ≤ 2 ^ 8 := pow_le_of (by omega)
  rw [e3]
  generalize y <<< (free - k) = z at hz
  rw [wr8 (n := (z : Int)) (by omega) (by omega), bits_or_nat (k := .u8) (by simp only [IntKind.bits]; omega) (by simp only [IntKind.bits]; omega)]
  have : x ||| z < 2 ^ 8 := Nat.or_lt_two_pow (by omega) hz
  rw [wr8 (by omega) (by omega)]
end Go.Sx

/- BitsM: rows of bits, plainly: which bits a row of bytes holds, the number that is taken of them, the bytes that hold a row of bits. No condition. -/
namespace Go.Sx

/-- bit i of bytes -/
def bitOf (bs : List Nat) (i : Nat) : Bool := (bs.getD (i / 8) 0).testBit (7 - i % 8)

/-- the number of n bits from a on -/
def rdv (L : Nat → Bool) (a : Nat) : Nat → Nat
  | 0 => 0
  | n + 1 => 2 * rdv L a n + (L (a + n)).toNat

theorem rdv_lt (L : Nat → Bool) (a : Nat) : ∀ n, rdv L a n < 2 ^ n
  | 0 => by simp [rdv]
  | n + 1 => by
    have := rdv_lt L a n
    have hb : (L (a + n)).toNat ≤ 1 := by cases L (a + n) <;> decide
    simp only [rdv, Nat.pow_succ]
    omega

theorem rdv_test (L : Nat → Bool) (a : Nat) : ∀ n j, (rdv L a n).testBit j = (decide (j < n) && L (a + n - 1 - j))
  | 0, j => by simp [rdv]
  | n + 1, j => by
    cases j with
    | zero =>
      simp only [rdv, Nat.testBit_zero]
      cases h : L (a + n)
      · simp [h]
      · simp [h]
    | succ j =>
      have ih := rdv_test L a n j
      have h2 : (2 * rdv L a n + (L (a + n)).toNat) / 2 = rdv L a n := by
        have hb : (L (a + n)).toNat ≤ 1 := by cases L (a + n) <;> decide
        omega
      simp only [rdv, Nat.testBit_succ, h2, ih]
      have e : a + (n + 1) - 1 - (j + 1) = a + n - 1 - j := by omega
      rw [e]
      congr 1
      simp

theorem rdv_congr {L L' : Nat → Bool} {a a' : Nat} : ∀ n, (∀ i, i < n → L (a + i) = L' (a' + i)) → rdv L a n = rdv L' a' n
  | 0, _ => rfl
  | n + 1, h => by
    simp only [rdv]
    rw [rdv_congr n (fun i hi => h i (by omega)), h n (by omega)]

/-- the bits of a number, the greatest first -/
def numBits (v n : Nat) : List Bool := (List.range n).map fun i => v.testBit (n - 1 - i)

theorem numBits_length (v n : Nat) : (numBits v n).length = n := by simp [numBits]
theorem numBits_get (v n i : Nat) (h : i < n) : (numBits v n)[i]? = some (v.testBit (n - 1 - i)) := by simp [numBits, h]

/-- what was put is taken -/
theorem rdv_numBits {L : Nat → Bool} {a v n : Nat} (hv : v < 2 ^ n) (h : ∀ i, i < n → L (a + i) = v.testBit (n - 1 - i)) : rdv L a n = v := by
  apply Nat.eq_of_testBit_eq
  intro j
  rw [rdv_test]
  by_cases hj : j < n
  · have e : a + n - 1 - j = a + (n - 1 - j) := by omega
    rw [e, h _ (by omega)]
    have e2 : n - 1 - (n - 1 - j) = j := by omega
    simp [hj, e2]
  · have : v < 2 ^ j := Nat.lt_of_lt_of_le hv (Nat.pow_le_pow_right (by decide) (by omega))
    simp [hj, Nat.testBit_lt_two_pow this]

/-- bytes that hold a row of bits, filled up with zeros -/
structure Packs (bs : List Nat) (l : List Bool) : Prop where
  len : bs.length = (l.length + 7) / 8
  small : ∀ b ∈ bs, b < 256
  bit : ∀ i, i < 8 * bs.length → bitOf bs i = l.getD i false

/-- the same, with a byte that has room -/
structure PacksR (bs : List Nat) (l : List Bool) : Prop where
  len : bs.length = l.length / 8 + 1
  small : ∀ b ∈ bs, b < 256
  bit : ∀ i, i < 8 * bs.length → bitOf bs i = l.getD i false

theorem Packs.nil : Packs [] [] := ⟨rfl, by simp, by simp⟩

theorem Packs.room_new {bs : List Nat} {l : List Bool} (h : Packs bs l) (h8 : l.length % 8 = 0) : PacksR (bs ++ [0]) l := by
  have hl := h.len
  have hlen : bs.length = l.length / 8 := by omega
  refine ⟨by simp [hlen], fun b hb => ?_, fun i hi => ?_⟩
  · simp only [List.mem_append, List.mem_singleton] at hb
    rcases hb with hb | rfl
    · exact h.small b hb
    · decide
  · simp only [List.length_append, List.length_singleton] at hi
    by_cases hlt : i / 8 < bs.length
    · have hb := h.bit i (by omega)
      rw [← hb]
      unfold bitOf
      rw [List.getD_eq_getElem?_getD, List.getElem?_append_left hlt, ← List.getD_eq_getElem?_getD]
    · have he : i / 8 = bs.length := by omega
      unfold bitOf
      rw [List.getD_eq_getElem?_getD, he, List.getElem?_append_right (Nat.le_refl _)]
      simp
      rw [List.getElem?_eq_none (by omega)]
      rfl

theorem Packs.room_old {bs : List Nat} {l : List Bool} (h : Packs bs l) (h8 : l.length % 8 ≠ 0) : PacksR bs l :=
  ⟨by have := h.len; omega, h.small, h.bit⟩

/-- the last byte with k bits of a number more -/
def orIn (x v n k free : Nat) : Nat := x ||| (((v >>> (n - k)) &&& (2 ^ k - 1)) <<< (free - k))

theorem orIn_test {x v n k free j : Nat} (hkf : k ≤ free) : (orIn x v n k free).testBit j = (x.testBit j || (decide (free - k ≤ j ∧ j < free) && v.testBit (n - k + (j - (free - k))))) := by
  unfold orIn
  rw [and_mask, Nat.testBit_or, Nat.testBit_shiftLeft, Nat.testBit_mod_two_pow, Nat.testBit_shiftRight]
  by_cases h1 : free - k ≤ j
  · by_cases h2 : j < free
    · have h3 : j - (free - k) < k := by omega
      simp [h1, h2, h3]
    · have h3 : ¬ j - (free - k) < k := by omega
      simp [h1, h2, h3]
  · simp [h1]

theorem PacksR.round {bs : List Nat} {l : List Bool} (h : PacksR bs l) {v n k free : Nat} (hfree : free = 8 - l.length % 8) (hkn : k ≤ n) (hkf : k ≤ free) (hk : 0 < k) :
    Packs (bs.set (bs.length - 1) (orIn (bs.getD (bs.length - 1) 0) v n k free)) (l ++ (List.range k).map fun i => v.testBit (n - 1 - i)) := by
  have hl := h.len
  have hpos : 0 < bs.length := by omega
  have hlast : bs.getD (bs.length - 1) 0 < 256 := by
    have : bs[bs.length - 1]? = some (bs[bs.length - 1]'(by omega)) := List.getElem?_eq_getElem (by omega)
    rw [List.getD_eq_getElem?_getD, this]
    exact h.small _ (List.getElem_mem _)
  have hor : orIn (bs.getD (bs.length - 1) 0) v n k free < 256 := by
    have : orIn (bs.getD (bs.length - 1) 0) v n k free < 2 ^ 8 := by
      apply Nat.lt_pow_two_of_testBit
      intro j hj
      rw [orIn_test hkf]
      have h1 : ¬ (free - k ≤ j ∧ j < free) := by omega
      have h2 : (bs.getD (bs.length - 1) 0).testBit j = false := Nat.testBit_lt_two_pow (Nat.lt_of_lt_of_le hlast (by
        have : (2 : Nat) ^ 8 ≤ 2 ^ j := Nat.pow_le_pow_right (by decide) hj
        omega))
      rw [h2, decide_eq_false h1]; rfl
    simpa using this
  refine ⟨?_, ?_, ?_⟩
  · simp only [List.length_set, List.length_append, List.length_map, List.length_range]
    omega
  · intro b hb
    rcases List.mem_or_eq_of_mem_set hb with hb | rfl
    · exact h.small b hb
    · exact hor
  · intro i hi
    simp only [List.length_set] at hi
    have hbit := h.bit i hi
    unfold bitOf at hbit ⊢
    by_cases hlt : i / 8 = bs.length - 1
    · have hq : (bs.set (bs.length - 1) (orIn (bs.getD (bs.length - 1) 0) v n k free)).getD (i / 8) 0 = orIn (bs.getD (bs.length - 1) 0) v n k free := by
        rw [List.getD_eq_getElem?_getD, hlt, List.getElem?_set_self (by omega)]
        rfl
      rw [hq, orIn_test hkf]
      rw [hlt] at hbit
      rw [hbit]
      by_cases h1 : i < l.length
      · have h2 : ¬ (free - k ≤ 7 - i % 8 ∧ 7 - i % 8 < free) := by omega
        rw [List.getD_eq_getElem?_getD (l := l ++ _), List.getElem?_append_left h1, ← List.getD_eq_getElem?_getD, decide_eq_false h2]
        simp
      · have h3 : l.getD i false = false := by
          rw [List.getD_eq_getElem?_getD, List.getElem?_eq_none (by omega)]
          rfl
        rw [h3, List.getD_eq_getElem?_getD, List.getElem?_append_right (by omega)]
        by_cases h4 : i - l.length < k
        · have h5 : free - k ≤ 7 - i % 8 ∧ 7 - i % 8 < free := by omega
          have h6 : n - k + (7 - i % 8 - (free - k)) = n - 1 - (i - l.length) := by omega
          rw [decide_eq_true h5, h6]
          simp [h4]
        · have h5 : ¬ (free - k ≤ 7 - i % 8 ∧ 7 - i % 8 < free) := by omega
          rw [decide_eq_false h5]
          simp [h4]
    · have hq : (bs.set (bs.length - 1) (orIn (bs.getD (bs.length - 1) 0) v n k free)).getD (i / 8) 0 = bs.getD (i / 8) 0 := by
        rw [List.getD_eq_getElem?_getD, List.getElem?_set_ne (by omega), ← List.getD_eq_getElem?_getD]
      rw [hq, hbit]
      rw [List.getD_eq_getElem?_getD (l := l ++ _), List.getElem?_append_left (by omega), ← List.getD_eq_getElem?_getD]

theorem Packs.unique {bs bs' : List Nat} {l : List Bool} (h : Packs bs l) (h' : Packs bs' l) : bs = bs' := by
  apply List.ext_getElem
  · rw [h.len, h'.len]
  · intro i h1 h2
    apply Nat.eq_of_testBit_eq
    intro j
    by_cases hj : j < 8
    · have a := h.bit (8 * i + (7 - j)) (by omega)
      have b := h'.bit (8 * i + (7 - j)) (by omega)
      unfold bitOf at a b
      have e1 : (8 * i + (7 - j)) / 8 = i := by omega
      have e2 : 7 - (8 * i + (7 - j)) % 8 = j := by omega
      rw [e1, e2, List.getD_eq_getElem?_getD, List.getElem?_eq_getElem h1] at a
      rw [e1, e2, List.getD_eq_getElem?_getD, List.getElem?_eq_getElem h2] at b
      simp only [Option.getD_some] at a b
      rw [a, b]
    · have s1 := h.small _ (List.getElem_mem h1)
      have s2 := h'.small _ (List.getElem_mem h2)
      have hp : 256 ≤ 2 ^ j := by
        have : (2 : Nat) ^ 8 ≤ 2 ^ j := Nat.pow_le_pow_right (by decide) (by omega)
        omega
      rw [Nat.testBit_lt_two_pow (by omega), Nat.testBit_lt_two_pow (by omega)]
end Go.Sx

/- SnB (turned from BitsC): what the functions of package bits do, told as contracts over rows of bytes. Conditions: those of each theorem, on its arguments. -/
namespace Go.Proofs.YtfnepdppkmjboaaDoor
open Go Go.Sx
attribute [local irreducible] jn lv ld st nw asI asB asP asS asY asM asF asA asT lp rn ru rq cl dw dr bnd bn2 nz nn hd hr so eqW
attribute [local irreducible] callOk

set_option maxRecDepth 100000 in
theorem s22 : SlT Tryd.prog 32 5 (.int .u8 0) 1 := ⟨rfl, ⟨_, rfl, rfl, rfl, rfl⟩, rfl⟩

/-- a reader -/
structure Rdr (w : World) (lo hi r : Nat) (p : Option Addr) (c : Nat) (bs : List Nat) (at' : Nat) : Prop where
  hlo : lo ≤ r
  hhi : r < hi
  le : hi ≤ w.heap.size
  phi : ∀ a, p = some a → lo ≤ a.block ∧ a.block < hi
  ne : ∀ a, p = some a → a.block ≠ r
  blk : w.heap[r]? = some (.cells #[.slice p bs.length c, .int .i64 (at' : Int)] 116 (0, 0))
  reads : Reads w p (bv bs)
  small : ∀ b ∈ bs, b < 256
  len : bs.length ≤ 140737488355328
  at_le : at' ≤ 8 * bs.length

theorem Rdr.keep {w w' : World} {lo hi r : Nat} {p : Option Addr} {c : Nat} {bs : List Nat} {at' : Nat} (h : Rdr w lo hi r p c bs at') {M : Nat → Prop} (hx : Ext M w w')
    (hm : ∀ k, lo ≤ k → k < hi → ¬ M k) : Rdr w' lo hi r p c bs at' :=
  ⟨h.hlo, h.hhi, Nat.le_trans h.le hx.size, h.phi, h.ne, hx.blk h.blk (hm r h.hlo h.hhi), h.reads.ext hx fun a ha => hm _ (h.phi a ha).1 (h.phi a ha).2, h.small, h.len, h.at_le⟩

theorem read_k {w : World} {K : Value → World → Prop} {q : Option Addr} {n cq : Nat} {bs : List Nat} (hr : Reads w q (bv bs)) (hn : bs.length = n) (hs : ∀ b ∈ bs, b < 256) (hl : bs.length ≤ 140737488355328)
    (hK : ∀ r p c w', Ext no w w' → Rdr w' w.heap.size w'.heap.size r p c bs 0 → K (.pointer (some ⟨r, 0, none⟩)) w') :
    cl Tryd.prog 34 #[.slice q n cq] w K := by
  apply F34_calls
  unfold F34
  refine s22.app (n := 0) (Row.nil w w.heap.size 5) rfl (Nat.le_refl _) hr (by rw [bv_length, hn]) bv_one (le_maxLen (by omega)) (by omega) ?_
  intro p c w' hrow hE hmv _
  refine asS_i rfl (nw_mk ?_)
  have hx : Ext no w w' := hE.mono fun k _ hk => by obtain ⟨a, ha, _⟩ := hk; cases ha
  have ha : Ext no w' (w'.alloc (.cells #[.slice p (0 + n) c, .int .i64 0] 116)) := Ext.alloc w' _
  have hrow' := hrow.ext ha fun _ _ h => h
  rw [List.nil_append] at hrow hrow'
  refine hK _ p c _ (hx.trans ha) ⟨hx.size, ?_, Nat.le_refl _, fun a hp => ⟨(hrow.at hp).1, (hrow'.at hp).2⟩, fun a hp => Nat.ne_of_lt (hrow.at hp).2, ?_, hrow'.reads, hs, hl, Nat.zero_le _⟩
  · rw [new_size]; omega
  · rw [new_blk, hn]; simp

theorem Rdr.drew {w : World} {lo hi r : Nat} {p : Option Addr} {c : Nat} {bs : List Nat} {at' : Nat} (h : Rdr w lo hi r p c bs at') : Rdr w.drew lo hi r p c bs at' := h.keep (Ext.drew w) fun _ _ _ h => h
theorem rdr_ld0 {w : World} {lo hi r : Nat} {p : Option Addr} {c : Nat} {bs : List Nat} {at' : Nat} (h : Rdr w lo hi r p c bs at') : w.cell? ⟨r, 0, none⟩ = some (.slice p bs.length c) := by rw [blk_cell h.blk]; rfl
theorem rdr_ld1 {w : World} {lo hi r : Nat} {p : Option Addr} {c : Nat} {bs : List Nat} {at' : Nat} (h : Rdr w lo hi r p c bs at') : w.cell? (Addr.add ⟨r, 0, none⟩ 1) = some (.int .i64 (at' : Int)) := by rw [add_mk, blk_cell h.blk]; rfl

theorem rest_k {w : World} {lo hi r : Nat} {p : Option Addr} {c : Nat} {bs : List Nat} {at' : Nat} (h : Rdr w lo hi r p c bs at') {K : Value → World → Prop}
    (hK : ∀ w', Ext no w w' → K (.int .i64 ((8 * bs.length - at' : Nat) : Int)) w') :
    cl Tryd.prog 51 #[.pointer (some ⟨r, 0, none⟩)] w K := by
  apply F51_calls
  unfold F51
  refine lv_i (dw_mk (dr_i (ld_mk (rdr_ld0 h.drew) (asS_i rfl (dr_i (ld_mk (rdr_ld1 h.drew) (asI_i rfl (lv_i ?_))))))))
  have h1 := h.len
  have h2 := h.at_le
  have e : IntKind.wrap .i64 (IntKind.wrap .i64 (8 * (bs.length : Int)) - (at' : Int)) = ((8 * bs.length - at' : Nat) : Int) := by
    rw [wr64 (n := 8 * (bs.length : Int)) (by omega) (by omega), wr64 (by omega) (by omega)]
    omega
  rw [e]
  exact hK _ (Ext.drew w)

def takeE (bs : List Nat) (at' : Nat) (n : Int) : Int := if n < 0 ∨ 63 < n then 1 else if ((8 * bs.length - at' : Nat) : Int) < n then 3 else 0
def takeV (bs : List Nat) (at' : Nat) (n : Int) : Int := if takeE bs at' n = 0 then (rdv (bitOf bs) at' n.toNat : Int) else 0
def takeA (bs : List Nat) (at' : Nat) (n : Int) : Nat := if takeE bs at' n = 0 then at' + n.toNat else at'

theorem take_loop {w : World} {lo hi r : Nat} {p : Option Addr} {c : Nat} {bs : List Nat} {at' : Nat} (h : Rdr w lo hi r p c bs at') {N : Nat} (hN : N ≤ 63) (hle : at' + N ≤ 8 * bs.length) {Q : Value → World → Prop}
    (hQ : ∀ w', Rdr w' lo hi r p c bs (at' + N) → Ext (onl r) w w' → Q (.tuple #[.int .i64 (rdv (bitOf bs) at' N : Int), .int .i64 0]) w') :
    lp [(.int .i64 0), (.int .i64 (0 : Int))] w fun J17 s15 w16 => asI .i64 (s15.getD 0 undef) fun x18 => asI .i64 (s15.getD 1 undef) fun x19 => 
(cond (decide (x19 < (N : Int))) 
(dw w16 fun w20 => (dr (some ⟨r, 0, none⟩) fun a21 => (ld w20 a21 fun v22 => asS v22 fun p23 n24 _ => (dr (some ⟨r, 0, none⟩) fun a26 => (ld w20 (Addr.add a26 1) fun v27 => asI .i64 v27 fun x28 => (dr p23 fun a29 => (bnd (IntKind.wrap .i64 (Int.tdiv x28 (8 : Int))) n24 (ld w20 (Addr.add a29 (Int.toNat (IntKind.wrap .i64 (Int.tdiv x28 (8 : Int))) * 1)) fun v30 => asI .u8 v30 fun x31 => (dr (some ⟨r, 0, none⟩) fun a32 => (ld w20 (Addr.add a32 1) fun v33 => asI .i64 v33 fun x34 => (nn (IntKind.wrap .i64 ((7 : Int) - (Int.tmod x34 (8 : Int)))) (lv (Go.bits .or .i64 (IntKind.wrap .i64 (x18 * 2 ^ (min (Int.toNat (1 : Int)) 64))) (IntKind.wrap .i64 (Go.bits .and .u8 (Int.fdiv x31 (2 ^ (min (Int.toNat (IntKind.wrap .i64 ((7 : Int) - (Int.tmod x34 (8 : Int))))) 8))) (1 : Int)))) fun v_35 => 
(dr (some ⟨r, 0, none⟩) fun a36 => (ld w20 (Addr.add a36 1) fun v37 => asI .i64 v37 fun x38 => (dr (some ⟨r, 0, none⟩) fun a39 => (st w20 (Addr.add a39 1) (.int .i64 (IntKind.wrap .i64 (x38 + (1 : Int)))) fun w40 => 
(J17 [(.int .i64 v_35), (.int .i64 (IntKind.wrap .i64 (x19 + (1 : Int))))] w40))))))))))))))))) 
(lv x18 fun y41 => (lv (0 : Int) fun y42 => 
(Q (.tuple #[(.int .i64 y41), (.int .i64 y42)]) w16)))) := by
  refine lp_mk (fun i : Nat => [.int .i64 (rdv (bitOf bs) at' i : Int), .int .i64 (i : Int)]) (fun m i w' => m = N - i ∧ i ≤ N ∧ Rdr w' lo hi r p c bs (at' + i) ∧ Ext (onl r) w w') N 0 rfl ⟨rfl, Nat.zero_le _, h, Ext.refl _ _⟩ ?_
  rintro m i w1 ⟨rfl, hi', hR, hX⟩ J hJ
  refine asI_i rfl (asI_i rfl (cond_split (fun hc => ?_) (fun hc => ?_)))
  · have hiN : i < N := by simpa using hc
    have hl := h.len
    refine dw_mk (dr_i (ld_mk (rdr_ld0 hR.drew) (asS_i rfl (dr_i (ld_mk (rdr_ld1 hR.drew) (asI_i rfl ?_))))))
    have hq : (at' + i) / 8 < bs.length := by omega
    have e1 : IntKind.wrap .i64 (Int.tdiv ((at' + i : Nat) : Int) 8) = (((at' + i) / 8 : Nat) : Int) := by rw [tdiv8, wr64 (by omega) (by omega)]
    have e2 : IntKind.wrap .i64 ((7 : Int) - Int.tmod ((at' + i : Nat) : Int) 8) = ((7 - (at' + i) % 8 : Nat) : Int) := by rw [tmod8, wr64 (by omega) (by omega)]; omega
    rw [e1]
    refine hR.drew.reads.at (by omega) (by rw [Int.toNat_natCast]; exact bv_get hq) (asI_i rfl (dr_i (ld_mk (rdr_ld1 hR.drew) (asI_i rfl ?_)))) (by rw [bv_length]; exact Nat.le_refl _)
    rw [e2]
    refine nn_mk (by omega) (lv_i (dr_i (ld_mk (rdr_ld1 hR.drew) (asI_i rfl (dr_i ?_)))))
    rw [add_mk]
    have hb : w1.drew.heap[r]? = some (.cells #[.slice p bs.length c, .int .i64 ((at' + i : Nat) : Int)] 116 (0, 0)) := hR.blk
    refine st_mk hb (by simp) rfl ?_
    have hE : Ext (onl r) w1 (w1.drew.setCell ⟨r, 0 + 1, none⟩ (.int .i64 (IntKind.wrap .i64 (((at' + i : Nat) : Int) + 1)))) := (Ext.of_no (Ext.drew w1)).trans (Ext.set w1.drew ⟨r, 0 + 1, none⟩ _)
    have hb' := blk_set hb (0 + 1) (.int .i64 (IntKind.wrap .i64 (((at' + i : Nat) : Int) + 1)))
    have hx : bs.getD ((at' + i) / 8) 0 < 256 := by
      have : bs[(at' + i) / 8]? = some (bs[(at' + i) / 8]'hq) := List.getElem?_eq_getElem hq
      rw [List.getD_eq_getElem?_getD, this]
      exact h.small _ (List.getElem_mem _)
    have hv : Go.bits .or .i64 (IntKind.wrap .i64 ((rdv (bitOf bs) at' i : Int) * 2 ^ (min (Int.toNat (1 : Int)) 64))) (IntKind.wrap .i64 (Go.bits .and .u8 (Int.fdiv (bs.getD ((at' + i) / 8) 0 : Nat) (2 ^ (min (Int.toNat ((7 - (at' + i) % 8 : Nat) : Int)) 8))) (1 : Int))) = ((rdv (bitOf bs) at' (i + 1) : Nat) : Int) := by
      have hlt := rdv_lt (bitOf bs) at' i
      have h2i : 2 ^ i ≤ 2 ^ 62 := Nat.pow_le_pow_right (by decide) (by omega)
      have hs : (2 : Nat) ^ 62 = 4611686018427387904 := by decide
      have hbit : (bitOf bs (at' + i)).toNat ≤ 1 := by cases bitOf bs (at' + i) <;> decide
      have hmin : min (Int.toNat ((7 - (at' + i) % 8 : Nat) : Int)) 8 = 7 - (at' + i) % 8 := by rw [Int.toNat_natCast]; omega
      rw [hmin, bit_out hx]
      show Go.bits .or .i64 (IntKind.wrap .i64 ((rdv (bitOf bs) at' i : Int) * 2)) (IntKind.wrap .i64 ((bitOf bs (at' + i)).toNat : Int)) = _
      rw [wr64 (n := ((bitOf bs (at' + i)).toNat : Int)) (by omega) (by omega), wr64 (n := (rdv (bitOf bs) at' i : Int) * 2) (by omega) (by omega)]
      have e3 : (rdv (bitOf bs) at' i : Int) * 2 = ((2 * rdv (bitOf bs) at' i : Nat) : Int) := by omega
      rw [e3, bits_or_nat (by simp [IntKind.bits]; omega) (by simp [IntKind.bits]; omega), or_low, wr64 (by omega) (by omega)]
      rfl
    have hi64 : IntKind.wrap .i64 ((i : Int) + 1) = ((i + 1 : Nat) : Int) := by rw [wr64 (by omega) (by omega)]; omega
    rw [hv, hi64]
    refine hJ (N - (i + 1)) (i + 1) _ (by omega) ⟨rfl, by omega, ?_, hX.trans hE⟩
    refine ⟨hR.hlo, hR.hhi, Nat.le_trans hR.le hE.size, hR.phi, hR.ne, ?_, hR.reads.ext hE fun a ha => hR.ne a ha, hR.small, hR.len, by omega⟩
    rw [hb']
    have e4 : IntKind.wrap .i64 (((at' + i : Nat) : Int) + 1) = ((at' + (i + 1) : Nat) : Int) := by rw [wr64 (by omega) (by omega)]; omega
    rw [e4]
    rfl
  · have hiN : i = N := by have : ¬ i < N := by simpa using hc
                           omega
    subst hiN
    refine lv_i (lv_i (hQ _ hR hX))

theorem take_k {w : World} {lo hi r : Nat} {p : Option Addr} {c : Nat} {bs : List Nat} {at' : Nat} (h : Rdr w lo hi r p c bs at') {n : Int} {K : Value → World → Prop}
    (hK : ∀ w', Rdr w' lo hi r p c bs (takeA bs at' n) → Ext (onl r) w w' → K (.tuple #[.int .i64 (takeV bs at' n), .int .i64 (takeE bs at' n)]) w') :
    cl Tryd.prog 50 #[.pointer (some ⟨r, 0, none⟩), .int .i64 n] w K := by
  apply F50_calls
  unfold F50
  refine lv_i (lv_i (jn_mk (cond_split (fun h0 => asB_i rfl (cond_t rfl ?_)) (fun h0 => asB_i rfl (cond_split (fun h1 => ?_) (fun h1 => ?_))))))
  · have : takeE bs at' n = 1 := by unfold takeE; rw [if_pos (.inl (by simpa using h0))]
    have := hK w (by simpa [takeA, this] using h) (Ext.refl _ _)
    refine lv_i (lv_i ?_)
    simpa [takeV, *] using this
  · have : takeE bs at' n = 1 := by unfold takeE; rw [if_pos (.inr (by simpa using h1))]
    have := hK w (by simpa [takeA, this] using h) (Ext.refl _ _)
    refine lv_i (lv_i ?_)
    simpa [takeV, *] using this
  · simp only [decide_eq_false_iff_not, Int.not_lt, gt_iff_lt] at h0 h1
    refine rest_k h ?_
    intro w1 hx
    have h' := h.keep hx fun _ _ _ h => h
    refine asI_i rfl (cond_split (fun h2 => ?_) (fun h2 => ?_))
    · have : takeE bs at' n = 3 := by unfold takeE; rw [if_neg (by omega), if_pos (by simpa using h2)]
      have := hK w1 (by simpa [takeA, this] using h') (Ext.of_no hx)
      refine lv_i (lv_i ?_)
      simpa [takeV, *] using this
    · simp only [decide_eq_false_iff_not, Int.not_lt, gt_iff_lt] at h2
      have : takeE bs at' n = 0 := by unfold takeE; rw [if_neg (by omega), if_neg (by omega)]
      have hat := h.at_le
      obtain ⟨N, rfl⟩ : ∃ N : Nat, n = (N : Int) := ⟨n.toNat, by omega⟩
      refine lv_i (take_loop (N := N) h' (by omega) (by omega) ?_)
      intro w' hR hX
      have := hK w' (by simpa [takeA, this] using hR) ((Ext.of_no hx).trans hX)
      simpa [takeV, *] using this
end Go.Proofs.YtfnepdppkmjboaaDoor

/- SnC (turned from BitsD): what the rest of package bits does (Done, New, Put, Len, Bytes), told as contracts over rows of bits. Conditions: those of each theorem, on its arguments. -/
namespace Go.Proofs.YtfnepdppkmjboaaDoor
open Go Go.Sx
attribute [local irreducible] jn lv ld st nw asI asB asP asS asY asM asF asA asT lp rn ru rq cl dw dr bnd bn2 nz nn hd hr so eqW
attribute [local irreducible] callOk

def doneB (bs : List Nat) (at' : Nat) : Bool := decide (8 * bs.length - at' < 8 ∧ ∀ i, i < 8 * bs.length - at' → bitOf bs (at' + i) = false)

theorem getD_small {bs : List Nat} (h : ∀ b ∈ bs, b < 256) (i : Nat) : bs.getD i 0 < 256 := by
  rw [List.getD_eq_getElem?_getD]
  cases hi : bs[i]? with
  | none => decide
  | some x => exact h x (List.mem_of_getElem? hi)

theorem done_val {bs : List Nat} {at' n : Nat} (hn : n = 8 * bs.length - at') (hle : at' ≤ 8 * bs.length) (h8 : n < 8) :
    ((((bs.getD (at' / 8) 0) % 2 ^ n : Nat) : Int) == (0 : Int)) = doneB bs at' := by
  rw [Bool.eq_iff_iff]
  simp only [doneB, decide_eq_true_eq, beq_iff_eq, ← hn, h8, true_and]
  have key : ∀ i, i < n → bitOf bs (at' + i) = ((bs.getD (at' / 8) 0) % 2 ^ n).testBit (n - 1 - i) := by
    intro i hi
    rw [Nat.testBit_mod_two_pow]
    unfold bitOf
    have e1 : (at' + i) / 8 = at' / 8 := by omega
    have e2 : 7 - (at' + i) % 8 = n - 1 - i := by omega
    have e3 : n - 1 - i < n := by omega
    rw [e1, e2]
    simp [e3]
  constructor
  · intro h i hi
    rw [key i hi, Int.ofNat_eq_zero.1 h]
    simp
  · intro h
    have : (bs.getD (at' / 8) 0) % 2 ^ n = 0 := by
      apply Nat.eq_of_testBit_eq
      intro j
      by_cases hj : j < n
      · have := h (n - 1 - j) (by omega)
        rw [key _ (by omega)] at this
        have e : n - 1 - (n - 1 - j) = j := by omega
        rw [e] at this
        simpa using this
      · rw [Nat.testBit_mod_two_pow]
        simp [hj]
    rw [this]; rfl

theorem done_k {w : World} {lo hi r : Nat} {p : Option Addr} {c : Nat} {bs : List Nat} {at' : Nat} (h : Rdr w lo hi r p c bs at') {K : Value → World → Prop}
    (hK : ∀ w', Ext no w w' → K (.bool (doneB bs at')) w') :
    cl Tryd.prog 38 #[.pointer (some ⟨r, 0, none⟩)] w K := by
  apply F38_calls
  unfold F38
  refine rest_k h ?_
  intro w1 hx
  have h1 := h.keep hx fun _ _ _ h => h
  have hlen := h.len
  have hle := h.at_le
  refine asI_i rfl (lv_i (cond_split (fun h8 => ?_) (fun h8 => ?_)))
  · have : doneB bs at' = false := by
      simp only [ge_iff_le, decide_eq_true_eq] at h8
      simp only [doneB, decide_eq_false_iff_not]
      omega
    rw [← this]
    exact hK _ hx
  · have hn8 : 8 * bs.length - at' < 8 := by
      simp only [ge_iff_le, decide_eq_false_iff_not] at h8
      omega
    have key : ∀ w2, Ext no w1 w2 → asI .u8 (([.int .u8 ((bs.getD (at' / 8) 0 : Nat) : Int)] : List Value).getD 0 undef) fun x37 => (nn ((8 * bs.length - at' : Nat) : Int) 
        (K (.bool ((Go.bits .and .u8 x37 (IntKind.wrap .u8 ((IntKind.wrap .u8 ((1 : Int) * 2 ^ (min (Int.toNat ((8 * bs.length - at' : Nat) : Int)) 8))) - (1 : Int)))) == (0 : Int))) w2)) := by
      intro w2 hx2
      refine asI_i rfl (nn_mk (by omega) ?_)
      rw [low_u8 (getD_small h.small _) (by omega), done_val rfl hle hn8]
      exact hK _ (hx.trans hx2)
    have e1 : IntKind.wrap .i64 (Int.tdiv (at' : Int) 8) = ((at' / 8 : Nat) : Int) := by rw [tdiv8, wr64 (by omega) (by omega)]
    refine lv_i (jn_mk (dw_mk (dr_i (ld_mk (rdr_ld0 h1.drew) (asS_i rfl (dr_i (ld_mk (rdr_ld1 h1.drew) (asI_i rfl ?_))))))))
    rw [e1]
    refine bn2_mk (by omega) (by omega) ?_
    refine lp_mk (fun _ : Unit => [.int .u8 0, .int .i64 (0 : Int)]) (fun _ _ w' => Rdr w' lo hi r p c bs at' ∧ Ext no w1 w') 0 () rfl ⟨h1.drew, Ext.drew w1⟩ ?_
    rintro m ⟨⟩ w2 ⟨h2, hx2⟩ J hJ
    refine asI_i rfl (asI_i rfl (cond_split (fun hc => ?_) (fun hc => ?_)))
    · have hlt : at' / 8 < bs.length := by
        simp only [Int.toNat_natCast, decide_eq_true_eq] at hc
        omega
      refine lv_i (dw_mk (dr_i (ld_mk (rdr_ld0 h2.drew) (asS_i rfl (dr_i (ld_mk (rdr_ld1 h2.drew) (asI_i rfl ?_)))))))
      have e2 : IntKind.wrap .i64 (IntKind.wrap .i64 (Int.tdiv (at' : Int) 8) + 0) = ((at' / 8 : Nat) : Int) := by rw [e1, wr64 (by omega) (by omega)]; omega
      rw [e2]
      refine h2.drew.reads.at (by omega) (by rw [Int.toNat_natCast]; exact bv_get hlt) (asI_i rfl (lv_i (key _ (hx2.trans (Ext.drew w2))))) (by rw [bv_length]; exact Nat.le_refl _)
    · have hge : bs.length ≤ at' / 8 := by
        simp only [Int.toNat_natCast, decide_eq_false_iff_not] at hc
        omega
      have : bs.getD (at' / 8) 0 = 0 := by
        rw [List.getD_eq_getElem?_getD, List.getElem?_eq_none hge]
        rfl
      have hk := key _ hx2
      rw [this] at hk
      exact hk

/-- a writer -/
structure Wtr (w : World) (base r : Nat) (p : Option Addr) (c : Nat) (bs : List Nat) (l : List Bool) : Prop where
  hlo : base ≤ r
  le : base ≤ w.heap.size
  ne : ∀ a, p = some a → a.block ≠ r
  blk : w.heap[r]? = some (.cells #[.slice p bs.length c, .int .i64 (l.length : Int)] 102 (0, 0))
  row : Row w base 5 p c (bv bs)
  pk : Packs bs l
  most : l.length ≤ 1048576

theorem Wtr.keep {w w' : World} {base r : Nat} {p : Option Addr} {c : Nat} {bs : List Nat} {l : List Bool} (h : Wtr w base r p c bs l) {M : Nat → Prop} (hx : Ext M w w')
    (hr : ¬ M r) (hp : ∀ a, p = some a → ¬ M a.block) : Wtr w' base r p c bs l :=
  ⟨h.hlo, Nat.le_trans h.le hx.size, h.ne, hx.blk h.blk hr, h.row.ext hx hp, h.pk, h.most⟩
theorem Wtr.drew {w : World} {base r : Nat} {p : Option Addr} {c : Nat} {bs : List Nat} {l : List Bool} (h : Wtr w base r p c bs l) : Wtr w.drew base r p c bs l := h.keep (Ext.drew w) (fun h => h) fun _ _ h => h

theorem wtr_ld0 {w : World} {base r : Nat} {p : Option Addr} {c : Nat} {bs : List Nat} {l : List Bool} (h : Wtr w base r p c bs l) : w.cell? ⟨r, 0, none⟩ = some (.slice p bs.length c) := by rw [blk_cell h.blk]; rfl
theorem wtr_ld1 {w : World} {base r : Nat} {p : Option Addr} {c : Nat} {bs : List Nat} {l : List Bool} (h : Wtr w base r p c bs l) : w.cell? (Addr.add ⟨r, 0, none⟩ 1) = some (.int .i64 (l.length : Int)) := by rw [add_mk, blk_cell h.blk]; rfl

theorem new_k {w : World} {K : Value → World → Prop} (hK : ∀ r w', Ext no w w' → Wtr w' w.heap.size r none 0 [] [] → K (.pointer (some ⟨r, 0, none⟩)) w') : cl Tryd.prog 25 #[] w K := by
  apply F25_calls
  unfold F25
  refine nw_mk (hK _ _ (Ext.alloc w _) ⟨Nat.le_refl _, (Ext.alloc w _).size, by simp, new_blk w _, Row.nil _ _ _, Packs.nil, by simp⟩)

theorem Packs.le {bs : List Nat} {l : List Bool} (h : Packs bs l) (hl : l.length ≤ 1048576) : bs.length ≤ 131072 := by have := h.len; omega

theorem bytes_k {w : World} {base r : Nat} {p : Option Addr} {c : Nat} {bs : List Nat} {l : List Bool} (h : Wtr w base r p c bs l) {K : Value → World → Prop}
    (hK : ∀ p' c' w', Ext no w w' → Row w' w.heap.size 5 p' c' (bv bs) → (p' = none → bs = []) → K (.slice p' bs.length c') w') :
    cl Tryd.prog 33 #[.pointer (some ⟨r, 0, none⟩)] w K := by
  have hb := Packs.le h.pk h.most
  apply F33_calls
  unfold F33
  refine dw_mk (dr_i (ld_mk (wtr_ld0 h.drew) (asS_i rfl (dr_i (ld_mk (wtr_ld0 h.drew) (asS_i rfl ?_))))))
  refine s22.make0 (by omega) (le_maxLen (by omega)) ?_
  intro w1 hr1 hx1
  have h1 := h.drew.keep hx1 (fun h => h) fun _ _ h => h
  refine asS_i rfl (hd_i (wtr_ld0 h1) (hd_i (wtr_ld0 h1) ?_))
  refine s22.app (n := 0) hr1 rfl hx1.size h1.row.reads (bv_length bs) bv_one (le_maxLen (by omega)) (by omega) ?_
  intro p' c' w2 hr2 hx2 hm hnil
  have hx12 : Ext no w.drew w2 := hx1.then hx2 fun k hk hkb => by
    obtain ⟨a, ha, rfl⟩ := hkb
    have := (hr1.at ha).1
    omega
  have h2 := h.drew.keep hx12 (fun h => h) fun _ _ h => h
  refine asS_i rfl (hd_i (wtr_ld0 h2) ?_)
  rw [Nat.zero_add]
  rw [List.nil_append] at hr2 hnil
  refine hK _ _ _ ((Ext.drew w).trans hx12) hr2 fun hp => ?_
  have := hnil hp
  simpa [bv] using this

def bputE (l : List Bool) (v n : Int) : Int := if n < 0 ∨ 63 < n ∨ v < 0 ∨ v.toNat >>> n.toNat ≠ 0 then 1 else if 1048576 < (l.length : Int) + n then 2 else 0
def bputL (l : List Bool) (v n : Int) : List Bool := if bputE l v n = 0 then l ++ numBits v.toNat n.toNat else l

theorem numBits_split {v m k : Nat} (hk : k ≤ m) : ((List.range k).map fun i => v.testBit (m - 1 - i)) ++ numBits v (m - k) = numBits v m := by
  apply List.ext_getElem?
  intro i
  by_cases h1 : i < k
  · rw [List.getElem?_append_left (by simpa using h1), numBits_get _ _ _ (by omega)]
    simp [h1]
  · rw [List.getElem?_append_right (by simpa using h1)]
    by_cases h2 : i < m
    · rw [numBits_get _ _ _ h2, numBits_get _ _ _ (by simp; omega)]
      have e : m - k - 1 - (i - k) = m - 1 - i := by omega
      simp [e]
    · rw [List.getElem?_eq_none (by simp [numBits]; omega), List.getElem?_eq_none (by simp [numBits]; omega)]
end Go.Proofs.YtfnepdppkmjboaaDoor

/- SnD (turned from BitsE): what Writer.Put does, told as a contract over rows of bits. Conditions: those of each theorem, on its arguments. -/
namespace Go.Proofs.YtfnepdppkmjboaaDoor
open Go Go.Sx
attribute [local irreducible] jn lv ld st nw asI asB asP asS asY asM asF asA asT lp rn ru rq cl dw dr bnd bn2 nz nn hd hr so eqW
attribute [local irreducible] callOk

theorem bv_set {bs : List Nat} {i b : Nat} : (bv bs).set i (.int .u8 (b : Int)) = bv (bs.set i b) := by simp [bv, List.map_set]

/-- what a writer's functions may write -/
def wm (r : Nat) (p : Option Addr) : Nat → Prop := fun k => k = r ∨ blocks p k

/-- two steps of a writer -/
theorem wm_then {a b c : World} {r : Nat} {p p' : Option Addr} (h : Ext (wm r p) a b) (hm : Moved a p p') (k : Ext (wm r p') b c) : Ext (wm r p) a c := by
  refine h.then k fun i hi hk => ?_
  rcases hk with rfl | ⟨x, hx, rfl⟩
  · exact .inl rfl
  · rcases hm with rfl | hm
    · exact .inr ⟨x, hx, rfl⟩
    · exact absurd (hm x hx) (by omega)

theorem put_k {w : World} {base r : Nat} {p : Option Addr} {c : Nat} {bs : List Nat} {l : List Bool} (h : Wtr w base r p c bs l) {v n : Int} {K : Value → World → Prop}
    (hK : ∀ p' c' bs' w', Wtr w' base r p' c' bs' (bputL l v n) → Ext (wm r p) w w' → Moved w p p' → K (.int .i64 (bputE l v n)) w') :
    cl Tryd.prog 26 #[.pointer (some ⟨r, 0, none⟩), .int .i64 v, .int .i64 n] w K := by
  have bad : bputE l v n = 1 → K (.int .i64 1) w := fun he => by
    have := hK p c bs w (by simpa [bputL, he] using h) (Ext.refl _ _) (.inl rfl)
    rwa [he] at this
  apply F26_calls
  unfold F26
  refine lv_i (jn_mk (cond_split (fun h0 => asB_i rfl (cond_t rfl (lv_i (bad ?_)))) (fun h0 => cond_split (fun h1 => asB_i rfl (cond_t rfl (lv_i (bad ?_)))) (fun h1 => cond_split (fun h2 => asB_i rfl (cond_t rfl (lv_i (bad ?_)))) (fun h2 => ?_)))))
  · unfold bputE; rw [if_pos (.inl (by simpa using h0))]
  · unfold bputE; rw [if_pos (.inr (.inl (by simpa using h1)))]
  · unfold bputE; rw [if_pos (.inr (.inr (.inl (by simpa using h2))))]
  · simp only [decide_eq_false_iff_not, Int.not_lt, gt_iff_lt] at h0 h1 h2
    obtain ⟨V, rfl⟩ : ∃ V : Nat, v = (V : Int) := ⟨v.toNat, by omega⟩
    obtain ⟨N, rfl⟩ : ∃ N : Nat, n = (N : Int) := ⟨n.toNat, by omega⟩
    refine nn_mk (by omega) ?_
    have hmin : min (Int.toNat (N : Int)) 64 = N := by rw [Int.toNat_natCast]; omega
    rw [hmin, fdiv_pow]
    refine asB_i rfl (cond_split (fun h3 => lv_i (bad ?_)) (fun h3 => ?_))
    · have hne : V >>> N ≠ 0 := fun hz => by rw [hz] at h3; simp at h3
      unfold bputE
      rw [if_pos (.inr (.inr (.inr hne)))]
    have hsh : V >>> N = 0 := by
      have : ((V >>> N : Nat) : Int) = 0 := by
        simp only [bne_eq_false_iff_eq] at h3
        exact h3
      omega
    have hV : V < 2 ^ N := by
      rw [Nat.shiftRight_eq_div_pow] at hsh
      exact (Nat.div_eq_zero_iff_lt (Nat.two_pow_pos N)).1 hsh
    have hV63 : V < 2 ^ 63 := Nat.lt_of_lt_of_le hV (pow_le_of (by omega))
    have hnot : ¬ ((N : Int) < 0 ∨ 63 < (N : Int) ∨ (V : Int) < 0 ∨ (V : Int).toNat >>> (N : Int).toNat ≠ 0) := by
      simp only [Int.toNat_natCast, hsh]
      omega
    refine dr_i (ld_mk (wtr_ld1 h) (asI_i rfl ?_))
    have hmost := h.most
    rw [wr64 (by omega) (by omega)]
    refine cond_split (fun h4 => lv_i ?_) (fun h4 => ?_)
    · have he : bputE l V N = 2 := by
        unfold bputE
        rw [if_neg hnot, if_pos (by simpa using h4)]
      have := hK p c bs w (by simpa [bputL, he] using h) (Ext.refl _ _) (.inl rfl)
      rwa [he] at this
    have he : bputE l V N = 0 := by
      unfold bputE
      rw [if_neg hnot, if_neg (by simpa using h4)]
    have hlN : l.length + N ≤ 1048576 := by
      simp only [decide_eq_false_iff_not, Int.not_lt, gt_iff_lt] at h4
      omega
    have hpL : bputL l V N = l ++ numBits V N := by simp [bputL, he]
    rw [hpL, he] at hK
    refine lp_mk (fun m : Nat => [.int .i64 (m : Int)])
      (fun m0 m w' => m = m0 ∧ m ≤ N ∧ ∃ p' c' bs' l', Wtr w' base r p' c' bs' l' ∧ l' ++ numBits V m = l ++ numBits V N ∧ Ext (wm r p) w w' ∧ Moved w p p') N N rfl
      ⟨rfl, Nat.le_refl _, p, c, bs, l, h, rfl, Ext.refl _ _, .inl rfl⟩ ?_
    rintro _ m w1 ⟨rfl, hmN, p1, c1, bs1, l1, hW, hl1, hX, hM⟩ J hJ
    refine asI_i rfl (cond_split (fun hm0 => ?_) (fun hm0 => ?_))
    · have hm0' : m = 0 := by simpa using hm0
      subst hm0'
      have : l1 = l ++ numBits V N := by rw [← hl1]; simp [numBits]
      subst this
      exact lv_i (hK _ _ _ _ hW hX hM)
    have hmpos : 0 < m := by
      have : ¬ (m : Int) = 0 := by simpa using hm0
      omega
    have hl1len : l1.length + m = l.length + N := by
      have := congrArg List.length hl1
      simpa [numBits_length] using this
    have hmost1 := hW.most
    -- the round, once there is a byte with room
    have round : ∀ (p2 : Option Addr) (c2 : Nat) (bs2 : List Nat) (w2 : World), base ≤ w2.heap.size → (∀ a, p2 = some a → a.block ≠ r) →
        w2.heap[r]? = some (.cells #[.slice p2 bs2.length c2, .int .i64 (l1.length : Int)] 102 (0, 0)) → Row w2 base 5 p2 c2 (bv bs2) → PacksR bs2 l1 → Ext (wm r p) w w2 → Moved w p p2 →
        (dr (some ⟨r, 0, none⟩) fun a36 => (ld w2 (Addr.add a36 1) fun v37 => asI .i64 v37 fun x38 => (lv (IntKind.wrap .i64 ((8 : Int) - (Int.tmod x38 (8 : Int)))) fun free_39 => 
(lv (if (m : Int) < free_39 then (m : Int) else free_39) fun k_40 => 
(dw w2 fun w41 => (dr (some ⟨r, 0, none⟩) fun a42 => (ld w41 a42 fun v43 => asS v43 fun p44 n45 _ => (dr (some ⟨r, 0, none⟩) fun a47 => (ld w41 a47 fun v48 => asS v48 fun _ n50 _ => (dr p44 fun a52 => (bnd (IntKind.wrap .i64 ((n50 : Int) - (1 : Int))) n45 (ld w41 (Addr.add a52 (Int.toNat (IntKind.wrap .i64 ((n50 : Int) - (1 : Int))) * 1)) fun v53 => asI .u8 v53 fun x54 => (nn (IntKind.wrap .i64 ((m : Int) - k_40)) (nn k_40 (nn (IntKind.wrap .i64 (free_39 - k_40)) (dr p44 fun a55 => (bnd (IntKind.wrap .i64 ((n50 : Int) - (1 : Int))) n45 (st w41 (Addr.add a55 (Int.toNat (IntKind.wrap .i64 ((n50 : Int) - (1 : Int))) * 1)) (.int .u8 (Go.bits .or .u8 x54 (IntKind.wrap .u8 ((IntKind.wrap .u8 (Go.bits .and .i64 (Int.fdiv (V : Int) (2 ^ (min (Int.toNat (IntKind.wrap .i64 ((m : Int) - k_40))) 64))) (IntKind.wrap .i64 ((IntKind.wrap .i64 ((1 : Int) * 2 ^ (min (Int.toNat k_40) 64))) - (1 : Int))))) * 2 ^ (min (Int.toNat (IntKind.wrap .i64 (free_39 - k_40))) 8))))) fun w56 => 
(dr (some ⟨r, 0, none⟩) fun a57 => (ld w56 (Addr.add a57 1) fun v58 => asI .i64 v58 fun x59 => (dr (some ⟨r, 0, none⟩) fun a60 => (st w56 (Addr.add a60 1) (.int .i64 (IntKind.wrap .i64 (x59 + k_40))) fun w61 => 
(lv (IntKind.wrap .i64 ((m : Int) - k_40)) fun n_62 => 
(J [(.int .i64 n_62)] w61)))))))))))))))))))))))) := by
      intro p2 c2 bs2 w2 hb2 hne2 hblk2 hrow2 hpk2 hX2 hM2
      have hld0 : w2.cell? ⟨r, 0, none⟩ = some (.slice p2 bs2.length c2) := by rw [blk_cell hblk2]; rfl
      have hld1 : w2.cell? (Addr.add ⟨r, 0, none⟩ 1) = some (.int .i64 (l1.length : Int)) := by rw [add_mk, blk_cell hblk2]; rfl
      refine dr_i (ld_mk hld1 (asI_i rfl ?_))
      have hlen2 := hpk2.len
      obtain ⟨free, hfree⟩ : ∃ free, free = 8 - l1.length % 8 := ⟨_, rfl⟩
      have ef : IntKind.wrap .i64 ((8 : Int) - Int.tmod (l1.length : Int) 8) = (free : Int) := by rw [tmod8, wr64 (by omega) (by omega)]; omega
      rw [ef]
      obtain ⟨k, hkdef⟩ : ∃ k : Nat, k = min m free := ⟨_, rfl⟩
      have ek : (if (m : Int) < (free : Int) then (m : Int) else (free : Int)) = (k : Int) := by split <;> omega
      refine lv_i ?_
      rw [ek]
      refine lv_i (dw_mk (dr_i (ld_mk hld0 (asS_i rfl (dr_i (ld_mk hld0 (asS_i rfl ?_)))))))
      have e1 : IntKind.wrap .i64 ((bs2.length : Int) - 1) = ((bs2.length - 1 : Nat) : Int) := by rw [wr64 (by omega) (by omega)]; omega
      have e2 : IntKind.wrap .i64 ((m : Int) - (k : Int)) = ((m - k : Nat) : Int) := by rw [wr64 (by omega) (by omega)]; omega
      have e3 : IntKind.wrap .i64 ((free : Int) - (k : Int)) = ((free - k : Nat) : Int) := by rw [wr64 (by omega) (by omega)]; omega
      rw [e1, e2, e3]
      have hrowd : Row w2.drew base 5 p2 c2 (bv bs2) := hrow2.ext (Ext.drew w2) fun _ _ h => h
      refine hrowd.reads.at (by omega) (by rw [Int.toNat_natCast]; exact bv_get (by omega)) (asI_i rfl (nn_mk (by omega) (nn_mk (by omega) (nn_mk (by omega) ?_)))) (by rw [bv_length]; exact Nat.le_refl _)
      have hput := put_byte (x := bs2.getD (bs2.length - 1) 0) (v := V) (m := m) (k := k) (free := free) (getD_small hpk2.small _) hV63 (by omega) (by omega) (by omega) (by omega)
      rw [hput]
      refine hrowd.st (by omega) (by rw [bv_length]; omega) (by rw [bv_length]; exact Nat.le_refl _) rfl ?_
      intro w3 hrow3 hx3 hs3
      rw [Int.toNat_natCast, bv_set] at hrow3
      have hx23 : Ext (blocks p2) w2 w3 := ((Ext.drew w2).mono fun _ _ h => h.elim).trans hx3
      have hblk3 := hx23.blk hblk2 (fun ⟨a, ha, hab⟩ => hne2 a ha hab)
      have hld3 : w3.cell? (Addr.add ⟨r, 0, none⟩ 1) = some (.int .i64 (l1.length : Int)) := by rw [add_mk, blk_cell hblk3]; rfl
      refine dr_i (ld_mk hld3 (asI_i rfl (dr_i ?_)))
      rw [add_mk]
      refine st_mk hblk3 (by simp) rfl (lv_i ?_)
      have e4 : IntKind.wrap .i64 ((l1.length : Int) + (k : Int)) = ((l1.length + k : Nat) : Int) := by rw [wr64 (by omega) (by omega)]; omega
      rw [e4]
      have hx4 := Ext.set w3 ⟨r, 0 + 1, none⟩ (.int .i64 ((l1.length + k : Nat) : Int))
      have hblk4 := blk_set hblk3 (0 + 1) (.int .i64 ((l1.length + k : Nat) : Int))
      have hrow4 := hrow3.ext hx4 fun a ha hk => hne2 a ha hk
      have hpk4 := hpk2.round (v := V) (n := m) hfree (by omega) (show k ≤ free by omega) (by omega)
      have hX4 : Ext (wm r p) w (w3.setCell ⟨r, 0 + 1, none⟩ (.int .i64 ((l1.length + k : Nat) : Int))) :=
        wm_then hX2 hM2 ((hx23.mono fun i _ hi => .inr hi).trans (hx4.mono fun i _ hi => .inl hi))
      refine hJ (m - k) (m - k) _ (by omega) ⟨rfl, by omega, p2, c2, _, l1 ++ (List.range k).map (fun i => V.testBit (m - 1 - i)), ⟨hW.hlo, Nat.le_trans hb2 (Nat.le_trans hx23.size hx4.size), hne2, ?_, hrow4, hpk4, ?_⟩, ?_, hX4, hM2⟩
      · rw [hblk4]
        simp
      · simp only [List.length_append, List.length_map, List.length_range]
        omega
      · rw [List.append_assoc, numBits_split (by omega)]
        exact hl1
    refine jn_mk (dr_i (ld_mk (wtr_ld1 hW) (asI_i rfl (cond_split (fun h8 => ?_) (fun h8 => ?_)))))
    · have h8' : l1.length % 8 = 0 := by
        have : (Int.tmod (l1.length : Int) 8) = 0 := by simpa using h8
        rw [tmod8] at this
        omega
      refine dr_i (ld_mk (wtr_ld0 hW) (asS_i rfl ?_))
      have hbl := Packs.le hW.pk hW.most
      refine s22.app1 hW.row (bv_length bs1) hW.le rfl (le_maxLen (by omega)) (by omega) ?_
      intro p2 c2 w2 hrow2 hx2 hm2
      have hblk2 := hx2.blk hW.blk (fun ⟨a, ha, hab⟩ => hW.ne a ha hab)
      refine asS_i rfl (dr_i (st_mk hblk2 (by simp) rfl ?_))
      have hx3 := Ext.set w2 ⟨r, 0, none⟩ (.slice p2 (bs1.length + 1) c2)
      have hne2 : ∀ a, p2 = some a → a.block ≠ r := by
        intro a ha
        rcases hm2 with rfl | hm2
        · exact hW.ne a ha
        · have := hm2 a ha
          have := blk_lt hW.blk
          omega
      have hrow3 := hrow2.ext hx3 fun a ha hk => hne2 a ha hk
      refine round p2 c2 (bs1 ++ [0]) _ (Nat.le_trans hW.le (Nat.le_trans hx2.size hx3.size)) hne2 ?_ ?_ (hW.pk.room_new h8') ?_ (hM.trans hX.size hm2)
      · rw [blk_set hblk2]
        simp
      · rw [bv_append]
        exact hrow3
      · exact wm_then hX hM ((hx2.mono fun i _ hi => .inr hi).then hx3 fun i _ hi => .inl hi)
    · have h8' : l1.length % 8 ≠ 0 := by
        have : ¬ (Int.tmod (l1.length : Int) 8) = 0 := by simpa using h8
        rw [tmod8] at this
        omega
      exact round p1 c1 bs1 w1 hW.le hW.ne hW.blk hW.row (hW.pk.room_old h8') hX hM
end Go.Proofs.YtfnepdppkmjboaaDoor

/- Sk: the blocks of one's own that a walk knows, kept in one list beside the world: what is loaded from them, stored to them, laid anew. No condition. -/
namespace Go.Sx
open Go Go.RowKit

/-- from w0 on: nothing old was written; each listed block (number, cells, type) stands as listed -/
structure St (w0 w : World) (L : List (Nat × List Value × TypeId)) : Prop where
  ext : Ext no w0 w
  kn : ∀ b ∈ L, w.heap[b.1]? = some (.cells b.2.1.toArray b.2.2 (0, 0)) ∧ w0.heap.size ≤ b.1
  nd : L.Pairwise fun a b => a.1 ≠ b.1

theorem St.start (w0 : World) : St w0 w0 [] := ⟨Ext.refl _ _, by simp, List.Pairwise.nil⟩

theorem St.nw {w0 w : World} {L : List (Nat × List Value × TypeId)} (h : St w0 w L) {cs : List Value} {t : TypeId} {K : Nat → World → Prop}
    (hK : ∀ r w', St w0 w' ((r, cs, t) :: L) → K r w') : nw w (.cells cs.toArray t) K := by
  refine nw_mk (hK _ _ ⟨h.ext.trans (Ext.alloc w _), fun b hb => ?_, ?_⟩)
  · rcases List.mem_cons.1 hb with rfl | hb
    · exact ⟨new_blk w _, h.ext.size⟩
    · exact ⟨(Ext.alloc w _).blk (h.kn b hb).1 (fun hf => hf), (h.kn b hb).2⟩
  · refine List.Pairwise.cons (fun b hb => ?_) h.nd
    have := blk_lt (h.kn b hb).1
    simp only
    omega

theorem St.alloc {w0 w : World} {L : List (Nat × List Value × TypeId)} (h : St w0 w L) (cs : List Value) (t : TypeId) : St w0 (w.alloc (.cells cs.toArray t)) ((w.heap.size, cs, t) :: L) := by
  have := h.nw (cs := cs) (t := t) (K := fun r w' => r = w.heap.size → w' = w.alloc (.cells cs.toArray t) → St w0 w' ((r, cs, t) :: L)) (fun r w' hs _ _ => hs)
  exact this rfl rfl

theorem St.to {w0 w w' : World} {L : List (Nat × List Value × TypeId)} (h : St w0 w L) (hx : Ext no w w') : St w0 w' L :=
  ⟨h.ext.trans hx, fun b hb => ⟨hx.blk (h.kn b hb).1 (fun hf => hf), (h.kn b hb).2⟩, h.nd⟩

theorem St.dw {w0 w : World} {L : List (Nat × List Value × TypeId)} (h : St w0 w L) {K : World → Prop} (hK : ∀ w', St w0 w' L → Ext no w w' → K w') : dw w K :=
  hK w.drew (h.to (Ext.drew w)) (Ext.drew w)

theorem St.cell {w0 w : World} {L : List (Nat × List Value × TypeId)} (h : St w0 w L) (i : Nat) {r : Nat} {cs : List Value} {t : TypeId} (hL : L[i]? = some (r, cs, t)) {j : Nat} {v : Value} (hj : cs[j]? = some v) :
    w.cell? ⟨r, j, none⟩ = some v := by
  have hk := (h.kn _ (List.mem_of_getElem? hL)).1
  rw [blk_cell hk]
  simpa using hj

theorem St.ld0 {w0 w : World} {L : List (Nat × List Value × TypeId)} (h : St w0 w L) (i : Nat) {r : Nat} {cs : List Value} {t : TypeId} (hL : L[i]? = some (r, cs, t)) {v : Value} (hj : cs[0]? = some v) {K : Value → Prop} (hK : K v) :
    ld w ⟨r, 0, none⟩ K := ld_mk (h.cell i hL hj) hK
theorem St.ld {w0 w : World} {L : List (Nat × List Value × TypeId)} (h : St w0 w L) (i : Nat) {r : Nat} {cs : List Value} {t : TypeId} (hL : L[i]? = some (r, cs, t)) {j : Nat} {v : Value} (hj : cs[j]? = some v) {K : Value → Prop} (hK : K v) :
    ld w (Addr.add ⟨r, 0, none⟩ j) K := by
  rw [add_mk, Nat.zero_add]
  exact ld_mk (h.cell i hL hj) hK
theorem St.hd0 {w0 w : World} {L : List (Nat × List Value × TypeId)} (h : St w0 w L) (i : Nat) {r : Nat} {cs : List Value} {t : TypeId} (hL : L[i]? = some (r, cs, t)) {v : Value} (hj : cs[0]? = some v) {X : Prop} (hX : X) :
    hd w ⟨r, 0, none⟩ v X := ⟨h.cell i hL hj, hX⟩
theorem St.hd {w0 w : World} {L : List (Nat × List Value × TypeId)} (h : St w0 w L) (i : Nat) {r : Nat} {cs : List Value} {t : TypeId} (hL : L[i]? = some (r, cs, t)) {j : Nat} {v : Value} (hj : cs[j]? = some v) {X : Prop} (hX : X) :
    hd w (Addr.add ⟨r, 0, none⟩ j) v X := by
  rw [add_mk, Nat.zero_add]
  exact ⟨h.cell i hL hj, hX⟩

theorem St.stj {w0 w : World} {L : List (Nat × List Value × TypeId)} (h : St w0 w L) (i : Nat) {r : Nat} {cs : List Value} {t : TypeId} (hL : L[i]? = some (r, cs, t)) {j : Nat} {u : Value} (hj : cs[j]? = some u) {v : Value} (h1 : one v = true) {K : World → Prop}
    (hK : ∀ w', St w0 w' (L.set i (r, cs.set j v, t)) → Ext (onl r) w w' → K w') : st w ⟨r, j, none⟩ v K := by
  have hk := h.kn _ (List.mem_of_getElem? hL)
  simp only at hk
  have hil : i < L.length := (List.getElem?_eq_some_iff.1 hL).1
  have hlt : j < cs.length := (List.getElem?_eq_some_iff.1 hj).1
  have hx := Ext.set w ⟨r, j, none⟩ v
  refine st_mk hk.1 (by simpa using hlt) h1 (hK _ ⟨h.ext.then hx fun k hk' hkr => ?_, fun b hb => ?_, ?_⟩ hx)
  · have : k = r := hkr
    omega
  · obtain ⟨m, hm⟩ := List.getElem?_of_mem hb
    by_cases hmi : m = i
    · subst hmi
      rw [List.getElem?_set_self hil] at hm
      cases hm
      refine ⟨?_, hk.2⟩
      simp only
      rw [blk_set hk.1]
      simp
    · rw [List.getElem?_set_ne (fun e => hmi e.symm)] at hm
      have hkb := h.kn b (List.mem_of_getElem? hm)
      refine ⟨hx.blk hkb.1 fun hbr => ?_, hkb.2⟩
      have hbr' : b.1 = r := hbr
      have hml : m < L.length := (List.getElem?_eq_some_iff.1 hm).1
      have em : L[m] = b := (List.getElem?_eq_some_iff.1 hm).2
      have ei : L[i] = (r, cs, t) := (List.getElem?_eq_some_iff.1 hL).2
      have hp := List.pairwise_iff_getElem.1 h.nd
      rcases Nat.lt_or_gt_of_ne hmi with hlt' | hlt'
      · have := hp m i hml hil hlt'
        rw [em, ei] at this
        exact this hbr'
      · have := hp i m hil hml hlt'
        rw [em, ei] at this
        exact this hbr'.symm
  · have hmap : (L.set i (r, cs.set j v, t)).map (·.1) = L.map (·.1) := by
      rw [List.map_set]
      apply List.ext_getElem?
      intro m
      by_cases hmi : m = i
      · subst hmi
        rw [List.getElem?_set_self (by simpa using hil), List.getElem?_map, hL]
        rfl
      · rw [List.getElem?_set_ne (fun e => hmi e.symm)]
    have hnd : (L.map (·.1)).Pairwise (· ≠ ·) := List.pairwise_map.2 h.nd
    rw [← hmap] at hnd
    exact List.pairwise_map.1 hnd

theorem St.st0 {w0 w : World} {L : List (Nat × List Value × TypeId)} (h : St w0 w L) (i : Nat) {r : Nat} {cs : List Value} {t : TypeId} (hL : L[i]? = some (r, cs, t)) {u : Value} (hj : cs[0]? = some u) {v : Value} (h1 : one v = true) {K : World → Prop}
    (hK : ∀ w', St w0 w' (L.set i (r, cs.set 0 v, t)) → K w') : st w ⟨r, 0, none⟩ v K := h.stj i hL hj h1 fun w' h _ => hK w' h
theorem St.st {w0 w : World} {L : List (Nat × List Value × TypeId)} (h : St w0 w L) (i : Nat) {r : Nat} {cs : List Value} {t : TypeId} (hL : L[i]? = some (r, cs, t)) {j : Nat} {u : Value} (hj : cs[j]? = some u) {v : Value} (h1 : one v = true) {K : World → Prop}
    (hK : ∀ w', St w0 w' (L.set i (r, cs.set j v, t)) → K w') : st w (Addr.add ⟨r, 0, none⟩ j) v K := by
  rw [add_mk, Nat.zero_add]
  exact h.stj i hL hj h1 fun w' h _ => hK w' h

theorem St.ldd {w0 w : World} {L : List (Nat × List Value × TypeId)} (h : St w0 w L) (i : Nat) {r : Nat} {cs : List Value} {t : TypeId} (hL : L[i]? = some (r, cs, t)) {j k : Nat} {v : Value} (hj : cs[j + k]? = some v) {K : Value → Prop} (hK : K v) :
    Sx.ld w (Addr.add (Addr.add ⟨r, 0, none⟩ j) k) K := by
  rw [add_mk, add_mk, Nat.zero_add]
  exact ld_mk (h.cell i hL hj) hK
theorem St.hdd {w0 w : World} {L : List (Nat × List Value × TypeId)} (h : St w0 w L) (i : Nat) {r : Nat} {cs : List Value} {t : TypeId} (hL : L[i]? = some (r, cs, t)) {j k : Nat} {v : Value} (hj : cs[j + k]? = some v) {X : Prop} (hX : X) :
    Sx.hd w (Addr.add (Addr.add ⟨r, 0, none⟩ j) k) v X := by
  rw [add_mk, add_mk, Nat.zero_add]
  exact ⟨h.cell i hL hj, hX⟩
theorem St.std {w0 w : World} {L : List (Nat × List Value × TypeId)} (h : St w0 w L) (i : Nat) {r : Nat} {cs : List Value} {t : TypeId} (hL : L[i]? = some (r, cs, t)) {j k : Nat} {u : Value} (hj : cs[j + k]? = some u) {v : Value} (h1 : one v = true) {K : World → Prop}
    (hK : ∀ w', St w0 w' (L.set i (r, cs.set (j + k) v, t)) → K w') : Sx.st w (Addr.add (Addr.add ⟨r, 0, none⟩ j) k) v K := by
  rw [add_mk, add_mk, Nat.zero_add]
  exact h.stj i hL hj h1 fun w' h _ => hK w' h

theorem St.swap {w0 w : World} {a b : Nat × List Value × TypeId} {L : List (Nat × List Value × TypeId)} (h : St w0 w (a :: b :: L)) : St w0 w (b :: a :: L) := by
  refine ⟨h.ext, fun c hc => h.kn c ?_, ?_⟩
  · simp only [List.mem_cons] at hc ⊢
    rcases hc with h | h | h
    · exact .inr (.inl h)
    · exact .inl h
    · exact .inr (.inr h)
  · have hp := h.nd
    simp only [List.pairwise_cons, List.mem_cons] at hp ⊢
    obtain ⟨h1, h2, h3⟩ := hp
    refine ⟨?_, ?_, h3⟩
    · rintro c (rfl | hc)
      · exact fun e => h1 b (.inl rfl) e.symm
      · exact h2 c hc
    · exact fun c hc => h1 c (.inr hc)

/-- from a later world on -/
theorem St.tail {w0 w : World} {a : Nat × List Value × TypeId} {L : List (Nat × List Value × TypeId)} (h : St w0 w (a :: L)) : St w0 w L :=
  ⟨h.ext, fun c hc => h.kn c (List.mem_cons_of_mem _ hc), (List.pairwise_cons.1 h.nd).2⟩

theorem so_i {α : Type} {o : Option α} {v : α} {K : α → Prop} (e : o = some v) (h : K v) : so o K := by subst e; exact h

/-- a slice of values of three cells: one of them -/
theorem Reads.at3 {w : World} {p : Option Addr} {vs : List Value} (hr : Reads w p vs) {i : Int} {n : Nat} (h0 : 0 ≤ i) (hi : i.toNat < n) (hn : vs.length = n * 3) {K : Addr → Prop}
    (hK : ∀ a, w.cell? (Addr.add a (Int.toNat i * 3)) = vs[i.toNat * 3]? → w.cell? (Addr.add (Addr.add a (Int.toNat i * 3)) 1) = vs[i.toNat * 3 + 1]? → w.cell? (Addr.add (Addr.add a (Int.toNat i * 3)) 2) = vs[i.toNat * 3 + 2]? → K a) :
    dr p fun a => bnd i n (K a) := by
  have e : ∀ k, k < 3 → ∃ v, vs[i.toNat * 3 + k]? = some v := fun k hk => by
    have : i.toNat * 3 + k < vs.length := by rw [hn]; omega
    exact ⟨_, List.getElem?_eq_getElem this⟩
  rcases hr with h | ⟨b, o, rfl, hc⟩
  · rw [h] at hn
    simp at hn
    omega
  · refine dr_i (bnd_mk h0 (by omega) (hK _ ?_ ?_ ?_))
    · obtain ⟨v, hv⟩ := e 0 (by decide)
      rw [add_mk, ← Nat.add_zero (i.toNat * 3), hv]
      exact hc _ _ hv
    · obtain ⟨v, hv⟩ := e 1 (by decide)
      rw [add_mk, add_mk, hv, Nat.add_assoc]
      exact hc _ _ hv
    · obtain ⟨v, hv⟩ := e 2 (by decide)
      rw [add_mk, add_mk, hv, Nat.add_assoc]
      exact hc _ _ hv
theorem dr_mk' {p : Option Addr} {a : Addr} {K : Addr → Prop} (e : p = some a) (h : K a) : dr p K := by subst e; exact h
theorem eqW_mk {P : Program} {t : TypeId} {x y : Value} {K : Bool → Prop} {b : Bool} (hg : P.eqGuardType P.depth t = false) (hr : ∀ w, (Op.equal t x y).run P w = .ok b w) (h : K b) : eqW P t x y K := ⟨hg, b, hr, h⟩

end Go.Sx

/- Rn: rows of one's own whose elements take several cells: appends, clones, writes, in the words of Sx. No condition. -/
namespace Go.Sx
open Go Go.RowKit

/-- a row of n elements of s cells each, of one's own -/
structure RowN (w : World) (base : Nat) (e : TypeId) (s : Nat) (p : Option Addr) (c n : Nat) (xs : List Value) : Prop where
  own : w.ownsRow base e s (.slice p n c) n xs

theorem RowN.nil (w : World) (base : Nat) (e : TypeId) (s : Nat) : RowN w base e s none 0 0 [] := ⟨World.ownsRow_nil w base e s⟩

theorem RowN.len {w : World} {base : Nat} {e : TypeId} {s : Nat} {p : Option Addr} {c n : Nat} {xs : List Value} (h : RowN w base e s p c n xs) : xs.length = n * s := h.own.1

theorem RowN.mono {w : World} {base base' : Nat} {e : TypeId} {s : Nat} {p : Option Addr} {c n : Nat} {xs : List Value} (h : RowN w base e s p c n xs) (hb : base' ≤ base) : RowN w base' e s p c n xs := by
  refine ⟨h.own.1, ?_⟩
  rcases h.own.2 with hx | ⟨g, cap, cur, hv, hb', rest⟩
  · exact .inl hx
  · exact .inr ⟨g, cap, cur, hv, Nat.le_trans hb hb', rest⟩

theorem RowN.cases {w : World} {base : Nat} {e : TypeId} {s : Nat} {p : Option Addr} {c n : Nat} {xs : List Value} (h : RowN w base e s p c n xs) :
    (p = none ∧ c = 0 ∧ n = 0 ∧ xs = []) ∨ ∃ g cur, p = some ⟨g, 0, none⟩ ∧ base ≤ g ∧ w.heap[g]? = some (.cells cur e (0, 0)) ∧ n ≤ c ∧ c ≤ maxLen ∧ cur.size = c * s ∧ cur.toList.take (n * s) = xs := by
  rcases h.own.2 with ⟨hv, hn⟩ | ⟨g, cap, cur, hv, hb, hg, h1, h2, h3, h4⟩
  · simp only [Value.slice.injEq] at hv
    have hl := h.own.1
    rw [hn] at hl
    exact .inl ⟨hv.1, hv.2.2, hn, List.eq_nil_of_length_eq_zero (by simpa using hl)⟩
  · simp only [Value.slice.injEq, true_and] at hv
    obtain ⟨rfl, rfl⟩ := hv
    exact .inr ⟨g, cur, rfl, hb, hg, h1, h2, h3, h4⟩

theorem RowN.at {w : World} {base : Nat} {e : TypeId} {s : Nat} {p : Option Addr} {c n : Nat} {xs : List Value} (h : RowN w base e s p c n xs) {a : Addr} (hp : p = some a) : base ≤ a.block ∧ a.block < w.heap.size := by
  rcases h.cases with ⟨rfl, _⟩ | ⟨g, cur, rfl, hb, hg, _⟩
  · cases hp
  · cases hp; exact ⟨hb, blk_lt hg⟩

theorem RowN.none {w : World} {base : Nat} {e : TypeId} {s : Nat} {p : Option Addr} {c n : Nat} {xs : List Value} (h : RowN w base e s p c n xs) (hp : p = none) : n = 0 ∧ xs = [] := by
  rcases h.cases with ⟨_, _, h1, h2⟩ | ⟨g, cur, rfl, _⟩
  · exact ⟨h1, h2⟩
  · cases hp

theorem RowN.le_max {w : World} {base : Nat} {e : TypeId} {s : Nat} {p : Option Addr} {c n : Nat} {xs : List Value} (h : RowN w base e s p c n xs) : n ≤ c := by
  rcases h.cases with ⟨_, rfl, rfl, _⟩ | ⟨g, cur, rfl, _, _, h, _⟩
  · exact Nat.le_refl _
  · exact h

theorem RowN.reads {w : World} {base : Nat} {e : TypeId} {s : Nat} {p : Option Addr} {c n : Nat} {xs : List Value} (h : RowN w base e s p c n xs) : Reads w p xs := by
  rcases h.cases with ⟨_, _, _, rfl⟩ | ⟨g, cur, rfl, hb, hg, h1, h2, h3, h4⟩
  · exact .inl rfl
  · refine .inr ⟨g, 0, rfl, fun i v hv => ?_⟩
    rw [blk_cell hg, Nat.zero_add]
    rw [← h4, List.getElem?_take] at hv
    split at hv
    · simpa using hv
    · cases hv

theorem RowN.ext {M : Nat → Prop} {w w' : World} (hx : Ext M w w') {base : Nat} {e : TypeId} {s : Nat} {p : Option Addr} {c n : Nat} {xs : List Value} (h : RowN w base e s p c n xs)
    (hm : ∀ a, p = some a → ¬ M a.block) : RowN w' base e s p c n xs := by
  refine ⟨hx.own h.own fun g hg => ?_⟩
  cases p with
  | none => simp [Value.ownBlock] at hg
  | some a =>
    simp only [Value.ownBlock, Option.some.injEq] at hg
    exact hg ▸ hm a rfl

theorem RowN.keep {w w' : World} {q : Option Addr} (hx : Ext (blocks q) w w') {base : Nat} {e : TypeId} {s : Nat} {p : Option Addr} {c n : Nat} {xs : List Value} (h : RowN w base e s p c n xs) (ha : Apart p q) : RowN w' base e s p c n xs :=
  h.ext hx fun a hp ⟨b, hb, hab⟩ => ha a b hp hb hab.symm

/-- one write to a row -/
theorem RowN.st {w : World} {base : Nat} {e : TypeId} {s : Nat} {p : Option Addr} {c n : Nat} {xs : List Value} (h : RowN w base e s p c n xs) {j : Nat} {u : Value} {K : World → Prop}
    (hj : j < xs.length) (ho : one u = true)
    (hK : ∀ w', RowN w' base e s p c n (xs.set j u) → Ext (blocks p) w w' → w'.heap.size = w.heap.size → K w') {a : Addr} (ha : p = some a) : Sx.st w (Addr.add a j) u K := by
  rcases h.cases with ⟨_, _, _, rfl⟩ | ⟨g, cur, rfl, hb, hg, h1, h2, h3, h4⟩
  · simp at hj
  · cases ha
    have hlen := h.len
    have hcn : n * s ≤ c * s := Nat.mul_le_mul_right _ h1
    rw [add_mk, Nat.zero_add]
    refine st_mk hg (by omega) ho (hK _ ?_ ((Ext.set w ⟨g, j, Option.none⟩ u).mono fun k _ hk => ⟨_, rfl, hk.symm⟩) (by simp [World.setCell]))
    refine ⟨by simpa using hlen, .inr ⟨g, c, cur.setIfInBounds j u, rfl, hb, blk_set hg _ _, h1, h2, by simpa using h3, ?_⟩⟩
    simp only [Array.toList_setIfInBounds]
    rw [List.take_set, h4]

/-- a type of slices whose elements take s cells -/
structure SlN (P : Program) (t e : TypeId) (s b : Nat) : Prop where
  und : P.underlying t = some (.slice e)
  inf : ∃ i z, P.info? e = some i ∧ i.zero = some z ∧ z.cells.size = s ∧ i.size = s ∧ i.bytes = b
  pos : 0 < s

section
variable {P : Program} {t ty e : TypeId} {s b : Nat}

theorem SlN.app (ht : SlN P t e s b)
    {w : World} {base : Nat} {p : Option Addr} {n c : Nat} {xs : List Value} (hown : RowN w base e s p c n xs) (hbase : base ≤ w.heap.size)
    {q : Option Addr} {m c' : Nat} {news : List Value} (hsrc : Reads w q news) (hm : news.length = m * s) (hq : q = none → m = 0) (h1 : ∀ u ∈ news, one u = true)
    (h63 : n + m ≤ maxLen) (hbytes : (n + m) * b ≤ 140737488355328) {K : Value → World → Prop}
    (hK : ∀ p' c'' w', RowN w' base e s p' c'' (n + m) (xs ++ news) → Ext (blocks p) w w' → Moved w p p' → (p' = none → n + m = 0) → K (.slice p' (n + m) c'') w') :
    rn P (Builtin.append_ #[t, t] ty #[.slice p n c, .slice q m c']) w K := by
  obtain ⟨i, z, hi, hz, hzs, hs, rfl⟩ := ht.inf
  have hsp := ht.pos
  have ho := hown.own
  have h1' : ∀ u ∈ news, u.oneCell' = true := fun u hu => one_of (h1 u hu)
  have hE : ∀ {w' : World} {r : Option Nat}, w.grownBy w' r → (∀ k, r = some k → blocks p k) → Ext (blocks p) w w' := fun hg hr =>
    (Ext.of_grown hg).mono fun k _ hk => hr k hk.symm
  by_cases h0 : news = []
  · have hm0 : m = 0 := by
      rw [h0, List.length_nil] at hm
      rcases Nat.mul_eq_zero.1 hm.symm with h | h
      · exact h
      · omega
    subst hm0
    subst h0
    have hr : (Builtin.append_ #[t, t] ty #[.slice p n c, .slice q 0 c']).run P w = .ok (.slice p n c) w := by
      rcases hown.cases with ⟨rfl, rfl, rfl, rfl⟩ | ⟨g, cur, rfl, _, _, hc, _⟩
      · cases q <;> simp [Builtin.append_, run_underlying ht.und, sizeOf, typeInfo, hi, Builtin.lenOf, Builtin.firstCells, loadCells, loadCellsFrom]
      · cases q <;> simp [Builtin.append_, run_underlying ht.und, sizeOf, typeInfo, hi, Builtin.lenOf, Builtin.firstCells, hc, storeCells, loadCells, loadCellsFrom]
    refine rn_mk hr ?_
    exact hK p c w (by simpa using hown) (Ext.refl _ _) (.inl rfl) fun hp => by simpa using (hown.none hp).1
  · rcases hsrc with h | ⟨b', o', rfl, hc⟩
    · exact absurd h h0
    have hnews : ∀ j u, news[j]? = some u → w.cell? ((⟨b', o', none⟩ : Addr).add j) = some u := by
      intro j u hu
      rw [add_mk]; exact hc j u hu
    have hmpos : 0 < m := by
      rcases Nat.eq_zero_or_pos m with h | h
      · rw [h] at hm
        exact absurd (List.eq_nil_of_length_eq_zero (by simpa using hm)) h0
      · exact h
    rcases hown.cases with ⟨rfl, rfl, rfl, rfl⟩ | ⟨g, cur, rfl, hbg, hg, hnc, hcm, hcs, htake⟩
    · have hnil : w.ownsRow w.heap.size e s (.slice none 0 0) 0 [] := World.ownsRow_nil w _ e s
      obtain ⟨v', w', hr, h2, h3, h4⟩ := run_append_own (P := P) w w.heap.size t ty e i z s i.bytes ht.und hi hz hs rfl hzs hsp (.slice none 0 0) 0 [] hnil ⟨b', o', none⟩ m c' news hm hnews h1' h63 hbytes (Nat.le_refl _)
      rcases h2.2 with ⟨_, hx⟩ | ⟨g, cap, cur, rfl, hb, _⟩
      · omega
      refine rn_mk hr ?_
      have hrow : RowN w' w.heap.size e s (some ⟨g, 0, none⟩) cap (0 + m) ([] ++ news) := ⟨h2⟩
      exact hK _ cap w' (hrow.mono hbase) (hE h3 (by simp [Value.ownBlock])) (.inr fun a ha => (hrow.at ha).1) (fun hp => by cases hp)
    · by_cases hroom : n + m ≤ c
      · obtain ⟨w', hr, h2, h3⟩ := run_append_fits (P := P) w base t ty e i s ht.und hi hs g n c xs ho ⟨b', o', none⟩ m c' news hm hnews h1' hroom
        exact rn_mk hr (hK _ c w' ⟨h2⟩ (hE h3 fun k hk => ⟨_, rfl, by simpa using hk⟩) (.inl rfl) (by simp))
      · have holds : ∀ j u, xs[j]? = some u → w.cell? ((⟨g, 0, none⟩ : Addr).add j) = some u := by
          intro j u hu
          rcases hown.reads with h | ⟨b2, o2, h, hc2⟩
          · rw [h] at hu; simp at hu
          · cases h; rw [add_mk]; exact hc2 j u hu
        obtain ⟨v', w', hr, h2, h3⟩ := run_append_arg_grows (P := P) w t ty e i z s i.bytes ht.und hi hz hs rfl hzs hsp ⟨g, 0, none⟩ n c xs hown.len holds ⟨b', o', none⟩ m c' news hm hnews (by omega) h63 hbytes
        rcases h2.2 with ⟨_, hx⟩ | ⟨g', cap, cur', rfl, hb, _⟩
        · omega
        have hrow : RowN w' w.heap.size e s (some ⟨g', 0, none⟩) cap (n + m) (xs ++ news) := ⟨h2⟩
        exact rn_mk hr (hK _ cap w' (hrow.mono hbase) (hE h3 (by simp)) (.inr fun a ha => (hrow.at ha).1) (fun hp => by cases hp))

/-- an append of one element, as the program writes it -/
theorem SlN.app1 (ht : SlN P t e s b)
    {w : World} {base : Nat} {p : Option Addr} {n c : Nat} {xs : List Value} (hown : RowN w base e s p c n xs) (hbase : base ≤ w.heap.size)
    {vs : List Value} {t' : TypeId} (hv : vs.length = s) (h1 : ∀ u ∈ vs, one u = true)
    (h63 : n + 1 ≤ maxLen) (hbytes : (n + 1) * b ≤ 140737488355328) {K : Value → World → Prop}
    (hK : ∀ p' c'' w', RowN w' base e s p' c'' (n + 1) (xs ++ vs) → Ext (blocks p) w w' → Moved w p p' → K (.slice p' (n + 1) c'') w') :
    nw w (.cells vs.toArray t') fun r w1 => rn P (Builtin.append_ #[t, t] ty #[.slice p n c, .slice (some ⟨r, 0, none⟩) 1 1]) w1 K := by
  have hx : Ext no w (w.alloc (.cells vs.toArray t')) := Ext.alloc w _
  refine ht.app (hown.ext hx fun _ _ h => h) (Nat.le_trans hbase hx.size) (Reads.new w vs t') (by simpa using hv) (fun h => by cases h) h1 h63 hbytes ?_
  intro p' c'' w' hr hE hmv _
  refine hK p' c'' w' hr ((Ext.of_no hx).then hE fun k _ hk => hk) ?_
  rcases hmv with h | h
  · exact .inl h
  · exact .inr fun a ha => Nat.le_trans hx.size (h a ha)

/-- make with room -/
theorem SlN.make0 (ht : SlN P t e s b)
    {w : World} {kl kc : IntKind} {c : Nat} (hbytes : b * c ≤ 281474976710656) (h63 : c ≤ maxLen) {K : Value → World → Prop}
    (hK : ∀ w', RowN w' w.heap.size e s (some ⟨w.heap.size, 0, none⟩) c 0 [] → Ext no w w' → K (.slice (some ⟨w.heap.size, 0, none⟩) 0 c) w') :
    rn P (Instr.makeSlice t (.int kl 0) (.int kc (c : Int))) w K := by
  obtain ⟨i, z, hi, hz, hzs, hs, rfl⟩ := ht.inf
  obtain ⟨w', hr, h2, h3⟩ := run_make_own (P := P) w w.heap.size t e i z s ht.und hi hz hs kl kc c hbytes h63 (Nat.le_refl _)
  exact rn_mk hr (hK w' ⟨h2⟩ ((Ext.of_grown h3).mono fun _ _ h => by simp at h))
end

/-- the cells of a list of things that take s cells each -/
theorem fl_lenN {α : Type} {f : α → List Value} {s : Nat} (hf : ∀ x, (f x).length = s) : ∀ l : List α, (l.flatMap f).length = l.length * s
  | [] => by simp
  | x :: l => by
    rw [List.flatMap_cons, List.length_append, hf, fl_lenN hf l, List.length_cons, Nat.add_mul, Nat.one_mul, Nat.add_comm]

theorem fl_getN {α : Type} {f : α → List Value} {s : Nat} (hf : ∀ x, (f x).length = s) : ∀ {l : List α} {i : Nat} {x : α}, l[i]? = some x → ∀ k, k < s → (l.flatMap f)[i * s + k]? = (f x)[k]?
  | [], _, _, h, _, _ => by simp at h
  | y :: l, 0, x, h, k, hk => by
    simp only [List.getElem?_cons_zero, Option.some.injEq] at h
    subst h
    rw [List.flatMap_cons, Nat.zero_mul, Nat.zero_add, List.getElem?_append_left (by rw [hf]; exact hk)]
  | y :: l, i + 1, x, h, k, hk => by
    rw [List.flatMap_cons, List.getElem?_append_right (by rw [hf, Nat.add_mul]; omega), hf]
    have e : (i + 1) * s + k - s = i * s + k := by rw [Nat.add_mul]; omega
    rw [e]
    exact fl_getN hf (by simpa using h) k hk

/-- one cell of an element of a slice that is read -/
theorem Reads.atN {α : Type} {f : α → List Value} {s : Nat} (hf : ∀ x, (f x).length = s) {w : World} {p : Option Addr} {l : List α} (hr : Reads w p (l.flatMap f)) {i n : Nat} (hn : l.length = n) {x : α} (hx : l[i]? = some x) (hs : 0 < s) {K : Addr → Prop}
    (hK : ∀ a, p = some a → (∀ k, k < s → w.cell? (Addr.add (Addr.add a (i * s)) k) = (f x)[k]?) → K a) :
    dr p fun a => bnd (i : Int) n (K a) := by
  have hi : i < l.length := (List.getElem?_eq_some_iff.1 hx).1
  rcases hr with h | ⟨b, o, rfl, hc⟩
  · have := fl_lenN hf l
    rw [h] at this
    have h2 : 0 < l.length * s := Nat.mul_pos (by omega) hs
    simp only [List.length_nil] at this
    omega
  · refine dr_i (bnd_mk (by omega) (by omega) (hK _ rfl fun k hk => ?_))
    rw [add_mk, add_mk]
    have h1 := fl_getN hf hx k hk
    have h2 : k < (f x).length := by rw [hf]; exact hk
    rw [List.getElem?_eq_getElem h2] at h1 ⊢
    rw [Nat.add_assoc]
    exact hc _ _ h1
end Go.Sx

/- SnE: a frame for walks: own blocks that a walk knows (a list), beside a thing in memory with blocks of its own, over a world whose old blocks all stand. Conditions: those of each theorem, on its arguments. -/
namespace Go.Sx
open Go Go.RowKit

theorem asN_i {v : Value} {k : Nat} {fs cs : Array Value} {K : Nat → Array Value → Array Value → Prop} (e : v = .func (.func k) fs cs) (h : K k fs cs) : asN v K := ⟨k, fs, cs, e, h⟩

/-- what stands in the blocks B only hangs on those blocks -/
def Kp (J : (Nat → Prop) → World → Prop) : Prop := ∀ B w w', Ext (fun k => ¬ B k) w w' → J B w → J B w'

/-- from wa on: only blocks of M were written of those that were there, none of w00; the listed blocks (new since wa) stand as listed; beside them stands J in blocks of its own -/
structure Bn (w00 : World) (M : Nat → Prop) (wa w : World) (L : List (Nat × List Value × TypeId)) (J : (Nat → Prop) → World → Prop) : Prop where
  old : Ext no w00 wa
  lo : ∀ k, M k → w00.heap.size ≤ k
  ext : Ext M wa w
  kn : ∀ b ∈ L, w.heap[b.1]? = some (.cells b.2.1.toArray b.2.2 (0, 0)) ∧ wa.heap.size ≤ b.1
  nd : L.Pairwise fun a b => a.1 ≠ b.1
  kp : Kp J
  ex : ∃ B, J B w ∧ (∀ k, B k → k < w.heap.size) ∧ (∀ b ∈ L, ¬ B b.1) ∧ (∀ k, k < wa.heap.size → B k → M k) ∧ (∀ k, B k → w00.heap.size ≤ k)

section
variable {w00 : World} {M : Nat → Prop} {wa w : World} {L : List (Nat × List Value × TypeId)} {J : (Nat → Prop) → World → Prop}

theorem Bn.all (h : Bn w00 M wa w L J) : Ext no w00 w := h.old.then h.ext fun k hk hm => by have := h.lo k hm; omega

/-- only new blocks were written -/
theorem Bn.to (h : Bn w00 M wa w L J) {w' : World} (hx : Ext no w w') : Bn w00 M wa w' L J := by
  obtain ⟨B, hj, hb, ha, hm, ho⟩ := h.ex
  refine ⟨h.old, h.lo, h.ext.trans (Ext.of_no hx), fun b hb' => ⟨hx.blk (h.kn b hb').1 (fun hf => hf), (h.kn b hb').2⟩, h.nd, h.kp, B, h.kp B w w' (Ext.of_no hx) hj, fun k hk => Nat.lt_of_lt_of_le (hb k hk) hx.size, ha, hm, ho⟩

theorem Bn.nw (h : Bn w00 M wa w L J) {cs : List Value} {t : TypeId} {K : Nat → World → Prop}
    (hK : ∀ r w', Bn w00 M wa w' ((r, cs, t) :: L) J → K r w') : nw w (.cells cs.toArray t) K := by
  have h' := h.to (Ext.alloc w (.cells cs.toArray t))
  obtain ⟨B, hj, hb, ha, hm, ho⟩ := h'.ex
  have hb0 : ∀ k, B k → k < (w.alloc (.cells cs.toArray t)).heap.size := hb
  obtain ⟨B, hj, hb, ha, hm, ho⟩ := h.ex
  refine nw_mk (hK _ _ ⟨h'.old, h'.lo, h'.ext, fun b hb' => ?_, ?_, h'.kp, B, h.kp B _ _ (Ext.of_no (Ext.alloc w _)) hj, fun k hk => Nat.lt_of_lt_of_le (hb k hk) (Ext.alloc w _).size, fun b hb' => ?_, hm, ho⟩)
  · rcases List.mem_cons.1 hb' with rfl | hb'
    · exact ⟨new_blk w _, h.ext.size⟩
    · exact h'.kn b hb'
  · refine List.Pairwise.cons (fun b hb' => ?_) h.nd
    have := blk_lt (h.kn b hb').1
    simp only
    omega
  · rcases List.mem_cons.1 hb' with rfl | hb'
    · exact fun hk => Nat.lt_irrefl _ (hb _ hk)
    · exact ha b hb'

theorem Bn.dw (h : Bn w00 M wa w L J) {K : World → Prop} (hK : ∀ w', Bn w00 M wa w' L J → Ext no w w' → K w') : dw w K :=
  hK w.drew (h.to (Ext.drew w)) (Ext.drew w)

theorem Bn.cell (h : Bn w00 M wa w L J) (i : Nat) {r : Nat} {cs : List Value} {t : TypeId} (hL : L[i]? = some (r, cs, t)) {j : Nat} {v : Value} (hj : cs[j]? = some v) :
    w.cell? ⟨r, j, none⟩ = some v := by
  have hk := (h.kn _ (List.mem_of_getElem? hL)).1
  rw [blk_cell hk]
  simpa using hj

theorem Bn.ld0 (h : Bn w00 M wa w L J) (i : Nat) {r : Nat} {cs : List Value} {t : TypeId} (hL : L[i]? = some (r, cs, t)) {v : Value} (hj : cs[0]? = some v) {K : Value → Prop} (hK : K v) :
    ld w ⟨r, 0, none⟩ K := ld_mk (h.cell i hL hj) hK
theorem Bn.ld (h : Bn w00 M wa w L J) (i : Nat) {r : Nat} {cs : List Value} {t : TypeId} (hL : L[i]? = some (r, cs, t)) {j : Nat} {v : Value} (hj : cs[j]? = some v) {K : Value → Prop} (hK : K v) :
    ld w (Addr.add ⟨r, 0, none⟩ j) K := by
  rw [add_mk, Nat.zero_add]
  exact ld_mk (h.cell i hL hj) hK
theorem Bn.hd0 (h : Bn w00 M wa w L J) (i : Nat) {r : Nat} {cs : List Value} {t : TypeId} (hL : L[i]? = some (r, cs, t)) {v : Value} (hj : cs[0]? = some v) {X : Prop} (hX : X) :
    hd w ⟨r, 0, none⟩ v X := ⟨h.cell i hL hj, hX⟩
theorem Bn.hd (h : Bn w00 M wa w L J) (i : Nat) {r : Nat} {cs : List Value} {t : TypeId} (hL : L[i]? = some (r, cs, t)) {j : Nat} {v : Value} (hj : cs[j]? = some v) {X : Prop} (hX : X) :
    hd w (Addr.add ⟨r, 0, none⟩ j) v X := by
  rw [add_mk, Nat.zero_add]
  exact ⟨h.cell i hL hj, hX⟩

theorem Bn.stj (h : Bn w00 M wa w L J) (i : Nat) {r : Nat} {cs : List Value} {t : TypeId} (hL : L[i]? = some (r, cs, t)) {j : Nat} (hlt : j < cs.length) {v : Value} (h1 : one v = true) {K : World → Prop}
    (hK : ∀ w', Bn w00 M wa w' (L.set i (r, cs.set j v, t)) J → Ext (onl r) w w' → K w') : st w ⟨r, j, none⟩ v K := by
  have hmem := List.mem_of_getElem? hL
  have hk := h.kn _ hmem
  simp only at hk
  have hil : i < L.length := (List.getElem?_eq_some_iff.1 hL).1
  have hx := Ext.set w ⟨r, j, none⟩ v
  obtain ⟨B, hj, hb, ha, hm, ho⟩ := h.ex
  have hBr : ¬ B r := ha _ hmem
  have hmap : (L.set i (r, cs.set j v, t)).map (·.1) = L.map (·.1) := by
    rw [List.map_set]
    apply List.ext_getElem?
    intro m
    by_cases hmi : m = i
    · subst hmi
      rw [List.getElem?_set_self (by simpa using hil), List.getElem?_map, hL]
      rfl
    · rw [List.getElem?_set_ne (fun e => hmi e.symm)]
  refine st_mk hk.1 (by simpa using hlt) h1 (hK _ ⟨h.old, h.lo, h.ext.then hx fun k hk' hkr => ?_, fun b hb' => ?_, ?_, h.kp, B, h.kp B _ _ (hx.mono fun k _ hkr hB => hBr ((show k = r from hkr) ▸ hB)) hj,
    fun k hk => Nat.lt_of_lt_of_le (hb k hk) hx.size, fun b hb' => ?_, hm, ho⟩ hx)
  · have : k = r := hkr
    omega
  · obtain ⟨m, hm'⟩ := List.getElem?_of_mem hb'
    by_cases hmi : m = i
    · subst hmi
      rw [List.getElem?_set_self hil] at hm'
      cases hm'
      refine ⟨?_, hk.2⟩
      simp only
      rw [blk_set hk.1]
      simp
    · rw [List.getElem?_set_ne (fun e => hmi e.symm)] at hm'
      have hkb := h.kn b (List.mem_of_getElem? hm')
      refine ⟨hx.blk hkb.1 fun hbr => ?_, hkb.2⟩
      have hbr' : b.1 = r := hbr
      have hml : m < L.length := (List.getElem?_eq_some_iff.1 hm').1
      have em : L[m] = b := (List.getElem?_eq_some_iff.1 hm').2
      have ei : L[i] = (r, cs, t) := (List.getElem?_eq_some_iff.1 hL).2
      have hp := List.pairwise_iff_getElem.1 h.nd
      rcases Nat.lt_or_gt_of_ne hmi with hlt' | hlt'
      · have := hp m i hml hil hlt'
        rw [em, ei] at this
        exact this hbr'
      · have := hp i m hil hml hlt'
        rw [em, ei] at this
        exact this hbr'.symm
  · have hnd : (L.map (·.1)).Pairwise (· ≠ ·) := List.pairwise_map.2 h.nd
    rw [← hmap] at hnd
    exact List.pairwise_map.1 hnd
  · have : b.1 ∈ L.map (·.1) := by
      rw [← hmap]
      exact List.mem_map_of_mem hb'
    obtain ⟨c, hc, e⟩ := List.mem_map.1 this
    rw [← e]
    exact ha c hc

theorem Bn.st0 (h : Bn w00 M wa w L J) (i : Nat) {r : Nat} {cs : List Value} {t : TypeId} (hL : L[i]? = some (r, cs, t)) {u : Value} (hj : cs[0]? = some u) {v : Value} (h1 : one v = true) {K : World → Prop}
    (hK : ∀ w', Bn w00 M wa w' (L.set i (r, cs.set 0 v, t)) J → K w') : st w ⟨r, 0, none⟩ v K := h.stj i hL (List.getElem?_eq_some_iff.1 hj).1 h1 fun w' h _ => hK w' h
theorem Bn.st (h : Bn w00 M wa w L J) (i : Nat) {r : Nat} {cs : List Value} {t : TypeId} (hL : L[i]? = some (r, cs, t)) {j : Nat} {u : Value} (hj : cs[j]? = some u) {v : Value} (h1 : one v = true) {K : World → Prop}
    (hK : ∀ w', Bn w00 M wa w' (L.set i (r, cs.set j v, t)) J → K w') : st w (Addr.add ⟨r, 0, none⟩ j) v K := by
  rw [add_mk, Nat.zero_add]
  exact h.stj i hL (List.getElem?_eq_some_iff.1 hj).1 h1 fun w' h _ => hK w' h
theorem Bn.ldd (h : Bn w00 M wa w L J) (i : Nat) {r : Nat} {cs : List Value} {t : TypeId} (hL : L[i]? = some (r, cs, t)) {j k : Nat} {v : Value} (hj : cs[j + k]? = some v) {K : Value → Prop} (hK : K v) :
    Sx.ld w (Addr.add (Addr.add ⟨r, 0, none⟩ j) k) K := by
  rw [add_mk, add_mk, Nat.zero_add]
  exact ld_mk (h.cell i hL hj) hK
theorem Bn.hdd (h : Bn w00 M wa w L J) (i : Nat) {r : Nat} {cs : List Value} {t : TypeId} (hL : L[i]? = some (r, cs, t)) {j k : Nat} {v : Value} (hj : cs[j + k]? = some v) {X : Prop} (hX : X) :
    Sx.hd w (Addr.add (Addr.add ⟨r, 0, none⟩ j) k) v X := by
  rw [add_mk, add_mk, Nat.zero_add]
  exact ⟨h.cell i hL hj, hX⟩
theorem Bn.std (h : Bn w00 M wa w L J) (i : Nat) {r : Nat} {cs : List Value} {t : TypeId} (hL : L[i]? = some (r, cs, t)) {j k : Nat} {u : Value} (hj : cs[j + k]? = some u) {v : Value} (h1 : one v = true) {K : World → Prop}
    (hK : ∀ w', Bn w00 M wa w' (L.set i (r, cs.set (j + k) v, t)) J → K w') : Sx.st w (Addr.add (Addr.add ⟨r, 0, none⟩ j) k) v K := by
  rw [add_mk, add_mk, Nat.zero_add]
  exact h.stj i hL (List.getElem?_eq_some_iff.1 hj).1 h1 fun w' h _ => hK w' h

/-- fewer blocks known -/
theorem Bn.tail {a : Nat × List Value × TypeId} (h : Bn w00 M wa w (a :: L) J) : Bn w00 M wa w L J := by
  obtain ⟨B, hj, hb, ha, hm, ho⟩ := h.ex
  exact ⟨h.old, h.lo, h.ext, fun c hc => h.kn c (List.mem_cons_of_mem _ hc), (List.pairwise_cons.1 h.nd).2, h.kp, B, hj, hb, fun b hb' => ha b (List.mem_cons_of_mem _ hb'), hm, ho⟩
theorem Bn.drop (h : Bn w00 M wa w L J) : ∀ n, Bn w00 M wa w (L.drop n) J := by
  intro n
  induction n with
  | zero => exact h
  | succ n ih =>
    rw [← List.drop_drop (i := 1) (j := n)] at *
    cases hd : L.drop n with
    | nil => rw [hd] at ih; simpa using ih
    | cons a l => rw [hd] at ih; simpa using ih.tail

/-- a frame begins -/
theorem Bn.start {B : Nat → Prop} (hold : Ext no w00 w) (hj : J B w) (hk : Kp J) (hb : ∀ k, B k → k < w.heap.size) (ho : ∀ k, B k → w00.heap.size ≤ k) : Bn w00 B w w [] J :=
  ⟨hold, ho, Ext.refl _ _, by simp, List.Pairwise.nil, hk, B, hj, hb, by simp, fun _ _ h => h, ho⟩

/-- a call inside of a frame: it runs in a frame of its own, then the outer one goes on -/
theorem Bn.lift (h : Bn w00 M wa w L J) : ∃ B, Bn w00 B w w [] J ∧ ∀ {w' : World} {L' : List (Nat × List Value × TypeId)} {J' : (Nat → Prop) → World → Prop}, Bn w00 B w w' L' J' → Bn w00 M wa w' L J' := by
  obtain ⟨B, hj, hb, ha, hm, ho⟩ := h.ex
  refine ⟨B, Bn.start h.all hj h.kp hb ho, fun {w' L' J'} h' => ?_⟩
  obtain ⟨B', hj', hb', ha', hm', ho'⟩ := h'.ex
  refine ⟨h.old, h.lo, h.ext.then h'.ext fun k hk hB => hm k hk hB, fun b hb1 => ⟨h'.ext.blk (h.kn b hb1).1 (ha b hb1), (h.kn b hb1).2⟩, h.nd, h'.kp, B', hj', hb', fun b hb1 hB => ?_, fun k hk hB => ?_, ho'⟩
  · have := blk_lt (h.kn b hb1).1
    exact ha b hb1 (hm' _ this hB)
  · exact hm k hk (hm' k (Nat.lt_of_lt_of_le hk h.ext.size) hB)

/-- the same, with what the call knows of its own blocks -/
theorem Bn.lift2 (h : Bn w00 M wa w L J) : ∃ B, Bn w00 B w w [] J ∧ ∀ {w' : World} {L' : List (Nat × List Value × TypeId)} {J' : (Nat → Prop) → World → Prop}, Bn w00 B w w' L' J' → Bn w00 M wa w' (L' ++ L) J' := by
  obtain ⟨B, hj, hb, ha, hm, ho⟩ := h.ex
  refine ⟨B, Bn.start h.all hj h.kp hb ho, fun {w' L' J'} h' => ?_⟩
  obtain ⟨B', hj', hb', ha', hm', ho'⟩ := h'.ex
  have hsz := h.ext.size
  refine ⟨h.old, h.lo, h.ext.then h'.ext fun k hk hB => hm k hk hB, fun b hb1 => ?_, ?_, h'.kp, B', hj', hb', fun b hb1 hB => ?_, fun k hk hB => ?_, ho'⟩
  · rcases List.mem_append.1 hb1 with hb1 | hb1
    · exact ⟨(h'.kn b hb1).1, Nat.le_trans hsz (h'.kn b hb1).2⟩
    · exact ⟨h'.ext.blk (h.kn b hb1).1 (ha b hb1), (h.kn b hb1).2⟩
  · refine List.pairwise_append.2 ⟨h'.nd, h.nd, fun a ha1 b hb1 => ?_⟩
    have h1 := (h'.kn a ha1).2
    have h2 := blk_lt (h.kn b hb1).1
    omega
  · rcases List.mem_append.1 hb1 with hb1 | hb1
    · exact ha' b hb1 hB
    · exact ha b hb1 (hm' _ (blk_lt (h.kn b hb1).1) hB)
  · exact hm k hk (hm' k (Nat.lt_of_lt_of_le hk h.ext.size) hB)

/-- the thing is handled by a contract of its own -/
theorem Bn.act (h : Bn w00 M wa w L J) {B : Nat → Prop} (hb : ∀ k, B k → k < w.heap.size) (ha : ∀ b ∈ L, ¬ B b.1) (hm : ∀ k, k < wa.heap.size → B k → M k) (ho : ∀ k, B k → w00.heap.size ≤ k)
    {w' : World} {J' : (Nat → Prop) → World → Prop} {B' : Nat → Prop} (hk' : Kp J') (hj' : J' B' w') (hx : Ext B w w') (hb' : ∀ k, B' k → k < w'.heap.size) (hs : ∀ k, k < w.heap.size → B' k → B k) : Bn w00 M wa w' L J' := by
  refine ⟨h.old, h.lo, h.ext.then hx fun k hk hB => hm k hk hB, fun b hb1 => ⟨hx.blk (h.kn b hb1).1 (ha b hb1), (h.kn b hb1).2⟩, h.nd, hk', B', hj', hb', fun b hb1 hB => ?_, fun k hk hB => ?_, fun k hk => ?_⟩
  · exact ha b hb1 (hs _ (blk_lt (h.kn b hb1).1) hB)
  · exact hm k hk (hs k (Nat.lt_of_lt_of_le hk h.ext.size) hB)
  · by_cases hkw : k < w.heap.size
    · exact ho k (hs k hkw hk)
    · have := h.all.size
      omega
end
end Go.Sx

/- Bo: what the functions of package box and of the document's answer do, told as contracts: parts, gaps, meeting. Conditions: those of each theorem, on its arguments. -/
namespace Go.Proofs.YtfnepdppkmjboaaDoor
open Go Go.Sx
attribute [local irreducible] jn lv ld st nw asI asB asP asS asY asM asF asA asT lp rn ru rq cl dw dr bnd bn2 nz nn hd hr so eqW

structure Bx where
  x : Int
  y : Int
  r : Int

def Bx.cells (b : Bx) : List Value := [.int .i64 b.x, .int .i64 b.y, .int .i64 b.r]
def Bx.v (b : Bx) : Value := .agg b.cells.toArray
def vv (x y : Int) : Value := .agg #[.int .i64 x, .int .i64 y]

def within (n : Int) : Bool := decide (-1152921504606846976 ≤ n) && decide (n ≤ 1152921504606846976)
def Bx.right (b : Bx) : Bool := within b.x && within b.y && decide (1 ≤ b.r) && decide (b.r ≤ 1099511627776)
def Bx.rightE (b : Bx) : Int := if b.right then 0 else 60
def Bx.at (b : Bx) (k : Bool) : Int := if k then b.y else b.x
def adiff (p q : Int) : Int := if q - p > p - q then q - p else p - q
def gap (a b : Bx) (k : Bool) : Int := adiff (a.at k) (b.at k) - a.r - b.r

theorem within_iff {n : Int} : within n = true ↔ -1152921504606846976 ≤ n ∧ n ≤ 1152921504606846976 := by simp [within]
theorem right_iff {b : Bx} : b.right = true ↔ (-1152921504606846976 ≤ b.x ∧ b.x ≤ 1152921504606846976) ∧ (-1152921504606846976 ≤ b.y ∧ b.y ≤ 1152921504606846976) ∧ 1 ≤ b.r ∧ b.r ≤ 1099511627776 := by
  simp [Bx.right, within, and_assoc]

/-- what may be: of boxes that may be, the parts are small -/
theorem right_at {b : Bx} (h : b.right = true) (k : Bool) : -1152921504606846976 ≤ b.at k ∧ b.at k ≤ 1152921504606846976 := by
  obtain ⟨h1, h2, _⟩ := right_iff.1 h
  cases k
  · exact h1
  · exact h2

theorem adiff_le {p q : Int} (hp : -1152921504606846976 ≤ p ∧ p ≤ 1152921504606846976) (hq : -1152921504606846976 ≤ q ∧ q ≤ 1152921504606846976) : 0 ≤ adiff p q ∧ adiff p q ≤ 2305843009213693952 := by
  unfold adiff; split <;> omega

theorem gap_le {a b : Bx} (ha : a.right = true) (hb : b.right = true) (k : Bool) : -2199023255552 ≤ gap a b k ∧ gap a b k ≤ 2305843009213693952 := by
  have := adiff_le (right_at ha k) (right_at hb k)
  have h3 := (right_iff.1 ha).2.2
  have h4 := (right_iff.1 hb).2.2
  unfold gap
  omega

/-- what is told of two boxes -/
def gapV (a b : Bx) : Int × Int × Int := if a.right = true ∧ b.right = true then (gap a b false, gap a b true, 0) else (0, 0, 60)
def t3 (p : Int × Int × Int) : Value := .tuple #[.int .i64 p.1, .int .i64 p.2.1, .int .i64 p.2.2]

theorem rightE_ne {b : Bx} : (b.rightE != 0) = !b.right := by
  unfold Bx.rightE
  cases b.right <;> rfl

/-- whether two meet -/
def meetV (a b : Bx) : Bool × Int := (decide ((gapV a b).1 < 0) && decide ((gapV a b).2.1 < 0), (gapV a b).2.2)
def t2 (p : Bool × Int) : Value := .tuple #[.bool p.1, .int .i64 p.2]

theorem gapV_bad {a b : Bx} (h : (gapV a b).2.2 ≠ 0) : (gapV a b).1 = 0 ∧ (gapV a b).2.1 = 0 := by
  unfold gapV at h ⊢
  split
  · rename_i hh
    rw [if_pos hh] at h
    exact absurd rfl h
  · exact ⟨rfl, rfl⟩

/-! ### Near -/
def nearV (px py qx qy r : Int) : Bool := decide (0 ≤ r) && decide (adiff px qx ≤ r) && decide (adiff py qy ≤ r)

def I64 (n : Int) : Prop := -9223372036854775808 ≤ n ∧ n ≤ 9223372036854775807

theorem wru64 {n : Int} : IntKind.wrap .u64 n = n % 18446744073709551616 := by simp [IntKind.wrap, IntKind.bits, IntKind.signed]

end Go.Proofs.YtfnepdppkmjboaaDoor

/- Fp: small whole numbers as floats of 64 bits: written and read back, added, subtracted, compared exactly. Conditions: their size. -/
namespace Go.Fp
open Ieee

/-- the word of a whole number -/
def F (n : Int) : Nat := double.write (.number (decide (n < 0)) n.natAbs 0)

theorem log_le {m : Nat} (h0 : m ≠ 0) (h : m < 2 ^ 53) : m.log2 ≤ 52 := by
  have := (Nat.log2_lt h0).2 h
  omega

theorem log_bound {m : Nat} (h0 : m ≠ 0) : 2 ^ m.log2 ≤ m ∧ m < 2 ^ (m.log2 + 1) := ⟨Nat.log2_self_le h0, Nat.lt_log2_self⟩

theorem kept_bound {m : Nat} (h0 : m ≠ 0) (h : m < 2 ^ 53) : 2 ^ 52 ≤ m * 2 ^ (52 - m.log2) ∧ m * 2 ^ (52 - m.log2) < 2 ^ 53 := by
  obtain ⟨h1, h2⟩ := log_bound h0
  have hl := log_le h0 h
  have e1 : 2 ^ m.log2 * 2 ^ (52 - m.log2) = 2 ^ 52 := by rw [← Nat.pow_add]; congr 1; omega
  have e2 : 2 ^ (m.log2 + 1) * 2 ^ (52 - m.log2) = 2 ^ 53 := by rw [← Nat.pow_add]; congr 1; omega
  constructor
  · rw [← e1]; exact Nat.mul_le_mul_right _ h1
  · rw [← e2]; exact Nat.mul_lt_mul_of_pos_right h2 (Nat.two_pow_pos _)

theorem log_mul {m k : Nat} (h0 : m ≠ 0) : (m * 2 ^ k).log2 = m.log2 + k := by
  obtain ⟨h1, h2⟩ := log_bound h0
  have hne : m * 2 ^ k ≠ 0 := Nat.mul_ne_zero h0 (Nat.ne_of_gt (Nat.two_pow_pos k))
  have a : m.log2 + k ≤ (m * 2 ^ k).log2 := (Nat.le_log2 hne).2 (by rw [Nat.pow_add]; exact Nat.mul_le_mul_right _ h1)
  have b : (m * 2 ^ k).log2 < m.log2 + k + 1 := (Nat.log2_lt hne).2 (by
    have : m.log2 + k + 1 = (m.log2 + 1) + k := by omega
    rw [this, Nat.pow_add]
    exact Nat.mul_lt_mul_of_pos_right h2 (Nat.two_pow_pos k))
  omega

theorem cut_exact {s : Bool} {a d : Nat} (hd : d ≤ (a * 2 ^ d).log2 + 2) : Toward.even.cut s (a * 2 ^ d) d = a := by
  unfold Toward.cut
  have hm : min d ((a * 2 ^ d).log2 + 2) = d := Nat.min_eq_left hd
  have hg : 1 <<< min d ((a * 2 ^ d).log2 + 2) = 2 ^ d := by rw [hm, Nat.shiftLeft_eq, Nat.one_mul]
  simp only [hg, Nat.mul_div_cancel _ (Nat.two_pow_pos d), Nat.mul_mod_left]
  simp

/-- the word of a number, whatever the place it is told at -/
theorem nearest_at {s : Bool} {m k : Nat} (h0 : m ≠ 0) (h : m < 2 ^ 53) :
    double.nearest s (m * 2 ^ k) (-(k : Int)) = double.word s ((m.log2 + 1022) * 2 ^ 52 + m * 2 ^ (52 - m.log2)) := by
  have hl := log_le h0 h
  have hne : m * 2 ^ k ≠ 0 := Nat.mul_ne_zero h0 (Nat.ne_of_gt (Nat.two_pow_pos k))
  have kb := kept_bound h0 h
  unfold Format.nearest
  rw [if_neg hne]
  have hlast : max (-(k : Int) + ((m * 2 ^ k).log2 : Int) - (double.fractionBits : Int)) double.leastPlace = (m.log2 : Int) - 52 := by
    rw [log_mul h0]
    simp only [double, Format.leastPlace]
    omega
  simp only [hlast]
  have hkept : Toward.even.cut s ((m * 2 ^ k) <<< (-(k : Int) - ((m.log2 : Int) - 52)).toNat) (((m.log2 : Int) - 52) - -(k : Int)).toNat = m * 2 ^ (52 - m.log2) := by
    by_cases hc : k ≤ 52 - m.log2
    · have e1 : (-(k : Int) - ((m.log2 : Int) - 52)).toNat = 52 - m.log2 - k := by omega
      have e2 : (((m.log2 : Int) - 52) - -(k : Int)).toNat = 0 := by omega
      have e3 : (m * 2 ^ k) <<< (52 - m.log2 - k) = m * 2 ^ (52 - m.log2) * 2 ^ 0 := by
        rw [Nat.shiftLeft_eq, Nat.mul_assoc, ← Nat.pow_add, Nat.pow_zero, Nat.mul_one]
        congr 2
        omega
      rw [e1, e2, e3, cut_exact (Nat.zero_le _)]
    · have e1 : (-(k : Int) - ((m.log2 : Int) - 52)).toNat = 0 := by omega
      have e2 : (((m.log2 : Int) - 52) - -(k : Int)).toNat = k - (52 - m.log2) := by omega
      have e4 : (m * 2 ^ k) <<< 0 = (m * 2 ^ (52 - m.log2)) * 2 ^ (k - (52 - m.log2)) := by
        rw [Nat.shiftLeft_eq, Nat.pow_zero, Nat.mul_one, Nat.mul_assoc, ← Nat.pow_add]
        congr 2
        omega
      rw [e1, e2, e4, cut_exact]
      have hne2 : m * 2 ^ (52 - m.log2) ≠ 0 := by omega
      rw [log_mul hne2]
      omega
  rw [hkept]
  have hplace : ((m.log2 : Int) - 52 - double.leastPlace).toNat = m.log2 + 1022 := by
    simp only [double, Format.leastPlace]
    omega
  rw [hplace]
  have hmin : min ((m.log2 + 1022) * double.binade + m * 2 ^ (52 - m.log2)) double.infRung = (m.log2 + 1022) * 2 ^ 52 + m * 2 ^ (52 - m.log2) := by
    simp only [double, Format.binade, Format.infRung]
    omega
  rw [hmin]

theorem F_zero : F 0 = 0 := by decide

theorem F_eq {n : Int} (h0 : n ≠ 0) (h : n.natAbs < 2 ^ 53) : F n = double.word (decide (n < 0)) ((n.natAbs.log2 + 1022) * 2 ^ 52 + n.natAbs * 2 ^ (52 - n.natAbs.log2)) := by
  have hm : n.natAbs ≠ 0 := by omega
  have := nearest_at (s := decide (n < 0)) (k := 0) hm h
  rw [Nat.pow_zero, Nat.mul_one] at this
  exact this

theorem read_word {s : Bool} {m : Nat} (h0 : m ≠ 0) (h : m < 2 ^ 53) : double.read (double.word s ((m.log2 + 1022) * 2 ^ 52 + m * 2 ^ (52 - m.log2))) = .number s (m * 2 ^ (52 - m.log2)) ((m.log2 : Int) - 52) := by
  have kb := kept_bound h0 h
  have hl := log_le h0 h
  generalize m * 2 ^ (52 - m.log2) = q at *
  have e52 : (2 : Nat) ^ 52 = 4503599627370496 := by decide
  have e53 : (2 : Nat) ^ 53 = 9007199254740992 := by decide
  have e63 : (2 : Nat) ^ 63 = 9223372036854775808 := by decide
  have hr : (m.log2 + 1022) * 2 ^ 52 + q < 2 ^ 63 := by omega
  have hw : double.word s ((m.log2 + 1022) * 2 ^ 52 + q) / double.signWeight % 2 = s.toNat ∧ double.word s ((m.log2 + 1022) * 2 ^ 52 + q) % double.signWeight = (m.log2 + 1022) * 2 ^ 52 + q := by
    have hs : double.signWeight = 2 ^ 63 := rfl
    rw [hs]
    cases s
    · simp only [Format.word, Bool.false_eq_true, if_false, Bool.toNat_false]
      omega
    · simp only [Format.word, if_true, hs, Bool.toNat_true]
      omega
  unfold Format.read
  simp only [hw.1, hw.2]
  have hb : double.binade = 2 ^ 52 := rfl
  have hi : double.infRung = 2047 * 2 ^ 52 := rfl
  have hp : double.leastPlace = -1074 := rfl
  rw [hb, hi, hp, if_neg (by omega), if_pos (by omega)]
  have hd : ((m.log2 + 1022) * 2 ^ 52 + q) / 2 ^ 52 = m.log2 + 1023 := by omega
  have hm : 2 ^ 52 + ((m.log2 + 1022) * 2 ^ 52 + q) % 2 ^ 52 = q := by omega
  rw [hd, hm]
  have hn : (s.toNat == 1) = s := by cases s <;> rfl
  have hpl : (-1074 : Int) + ((m.log2 + 1023 - 1 : Nat) : Int) = (m.log2 : Int) - 52 := by omega
  rw [hn, hpl]

/-- what a whole number's word stands for -/
theorem read_F {n : Int} (h : n.natAbs < 2 ^ 53) : ∃ k : Nat, double.read (F n) = .number (decide (n < 0)) (n.natAbs * 2 ^ k) (-(k : Int)) := by
  by_cases h0 : n = 0
  · subst h0
    have hr : double.read 0 = .number false 0 (-1074) := rfl
    obtain ⟨k, hk⟩ : ∃ k : Nat, -(k : Int) = -1074 := ⟨1074, rfl⟩
    have e : (0 : Int).natAbs * 2 ^ k = 0 := Nat.zero_mul _
    refine ⟨k, ?_⟩
    rw [F_zero, hr, e, hk]
    rfl
  · have hm : n.natAbs ≠ 0 := by omega
    have hl := log_le hm h
    refine ⟨52 - n.natAbs.log2, ?_⟩
    rw [F_eq h0 h, read_word hm h]
    have : ((n.natAbs.log2 : Int) - 52) = -((52 - n.natAbs.log2 : Nat) : Int) := by omega
    rw [this]

/-- any telling of a whole number is written as its word -/
theorem write_at {n : Int} {k : Nat} {s : Bool} (h : n.natAbs < 2 ^ 53) (hs : s = decide (n < 0)) : double.write (.number s (n.natAbs * 2 ^ k) (-(k : Int))) = F n := by
  subst hs
  show double.nearest _ _ _ = _
  by_cases h0 : n = 0
  · subst h0
    rw [F_zero]
    have : (0 : Int).natAbs * 2 ^ k = 0 := by simp
    rw [this]
    unfold Format.nearest
    rw [if_pos rfl]
    rfl
  · have hm : n.natAbs ≠ 0 := by omega
    rw [nearest_at hm h, F_eq h0 h]

theorem signed_at (n : Int) (k u : Nat) : signed (decide (n < 0)) (n.natAbs * 2 ^ k) u = n * ((2 ^ (k + u) : Nat) : Int) := by
  unfold signed
  rw [Nat.shiftLeft_eq, Nat.mul_assoc, ← Nat.pow_add]
  by_cases h : n < 0
  · rw [if_pos (by simpa using h), Int.natCast_mul, ← Int.neg_mul]
    congr 1
    omega
  · rw [if_neg (by simpa using h), Int.natCast_mul]
    congr 1
    omega

/-- sums of data told at places -/
theorem sum_at {a b : Int} {k l : Nat} {s t : Bool} (hs : a ≠ 0 → s = decide (a < 0)) (ht : b ≠ 0 → t = decide (b < 0)) (hst : a + b = 0 → (s && t) = false) (h : (a + b).natAbs < 2 ^ 53) :
    ((Datum.number s (a.natAbs * 2 ^ k) (-(k : Int))).sum (.number t (b.natAbs * 2 ^ l) (-(l : Int)))).map double.write = some (F (a + b)) := by
  have sg : ∀ (n : Int) (s : Bool) (k u : Nat), (n ≠ 0 → s = decide (n < 0)) → signed s (n.natAbs * 2 ^ k) u = n * ((2 ^ (k + u) : Nat) : Int) := by
    intro n s k u hn
    by_cases h0 : n = 0
    · subst h0
      unfold signed
      have : (0 : Int).natAbs * 2 ^ k = 0 := Nat.zero_mul _
      rw [this, Nat.zero_shiftLeft]
      simp
    · rw [hn h0]
      exact signed_at n k u
  obtain ⟨m, hm⟩ : ∃ m : Nat, min (-(k : Int)) (-(l : Int)) = -(m : Int) := ⟨max k l, by omega⟩
  simp only [Datum.sum, hm, Option.map_some]
  have hk : k ≤ m := by omega
  have hl : l ≤ m := by omega
  have e1 : (-(k : Int) - -(m : Int)).toNat = m - k := by omega
  have e2 : (-(l : Int) - -(m : Int)).toNat = m - l := by omega
  rw [e1, e2, sg a s k (m - k) hs, sg b t l (m - l) ht]
  have e3 : k + (m - k) = m := by omega
  have e4 : l + (m - l) = m := by omega
  rw [e3, e4, ← Int.add_mul]
  have hp : 0 < ((2 ^ m : Nat) : Int) := by
    have := Nat.two_pow_pos m
    omega
  generalize hc : a + b = c at *
  have ec : (c * ((2 ^ m : Nat) : Int)).natAbs = c.natAbs * 2 ^ m := by rw [Int.natAbs_mul, Int.natAbs_natCast]
  rw [ec]
  by_cases h0 : c = 0
  · have hz : c * ((2 ^ m : Nat) : Int) = 0 := by rw [h0, Int.zero_mul]
    rw [if_pos hz, hst h0]
    rw [write_at h (by rw [h0]; rfl)]
  · have hz : c * ((2 ^ m : Nat) : Int) ≠ 0 := Int.mul_ne_zero h0 (Int.ne_of_gt hp)
    rw [if_neg hz]
    have hlt : decide (c * ((2 ^ m : Nat) : Int) < 0) = decide (c < 0) := by
      congr 1
      apply propext
      constructor
      · intro hh
        by_cases hc0 : c < 0
        · exact hc0
        · have : 0 ≤ c * ((2 ^ m : Nat) : Int) := Int.mul_nonneg (by omega) (Int.le_of_lt hp)
          omega
      · intro hh
        exact Int.mul_neg_of_neg_of_pos hh hp
    rw [hlt, write_at h rfl]

theorem add_F {a b : Int} (ha : a.natAbs < 2 ^ 53) (hb : b.natAbs < 2 ^ 53) (h : (a + b).natAbs < 2 ^ 53) : double.add (F a) (F b) = some (F (a + b)) := by
  obtain ⟨k, hk⟩ := read_F ha
  obtain ⟨l, hl⟩ := read_F hb
  unfold Format.add
  rw [hk, hl]
  refine sum_at (fun _ => rfl) (fun _ => rfl) (fun h0 => ?_) h
  by_cases h1 : a < 0
  · have : ¬ b < 0 := by omega
    simp [this]
  · simp [h1]

theorem sub_F {a b : Int} (ha : a.natAbs < 2 ^ 53) (hb : b.natAbs < 2 ^ 53) (h : (a - b).natAbs < 2 ^ 53) : double.sub (F a) (F b) = some (F (a - b)) := by
  obtain ⟨k, hk⟩ := read_F ha
  obtain ⟨l, hl⟩ := read_F hb
  unfold Format.sub
  rw [hk, hl]
  have hn : b.natAbs = (-b).natAbs := (Int.natAbs_neg b).symm
  show ((Datum.number _ _ _).sum (.number (!decide (b < 0)) (b.natAbs * 2 ^ l) _)).map _ = _
  rw [hn]
  have e : a - b = a + -b := Int.sub_eq_add_neg
  rw [e]
  refine sum_at (fun _ => rfl) (fun h0 => ?_) (fun h0 => ?_) (by rw [← e]; exact h)
  · by_cases h1 : b < 0
    · rw [decide_eq_true h1, decide_eq_false (show ¬ -b < 0 by omega)]
      rfl
    · rw [decide_eq_false h1, decide_eq_true (show -b < 0 by omega)]
      rfl
  · by_cases h1 : a < 0
    · have : b < 0 := by omega
      simp [this]
    · simp [h1]

theorem toInt_at {n : Int} {k : Nat} : (Datum.number (decide (n < 0)) (n.natAbs * 2 ^ k) (-(k : Int))).toInt .zero = some n := by
  have hc : Toward.zero.cut (decide (n < 0)) ((n.natAbs * 2 ^ k) <<< (-(k : Int)).toNat) (-(-(k : Int))).toNat = n.natAbs := by
    have e1 : (-(k : Int)).toNat = 0 := by omega
    have e2 : (-(-(k : Int))).toNat = k := by omega
    rw [e1, e2, Nat.shiftLeft_eq, Nat.pow_zero, Nat.mul_one]
    unfold Toward.cut
    by_cases h0 : n.natAbs = 0
    · have : n.natAbs * 2 ^ k = 0 := by rw [h0, Nat.zero_mul]
      rw [this, h0]
      simp
    · have hm : min k ((n.natAbs * 2 ^ k).log2 + 2) = k := Nat.min_eq_left (by rw [log_mul h0]; omega)
      have hg : 1 <<< min k ((n.natAbs * 2 ^ k).log2 + 2) = 2 ^ k := by rw [hm, Nat.shiftLeft_eq, Nat.one_mul]
      simp only [hg, Nat.mul_div_cancel _ (Nat.two_pow_pos k)]
      simp
  unfold Datum.toInt Datum.integral
  simp only [hc]
  congr 1
  have := signed_at n 0 0
  simp only [Nat.pow_zero, Nat.mul_one, Nat.add_zero] at this
  rw [this]
  simp

theorem toInt_F {n : Int} (h : n.natAbs < 2 ^ 53) : (double.read (F n)).toInt .zero = some n := by
  obtain ⟨k, hk⟩ := read_F h
  rw [hk, toInt_at]

theorem order_F {a b : Int} (ha : a.natAbs < 2 ^ 53) (hb : b.natAbs < 2 ^ 53) : double.order (F a) (F b) = some (compare a b) := by
  obtain ⟨k, hk⟩ := read_F ha
  obtain ⟨l, hl⟩ := read_F hb
  unfold Format.order
  rw [hk, hl]
  obtain ⟨m, hm⟩ : ∃ m : Nat, min (-(k : Int)) (-(l : Int)) = -(m : Int) := ⟨max k l, by omega⟩
  simp only [Datum.order, hm]
  have e1 : (-(k : Int) - -(m : Int)).toNat = m - k := by omega
  have e2 : (-(l : Int) - -(m : Int)).toNat = m - l := by omega
  rw [e1, e2, signed_at, signed_at, show k + (m - k) = m by omega, show l + (m - l) = m by omega]
  have hp : 0 < ((2 ^ m : Nat) : Int) := by
    have := Nat.two_pow_pos m
    omega
  congr 1
  simp only [compare, compareOfLessAndEq]
  have h1 : (a * ((2 ^ m : Nat) : Int) < b * ((2 ^ m : Nat) : Int)) = (a < b) := propext ⟨fun h => Int.lt_of_mul_lt_mul_right h (Int.le_of_lt hp), fun h => Int.mul_lt_mul_of_pos_right h hp⟩
  have h2 : (a * ((2 ^ m : Nat) : Int) = b * ((2 ^ m : Nat) : Int)) = (a = b) := propext ⟨fun h => Int.eq_of_mul_eq_mul_right (Int.ne_of_gt hp) h, fun h => by rw [h]⟩
  simp only [h1, h2]

theorem mul_F {a b : Int} (ha : a.natAbs < 2 ^ 53) (hb : b.natAbs < 2 ^ 53) (h : (a * b).natAbs < 2 ^ 53) (h0 : a * b = 0 → (decide (a < 0) ^^ decide (b < 0)) = false) : double.mul (F a) (F b) = some (F (a * b)) := by
  obtain ⟨k, hk⟩ := read_F ha
  obtain ⟨l, hl⟩ := read_F hb
  unfold Format.mul
  rw [hk, hl]
  simp only [Datum.product, Option.map_some]
  have e1 : a.natAbs * 2 ^ k * (b.natAbs * 2 ^ l) = (a * b).natAbs * 2 ^ (k + l) := by
    rw [Int.natAbs_mul, Nat.pow_add]
    simp only [Nat.mul_assoc, Nat.mul_left_comm]
  have e2 : -(k : Int) + -(l : Int) = -((k + l : Nat) : Int) := by omega
  rw [e1, e2, write_at h]
  by_cases hz : a * b = 0
  · rw [h0 hz, hz]
    rfl
  · have hane : a ≠ 0 := fun e => hz (by rw [e, Int.zero_mul])
    have hbne : b ≠ 0 := fun e => hz (by rw [e, Int.mul_zero])
    by_cases h1 : a < 0
    · by_cases h2 : b < 0
      · have : 0 < a * b := Int.mul_pos_of_neg_of_neg h1 h2
        rw [decide_eq_true h1, decide_eq_true h2, decide_eq_false (by omega)]
        rfl
      · have : a * b < 0 := Int.mul_neg_of_neg_of_pos h1 (by omega)
        rw [decide_eq_true h1, decide_eq_false h2, decide_eq_true this]
        rfl
    · by_cases h2 : b < 0
      · have : a * b < 0 := Int.mul_neg_of_pos_of_neg (by omega) h2
        rw [decide_eq_false h1, decide_eq_true h2, decide_eq_true this]
        rfl
      · have : 0 < a * b := Int.mul_pos (by omega) (by omega)
        rw [decide_eq_false h1, decide_eq_false h2, decide_eq_false (by omega)]
        rfl
end Go.Fp

/- Fn: floats of 64 bits that stand for small whole numbers, -0 for 0 too: sums, differences, products, order. Conditions: their size. -/
namespace Go.Fp
open Ieee

/-- the word stands for a whole number -/
def N (x : Nat) (n : Int) : Prop := n.natAbs < 2 ^ 53 ∧ (x = F n ∨ (n = 0 ∧ x = 9223372036854775808))

theorem N_F {n : Int} (h : n.natAbs < 2 ^ 53) : N (F n) n := ⟨h, .inl rfl⟩
theorem N_lit {x : Nat} {n : Int} (h : n.natAbs < 2 ^ 53) (e : F n = x) : N x n := ⟨h, .inl e.symm⟩

theorem N.read {x : Nat} {n : Int} (h : N x n) : ∃ (s : Bool) (k : Nat), double.read x = .number s (n.natAbs * 2 ^ k) (-(k : Int)) ∧ (n ≠ 0 → s = decide (n < 0)) := by
  obtain ⟨hn, rfl | ⟨rfl, rfl⟩⟩ := h
  · obtain ⟨k, hk⟩ := read_F hn
    exact ⟨_, k, hk, fun _ => rfl⟩
  · have hr : double.read 9223372036854775808 = .number true 0 (-1074) := rfl
    obtain ⟨k, hk⟩ : ∃ k : Nat, -(k : Int) = -1074 := ⟨1074, rfl⟩
    have e : (0 : Int).natAbs * 2 ^ k = 0 := Nat.zero_mul _
    exact ⟨true, k, by rw [hr, e, hk], fun h => absurd rfl h⟩

/-- what is written of a whole number told at a place, whatever the sign of a zero -/
theorem write_N {n : Int} {k : Nat} {s : Bool} (h : n.natAbs < 2 ^ 53) (hs : n ≠ 0 → s = decide (n < 0)) : N (double.write (.number s (n.natAbs * 2 ^ k) (-(k : Int)))) n := by
  by_cases h0 : n = 0
  · subst h0
    refine ⟨h, ?_⟩
    have : (0 : Int).natAbs * 2 ^ k = 0 := Nat.zero_mul _
    rw [this]
    have hw : double.write (.number s 0 (-(k : Int))) = double.word s 0 := by
      show double.nearest _ _ _ = _
      unfold Format.nearest
      rw [if_pos rfl]
    rw [hw]
    cases s
    · exact .inl rfl
    · exact .inr ⟨rfl, rfl⟩
  · rw [write_at h (hs h0)]
    exact N_F h

theorem sg_at (n : Int) (s : Bool) (k u : Nat) (hn : n ≠ 0 → s = decide (n < 0)) : signed s (n.natAbs * 2 ^ k) u = n * ((2 ^ (k + u) : Nat) : Int) := by
  by_cases h0 : n = 0
  · subst h0
    unfold signed
    have : (0 : Int).natAbs * 2 ^ k = 0 := Nat.zero_mul _
    rw [this, Nat.zero_shiftLeft]
    simp
  · rw [hn h0]
    exact signed_at n k u

theorem sum_N {a b : Int} {k l : Nat} {s t : Bool} (hs : a ≠ 0 → s = decide (a < 0)) (ht : b ≠ 0 → t = decide (b < 0)) (h : (a + b).natAbs < 2 ^ 53) :
    ∃ z, ((Datum.number s (a.natAbs * 2 ^ k) (-(k : Int))).sum (.number t (b.natAbs * 2 ^ l) (-(l : Int)))).map double.write = some z ∧ N z (a + b) := by
  obtain ⟨m, hm⟩ : ∃ m : Nat, min (-(k : Int)) (-(l : Int)) = -(m : Int) := ⟨max k l, by omega⟩
  simp only [Datum.sum, hm, Option.map_some]
  refine ⟨_, rfl, ?_⟩
  have hk : k ≤ m := by omega
  have hl : l ≤ m := by omega
  have e1 : (-(k : Int) - -(m : Int)).toNat = m - k := by omega
  have e2 : (-(l : Int) - -(m : Int)).toNat = m - l := by omega
  rw [e1, e2, sg_at a s k (m - k) hs, sg_at b t l (m - l) ht]
  have e3 : k + (m - k) = m := by omega
  have e4 : l + (m - l) = m := by omega
  rw [e3, e4, ← Int.add_mul]
  have hp : 0 < ((2 ^ m : Nat) : Int) := by
    have := Nat.two_pow_pos m
    omega
  generalize hc : a + b = c at *
  have ec : (c * ((2 ^ m : Nat) : Int)).natAbs = c.natAbs * 2 ^ m := by rw [Int.natAbs_mul, Int.natAbs_natCast]
  rw [ec]
  refine write_N h fun h0 => ?_
  have hz : c * ((2 ^ m : Nat) : Int) ≠ 0 := Int.mul_ne_zero h0 (Int.ne_of_gt hp)
  rw [if_neg hz]
  congr 1
  apply propext
  constructor
  · intro hh
    by_cases hc0 : c < 0
    · exact hc0
    · have : 0 ≤ c * ((2 ^ m : Nat) : Int) := Int.mul_nonneg (by omega) (Int.le_of_lt hp)
      omega
  · intro hh
    exact Int.mul_neg_of_neg_of_pos hh hp

theorem add_N {x y : Nat} {a b : Int} (hx : N x a) (hy : N y b) (h : (a + b).natAbs < 2 ^ 53) : ∃ z, double.add x y = some z ∧ N z (a + b) := by
  obtain ⟨s, k, hk, hs⟩ := hx.read
  obtain ⟨t, l, hl, ht⟩ := hy.read
  unfold Format.add
  rw [hk, hl]
  exact sum_N hs ht h

theorem sub_N {x y : Nat} {a b : Int} (hx : N x a) (hy : N y b) (h : (a - b).natAbs < 2 ^ 53) : ∃ z, double.sub x y = some z ∧ N z (a - b) := by
  obtain ⟨s, k, hk, hs⟩ := hx.read
  obtain ⟨t, l, hl, ht⟩ := hy.read
  unfold Format.sub
  rw [hk, hl]
  have hn : b.natAbs = (-b).natAbs := (Int.natAbs_neg b).symm
  show ∃ z, ((Datum.number _ _ _).sum (.number (!t) (b.natAbs * 2 ^ l) _)).map _ = _ ∧ _
  rw [hn]
  have e : a - b = a + -b := Int.sub_eq_add_neg
  rw [e]
  refine sum_N hs (fun h0 => ?_) (by rw [← e]; exact h)
  rw [ht (by omega)]
  by_cases h1 : b < 0
  · rw [decide_eq_true h1, decide_eq_false (show ¬ -b < 0 by omega)]
    rfl
  · rw [decide_eq_false h1, decide_eq_true (show -b < 0 by omega)]
    rfl

theorem mul_N {x y : Nat} {a b : Int} (hx : N x a) (hy : N y b) (h : (a * b).natAbs < 2 ^ 53) : ∃ z, double.mul x y = some z ∧ N z (a * b) := by
  obtain ⟨s, k, hk, hs⟩ := hx.read
  obtain ⟨t, l, hl, ht⟩ := hy.read
  unfold Format.mul
  rw [hk, hl]
  simp only [Datum.product, Option.map_some]
  refine ⟨_, rfl, ?_⟩
  have e1 : a.natAbs * 2 ^ k * (b.natAbs * 2 ^ l) = (a * b).natAbs * 2 ^ (k + l) := by
    rw [Int.natAbs_mul, Nat.pow_add]
    simp only [Nat.mul_assoc, Nat.mul_left_comm]
  have e2 : -(k : Int) + -(l : Int) = -((k + l : Nat) : Int) := by omega
  rw [e1, e2]
  refine write_N h fun hz => ?_
  have hane : a ≠ 0 := fun e => hz (by rw [e, Int.zero_mul])
  have hbne : b ≠ 0 := fun e => hz (by rw [e, Int.mul_zero])
  rw [hs hane, ht hbne]
  by_cases h1 : a < 0
  · by_cases h2 : b < 0
    · have : 0 < a * b := Int.mul_pos_of_neg_of_neg h1 h2
      rw [decide_eq_true h1, decide_eq_true h2, decide_eq_false (by omega)]
      rfl
    · have : a * b < 0 := Int.mul_neg_of_neg_of_pos h1 (by omega)
      rw [decide_eq_true h1, decide_eq_false h2, decide_eq_true this]
      rfl
  · by_cases h2 : b < 0
    · have : a * b < 0 := Int.mul_neg_of_pos_of_neg (by omega) h2
      rw [decide_eq_false h1, decide_eq_true h2, decide_eq_true this]
      rfl
    · have : 0 < a * b := Int.mul_pos (by omega) (by omega)
      rw [decide_eq_false h1, decide_eq_false h2, decide_eq_false (by omega)]
      rfl

theorem order_N {x y : Nat} {a b : Int} (hx : N x a) (hy : N y b) : double.order x y = some (compare a b) := by
  obtain ⟨s, k, hk, hs⟩ := hx.read
  obtain ⟨t, l, hl, ht⟩ := hy.read
  unfold Format.order
  rw [hk, hl]
  obtain ⟨m, hm⟩ : ∃ m : Nat, min (-(k : Int)) (-(l : Int)) = -(m : Int) := ⟨max k l, by omega⟩
  simp only [Datum.order, hm]
  have e1 : (-(k : Int) - -(m : Int)).toNat = m - k := by omega
  have e2 : (-(l : Int) - -(m : Int)).toNat = m - l := by omega
  rw [e1, e2, sg_at a s k _ hs, sg_at b t l _ ht, show k + (m - k) = m by omega, show l + (m - l) = m by omega]
  have hp : 0 < ((2 ^ m : Nat) : Int) := by
    have := Nat.two_pow_pos m
    omega
  congr 1
  simp only [compare, compareOfLessAndEq]
  have h1 : (a * ((2 ^ m : Nat) : Int) < b * ((2 ^ m : Nat) : Int)) = (a < b) := propext ⟨fun h => Int.lt_of_mul_lt_mul_right h (Int.le_of_lt hp), fun h => Int.mul_lt_mul_of_pos_right h hp⟩
  have h2 : (a * ((2 ^ m : Nat) : Int) = b * ((2 ^ m : Nat) : Int)) = (a = b) := propext ⟨fun h => Int.eq_of_mul_eq_mul_right (Int.ne_of_gt hp) h, fun h => by rw [h]⟩
  simp only [h1, h2]

theorem toInt_N {x : Nat} {n : Int} (h : N x n) : (double.read x).toInt .zero = some n := by
  obtain ⟨hn, rfl | ⟨rfl, rfl⟩⟩ := h
  · exact toInt_F hn
  · rfl
theorem N.at {x : Nat} {a b : Int} (h : N x a) (e : a = b) : N x b := e ▸ h
theorem N.lt {x : Nat} {a : Int} (h : N x a) : a.natAbs < 9007199254740992 := h.1
end Go.Fp

/- Lt: floats of package math, and cells of package lattice, told as contracts over whole numbers. Conditions: those of each theorem, on its arguments. -/
namespace Go.Proofs.YtfnepdppkmjboaaDoor
open Go Go.Sx Go.Fp

theorem asC_i {k : FloatKind} {v : Value} {x y : Nat} {K : Nat → Nat → Prop} (e : v = .complex k x y) (h : K x y) : asC k v K := ⟨x, y, e, h⟩
def mag (x : Int) : Int := if x < 0 then -x else x
theorem nearest_F (n : Int) : FloatKind.nearest .f64 n = F n := rfl

theorem so_add {x y : Nat} {a b : Int} {K : Nat → Prop} (hx : N x a) (hy : N y b) (h : (a + b).natAbs < 2 ^ 53) (hK : ∀ z, N z (a + b) → K z) : so ((FloatKind.format .f64).add x y) K := by
  obtain ⟨z, hz, hn⟩ := add_N hx hy h
  exact so_i hz (hK z hn)
theorem so_sub {x y : Nat} {a b : Int} {K : Nat → Prop} (hx : N x a) (hy : N y b) (h : (a - b).natAbs < 2 ^ 53) (hK : ∀ z, N z (a - b) → K z) : so ((FloatKind.format .f64).sub x y) K := by
  obtain ⟨z, hz, hn⟩ := sub_N hx hy h
  exact so_i hz (hK z hn)
theorem so_mul {x y : Nat} {a b : Int} {K : Nat → Prop} (hx : N x a) (hy : N y b) (h : (a * b).natAbs < 2 ^ 53) (hK : ∀ z, N z (a * b) → K z) : so ((FloatKind.format .f64).mul x y) K := by
  obtain ⟨z, hz, hn⟩ := mul_N hx hy h
  exact so_i hz (hK z hn)

theorem N_zero : N 0 0 := N_lit (by decide) (by decide)
theorem N_one : N 4607182418800017408 1 := N_lit (by decide) (by decide)
theorem N_mone : N 13830554455654793216 (-1) := N_lit (by decide) (by decide)

theorem ord_eq {x y : Nat} {a b : Int} (hx : N x a) (hy : N y b) : ((FloatKind.format .f64).order x y == some .eq) = decide (a = b) := by
  have : (FloatKind.format .f64).order x y = some (compare a b) := order_N hx hy
  rw [this]
  simp only [compare, compareOfLessAndEq]
  split
  · have : a ≠ b := by omega
    simp [this]
  · split <;> simp_all
theorem ord_lt {x y : Nat} {a b : Int} (hx : N x a) (hy : N y b) : ((FloatKind.format .f64).order x y == some .lt) = decide (a < b) := by
  have : (FloatKind.format .f64).order x y = some (compare a b) := order_N hx hy
  rw [this]
  simp only [compare, compareOfLessAndEq]
  split
  · simp_all
  · split <;> simp_all
theorem ord_gt {x y : Nat} {a b : Int} (hx : N x a) (hy : N y b) : ((FloatKind.format .f64).order x y == some .gt) = decide (b < a) := by
  have : (FloatKind.format .f64).order x y = some (compare a b) := order_N hx hy
  rw [this]
  simp only [compare, compareOfLessAndEq]
  split
  · have : ¬ b < a := by omega
    simp [this]
  · split
    · have : ¬ b < a := by omega
      simp [this]
    · have : b < a := by omega
      simp [this]

/-! ### what the model itself has -/
theorem wrapU64 {n : Int} (h : 0 ≤ n) (h' : n < 18446744073709551616) : IntKind.wrap .u64 n = n := by
  have : IntKind.wrap .u64 n = n % 18446744073709551616 := by simp [IntKind.wrap, IntKind.bits, IntKind.signed]
  rw [this]; omega

theorem andNot_top {x : Nat} (h : x < 18446744073709551616) : Go.bits .andNot .u64 (x : Int) 9223372036854775808 = ((x % 9223372036854775808 : Nat) : Int) := by
  have e2 : (~~~ (BitVec.ofInt IntKind.u64.bits (9223372036854775808 : Int))).toNat = 2 ^ 63 - 1 := by decide
  have hx : x < 2 ^ IntKind.u64.bits := by simpa [IntKind.bits] using h
  simp only [Go.bits, BitVec.toNat_and, ofInt_nat _ _ hx, e2, and_mask]
  have : x % 2 ^ 63 < 2 ^ 63 := Nat.mod_lt _ (by decide)
  exact wrapU64 (by omega) (by omega)

theorem N_word {x : Nat} {n : Int} (h : N x n) : x < 18446744073709551616 ∧ N (x % 9223372036854775808) (mag n) := by
  have hn := h.1
  have hm : (mag n).natAbs < 2 ^ 53 := by unfold mag; split <;> omega
  obtain ⟨_, rfl | ⟨rfl, rfl⟩⟩ := h
  · by_cases h0 : n = 0
    · subst h0
      rw [F_zero]
      exact ⟨by decide, N_zero⟩
    · have ha : (mag n).natAbs = n.natAbs := by unfold mag; split <;> omega
      have hmz : mag n ≠ 0 := by unfold mag; split <;> omega
      have hpos : ¬ mag n < 0 := by unfold mag; split <;> omega
      have e1 := F_eq h0 hn
      have e2 := F_eq hmz hm
      rw [ha, decide_eq_false hpos] at e2
      have kb := kept_bound (m := n.natAbs) (by omega) hn
      have hl := log_le (m := n.natAbs) (by omega) hn
      generalize n.natAbs * 2 ^ (52 - n.natAbs.log2) = q at *
      have e52 : (2 : Nat) ^ 52 = 4503599627370496 := by decide
      have e53 : (2 : Nat) ^ 53 = 9007199254740992 := by decide
      have hr : (n.natAbs.log2 + 1022) * 2 ^ 52 + q < 9223372036854775808 := by omega
      generalize (n.natAbs.log2 + 1022) * 2 ^ 52 + q = r at *
      have hs : Ieee.double.signWeight = 9223372036854775808 := rfl
      have hw : F n = r ∨ F n = 9223372036854775808 + r := by
        rw [e1]
        unfold Ieee.Format.word
        rw [hs]
        split
        · exact .inr rfl
        · exact .inl rfl
      have hw2 : F (mag n) = r := by
        rw [e2]
        rfl
      refine ⟨by omega, hm, .inl ?_⟩
      rw [hw2]
      omega
  · exact ⟨by decide, N_zero⟩

theorem trunc_N {s : Bool} {n : Int} {k : Nat} (h : n.natAbs < 2 ^ 53) (hs : n ≠ 0 → s = decide (n < 0)) : N (FloatKind.f64.encode ((Ieee.Datum.number s (n.natAbs * 2 ^ k) (-(k : Int))).integral .zero)) n := by
  have hc : Ieee.Toward.zero.cut s ((n.natAbs * 2 ^ k) <<< (-(k : Int)).toNat) (-(-(k : Int))).toNat = n.natAbs := by
    have e1 : (-(k : Int)).toNat = 0 := by omega
    have e2 : (-(-(k : Int))).toNat = k := by omega
    rw [e1, e2, Nat.shiftLeft_eq, Nat.pow_zero, Nat.mul_one]
    unfold Ieee.Toward.cut
    by_cases h0 : n.natAbs = 0
    · have : n.natAbs * 2 ^ k = 0 := by rw [h0, Nat.zero_mul]
      rw [this, h0]
      simp
    · have hm : min k ((n.natAbs * 2 ^ k).log2 + 2) = k := Nat.min_eq_left (by rw [log_mul h0]; omega)
      have hg : 1 <<< min k ((n.natAbs * 2 ^ k).log2 + 2) = 2 ^ k := by rw [hm, Nat.shiftLeft_eq, Nat.one_mul]
      simp only [hg, Nat.mul_div_cancel _ (Nat.two_pow_pos k)]
      simp
  unfold Ieee.Datum.integral
  simp only [hc]
  have := write_N (n := n) (k := 0) (s := s) h hs
  rw [Nat.pow_zero, Nat.mul_one] at this
  exact this

def isCell (a b : Int) : Bool := decide (mag a ≤ 1048576) && decide (mag b ≤ 1048576)

end Go.Proofs.YtfnepdppkmjboaaDoor

/- Fb: floats of 64 bits that come of great whole numbers are great. Conditions: their size. -/
namespace Go.Fp
open Ieee

theorem cut_bound (s : Bool) (a d : Nat) (hd : d ≤ a.log2 + 2) : a / 2 ^ d ≤ Toward.even.cut s a d ∧ Toward.even.cut s a d ≤ a / 2 ^ d + 1 := by
  unfold Toward.cut
  have hm : min d (a.log2 + 2) = d := Nat.min_eq_left hd
  have hg : 1 <<< min d (a.log2 + 2) = 2 ^ d := by rw [hm, Nat.shiftLeft_eq, Nat.one_mul]
  simp only [hg]
  have hb : ∀ b : Bool, b.toNat ≤ 1 := by intro b; cases b <;> decide
  exact ⟨Nat.le_add_right _ _, Nat.add_le_add_left (hb _) _⟩

theorem big_F {q : Int} (h1 : 9007199254740992 ≤ q.natAbs) (h2 : q.natAbs < 18446744073709551616) :
    ∃ r mag, ∃ place : Nat, F q = double.word (decide (q < 0)) r ∧ r < 9223372036854775808 ∧ double.read r = .number false mag (place : Int) ∧ 4503599627370496 ≤ mag ∧ 1 ≤ place := by
  have hm0 : q.natAbs ≠ 0 := by omega
  generalize hs : decide (q < 0) = s
  generalize hm : q.natAbs = m at *
  have hL1 : 53 ≤ m.log2 := (Nat.le_log2 hm0).2 h1
  have hL2 : m.log2 < 64 := (Nat.log2_lt hm0).2 h2
  obtain ⟨b1, b2⟩ := log_bound hm0
  have e1 : F q = double.nearest s m 0 := by
    unfold F
    rw [hs, hm]
    rfl
  have hlast : max ((0 : Int) + (m.log2 : Int) - (double.fractionBits : Int)) double.leastPlace = (m.log2 : Int) - 52 := by
    simp only [double, Format.leastPlace]
    omega
  have hk := cut_bound s m (m.log2 - 52) (by omega)
  have hlow : 4503599627370496 ≤ m / 2 ^ (m.log2 - 52) := by
    rw [Nat.le_div_iff_mul_le (Nat.two_pow_pos _)]
    have : 4503599627370496 * 2 ^ (m.log2 - 52) = 2 ^ m.log2 := by
      have : (4503599627370496 : Nat) = 2 ^ 52 := by decide
      rw [this, ← Nat.pow_add]
      congr 1; omega
    rw [this]
    exact b1
  have hhigh : m / 2 ^ (m.log2 - 52) < 9007199254740992 := by
    rw [Nat.div_lt_iff_lt_mul (Nat.two_pow_pos _)]
    have : 9007199254740992 * 2 ^ (m.log2 - 52) = 2 ^ (m.log2 + 1) := by
      have : (9007199254740992 : Nat) = 2 ^ 53 := by decide
      rw [this, ← Nat.pow_add]
      congr 1; omega
    rw [this]
    exact b2
  generalize hkk : Toward.even.cut s m (m.log2 - 52) = kept at hk
  have hnear : double.nearest s m 0 = double.word s ((m.log2 + 1022) * 4503599627370496 + kept) := by
    unfold Format.nearest
    rw [if_neg hm0]
    simp only [hlast]
    have e2 : ((0 : Int) - ((m.log2 : Int) - 52)).toNat = 0 := by omega
    have e3 : ((m.log2 : Int) - 52 - 0).toNat = m.log2 - 52 := by omega
    have e4 : m <<< 0 = m := by simp
    rw [e2, e3, e4, hkk]
    have hplace : ((m.log2 : Int) - 52 - double.leastPlace).toNat = m.log2 + 1022 := by
      simp only [double, Format.leastPlace]
      omega
    rw [hplace]
    have hmin : min ((m.log2 + 1022) * double.binade + kept) double.infRung = (m.log2 + 1022) * 4503599627370496 + kept := by
      have hb : double.binade = 4503599627370496 := rfl
      have hi : double.infRung = 9218868437227405312 := rfl
      rw [hb, hi]
      exact Nat.min_eq_left (by omega)
    rw [hmin]
  refine ⟨(m.log2 + 1022) * 4503599627370496 + kept, 4503599627370496 + ((m.log2 + 1022) * 4503599627370496 + kept) % 4503599627370496, ((m.log2 + 1022) * 4503599627370496 + kept) / 4503599627370496 - 1 - 1074, by rw [e1, hnear], by omega, ?_, by omega, by omega⟩
  unfold Format.read
  have hb : double.binade = 4503599627370496 := rfl
  have hi : double.infRung = 2047 * 4503599627370496 := rfl
  have hp : double.leastPlace = -1074 := rfl
  have hw : double.signWeight = 9223372036854775808 := rfl
  simp only [hb, hi, hp, hw]
  have hr : (m.log2 + 1022) * 4503599627370496 + kept < 9223372036854775808 := by omega
  rw [Nat.mod_eq_of_lt hr, Nat.div_eq_of_lt hr, if_neg (by omega), if_pos (by omega)]
  congr 1
  omega

theorem big_order {r mag place : Nat} (hr : double.read r = .number false mag (place : Int)) (h1 : 4503599627370496 ≤ mag) : double.order r 4697254411347427328 = some .gt := by
  have hM : double.read 4697254411347427328 = .number false 4503599627370496 (-32) := rfl
  unfold Format.order
  rw [hr, hM]
  show some (compare (signed false mag ((place : Int) - min (place : Int) (-32)).toNat) (signed false 4503599627370496 ((-32 : Int) - min (place : Int) (-32)).toNat)) = _
  have e1 : min (place : Int) (-32) = -32 := by omega
  rw [e1]
  have e2 : ((place : Int) - -32).toNat = place + 32 := by omega
  have e3 : ((-32 : Int) - -32).toNat = 0 := rfl
  rw [e2, e3]
  have s1 : signed false mag (place + 32) = ((mag * 2 ^ (place + 32) : Nat) : Int) := by
    unfold signed
    rw [if_neg (by decide), Nat.shiftLeft_eq]
  have s2 : signed false 4503599627370496 0 = ((4503599627370496 : Nat) : Int) := by
    unfold signed
    rw [if_neg (by decide), Nat.shiftLeft_eq, Nat.pow_zero, Nat.mul_one]
  rw [s1, s2]
  have hp : 4294967296 ≤ 2 ^ (place + 32) := by
    have : 2 ^ 32 ≤ 2 ^ (place + 32) := Nat.pow_le_pow_right (by decide) (by omega)
    have e : (2 : Nat) ^ 32 = 4294967296 := by decide
    omega
  have h2 : mag * 4294967296 ≤ mag * 2 ^ (place + 32) := Nat.mul_le_mul_left _ hp
  generalize mag * 2 ^ (place + 32) = x at *
  have hc : compare (x : Int) ((4503599627370496 : Nat) : Int) = .gt := by
    simp only [compare, compareOfLessAndEq]
    rw [if_neg (by omega), if_neg (by omega)]
  rw [hc]
end Go.Fp

/- GrC: in which cells points lie, and which boxes touch: what package grid tells, as contracts over whole numbers. Conditions: those of each theorem, on its arguments. -/
namespace Go.Proofs.YtfnepdppkmjboaaDoor
open Go Go.Sx Go.Fp
attribute [local irreducible] jn lv ld st nw asI asB asP asS asY asM asF asA asT lp rn ru rq cl dw dr bnd bn2 nz nn hd hr so eqW

/-- Go's quotient, and the one that is rounded down -/
theorem floor_div {n s : Int} (hs : 1 ≤ s) : n / s = if n.tmod s < 0 then n.tdiv s - 1 else n.tdiv s := by
  have h1 := Int.mul_tdiv_add_tmod n s
  have h2 : n.tmod s < s := Int.tmod_lt_of_pos n (by omega)
  have h3 : -s < n.tmod s := Int.lt_tmod_of_pos n (by omega)
  have h4 := Int.mul_ediv_add_emod n s
  have h5 := Int.emod_nonneg n (show s ≠ 0 by omega)
  have h6 := Int.emod_lt_of_pos n (show 0 < s by omega)
  generalize n.tdiv s = t at *
  generalize n / s = d at *
  generalize n.tmod s = m at *
  generalize n % s = r at *
  have hd : s * (d - t) = m - r := by rw [Int.mul_sub]; omega
  split
  · rcases Int.lt_or_le (d - t) (-1) with h | h
    · have : s * (d - t) ≤ s * -2 := Int.mul_le_mul_of_nonneg_left (by omega) (by omega)
      omega
    · rcases Int.lt_or_le (d - t) 0 with h' | h'
      · omega
      · have : s * 0 ≤ s * (d - t) := Int.mul_le_mul_of_nonneg_left (by omega) (by omega)
        omega
  · rcases Int.lt_or_le (d - t) 0 with h | h
    · have : s * (d - t) ≤ s * -1 := Int.mul_le_mul_of_nonneg_left (by omega) (by omega)
      omega
    · rcases Int.lt_or_le 0 (d - t) with h' | h'
      · have : s * 1 ≤ s * (d - t) := Int.mul_le_mul_of_nonneg_left (by omega) (by omega)
        omega
      · omega

theorem div_bound {n s : Int} (hs : 1 ≤ s) : (0 ≤ n → 0 ≤ n / s ∧ n / s ≤ n) ∧ (n < 0 → n ≤ n / s ∧ n / s < 0) := by
  have h4 := Int.mul_ediv_add_emod n s
  have h5 := Int.emod_nonneg n (show s ≠ 0 by omega)
  have h6 := Int.emod_lt_of_pos n (show 0 < s by omega)
  generalize n / s = d at *
  generalize n % s = r at *
  constructor
  · intro hn
    have h0 : 0 ≤ d := by
      rcases Int.lt_or_le d 0 with h | h
      · have : s * d ≤ s * -1 := Int.mul_le_mul_of_nonneg_left (by omega) (by omega)
        omega
      · exact h
    have : 1 * d ≤ s * d := Int.mul_le_mul_of_nonneg_right hs h0
    omega
  · intro hn
    have h0 : d < 0 := by
      rcases Int.lt_or_le d 0 with h | h
      · exact h
      · have : s * 0 ≤ s * d := Int.mul_le_mul_of_nonneg_left (by omega) (by omega)
        omega
    have h7 : s * (d + 1) ≤ 1 * (d + 1) := by
      have : (s - 1) * (d + 1) ≤ 0 := Int.mul_nonpos_of_nonneg_of_nonpos (by omega) (by omega)
      have e : (s - 1) * (d + 1) = s * (d + 1) - 1 * (d + 1) := Int.sub_mul _ _ _
      omega
    rw [Int.mul_add] at h7
    omega

theorem isCell_iff {a b : Int} : isCell a b = true ↔ (-1048576 ≤ a ∧ a ≤ 1048576) ∧ (-1048576 ≤ b ∧ b ≤ 1048576) := by
  unfold isCell mag
  simp only [Bool.and_eq_true, decide_eq_true_eq]
  split <;> split <;> omega

def sideOk (s : Int) : Bool := decide (1 ≤ s) && decide (s ≤ 1099511627776)
/-- the cells of a row, and of rows, told by their numbers -/
def rowC (x y : Int) (n : Nat) : List (Int × Int) := (List.range n).map fun (i : Nat) => (x + (i : Int), y)
def rowsC (x y : Int) (wide tall : Nat) : List (Int × Int) := (List.range tall).flatMap fun (j : Nat) => rowC x (y + (j : Int)) wide
theorem rowC_length (x y : Int) (n : Nat) : (rowC x y n).length = n := by simp [rowC]
theorem rowC_succ (x y : Int) (n : Nat) : rowC x y (n + 1) = rowC x y n ++ [(x + (n : Int), y)] := by simp [rowC, List.range_succ]
theorem rowsC_succ (x y : Int) (n t : Nat) : rowsC x y n (t + 1) = rowsC x y n t ++ rowC x (y + (t : Int)) n := by simp [rowsC, List.range_succ]
theorem rowsC_length (x y : Int) (n : Nat) : ∀ t, (rowsC x y n t).length = t * n
  | 0 => by simp [rowsC]
  | t + 1 => by rw [rowsC_succ, List.length_append, rowsC_length x y n t, rowC_length, Nat.add_mul, Nat.one_mul]
structure Span where
  lx : Int
  ly : Int
  hx : Int
  hy : Int
def spanOf (s : Int) (b : Bx) : Span := ⟨(b.x - b.r) / s, (b.y - b.r) / s, (b.x + b.r - 1) / s, (b.y + b.r - 1) / s⟩
def Span.ok (p : Span) : Bool := isCell p.lx p.ly && isCell p.hx p.hy
def Span.wide (p : Span) : Int := p.hx - p.lx + 1
def Span.tall (p : Span) : Int := p.hy - p.ly + 1
def cellsE (s : Int) (b : Bx) : Int :=
  if sideOk s = true then if b.right = true then if (spanOf s b).ok = true then if (spanOf s b).wide * (spanOf s b).tall > 1024 then 2 else 0 else 40 else 60 else 1
def cellsL' (s : Int) (b : Bx) : List (Int × Int) := if cellsE s b = 0 then rowsC (spanOf s b).lx (spanOf s b).ly (spanOf s b).wide.toNat (spanOf s b).tall.toNat else []
def cv (p : Int × Int) : Value := .complex .f64 (F p.1) (F p.2)

theorem span_le {s : Int} {b : Bx} (hs : 1 ≤ s) (hb : b.right = true) : (spanOf s b).lx ≤ (spanOf s b).hx ∧ (spanOf s b).ly ≤ (spanOf s b).hy := by
  have h := right_iff.1 hb
  unfold spanOf
  exact ⟨Int.ediv_le_ediv (by omega) (by omega), Int.ediv_le_ediv (by omega) (by omega)⟩

theorem F_add {a b : Int} {K : Nat → Prop} (ha : a.natAbs < 2 ^ 52) (hb : b.natAbs < 2 ^ 52) (hK : K (F (a + b))) : so ((FloatKind.format .f64).add (F a) (F b)) K :=
  so_i (add_F (by omega) (by omega) (by omega)) hK
theorem F_sub {a b : Int} {K : Nat → Prop} (ha : a.natAbs < 2 ^ 52) (hb : b.natAbs < 2 ^ 52) (hK : K (F (a - b))) : so ((FloatKind.format .f64).sub (F a) (F b)) K :=
  so_i (sub_F (by omega) (by omega) (by omega)) hK
theorem f2i_F {n : Int} (h : n.natAbs < 2 ^ 53) {K : Int → Prop} (hK : K n) : f2i .f64 (F n) .i64 K := by
  have e1 : IntKind.min .i64 = -9223372036854775808 := by decide
  have e2 : IntKind.max .i64 = 9223372036854775807 := by decide
  have e3 : (2 : Nat) ^ 53 = 9007199254740992 := by decide
  exact ⟨n, toInt_F h, by omega, by omega, hK⟩
theorem F_one : F 1 = 4607182418800017408 := by decide

end Go.Proofs.YtfnepdppkmjboaaDoor

/- Mp: maps of one's own, as lists of keys and values that are known: looked up, written, entered, deleted. No condition. -/
namespace Go.Sx
open Go Go.RowKit

set_option linter.unusedSectionVars false
theorem g_obj {P : Program} {w : World} {r : Nat} {es : Array MapEntry} {clock : Nat} (hb : w.heap[r]? = some (.map es clock)) : (getObj r).run P w = .ok (.map es clock) w := by
  simp [getObj, Sem.run, hb]
theorem s_obj {P : Program} {w : World} {r : Nat} {es : Array MapEntry} {clock : Nat} (o : Obj) (hb : w.heap[r]? = some (.map es clock)) : (setObj r o).run P w = .ok () { w with heap := w.heap.setIfInBounds r o } := by
  simp [setObj, Sem.run, hb]

section
variable {α β : Type} [DecidableEq α]

def afind (a : α) : List (α × β) → Nat → Option (Nat × β)
  | [], _ => none
  | x :: r, i => if x.1 = a then some (i, x.2) else afind a r (i + 1)
def aget (A : List (α × β)) (a : α) : Option β := (afind a A 0).map (·.2)
def aset : List (α × β) → α → β → List (α × β)
  | [], a, b => [(a, b)]
  | x :: r, a, b => if x.1 = a then (x.1, b) :: r else x :: aset r a b
def adel : List (α × β) → α → List (α × β)
  | [], _ => []
  | x :: r, a => if x.1 = a then r else x :: adel r a

def ents (enc : α → Value) (val : β → Value) : List (α × β) → List Nat → List MapEntry
  | [], _ => []
  | _, [] => []
  | x :: A, b :: bs => { key := enc x.1, val := val x.2, born := b } :: ents enc val A bs

theorem ents_length (enc : α → Value) (val : β → Value) : ∀ {A : List (α × β)} {bs : List Nat}, A.length = bs.length → (ents enc val A bs).length = A.length
  | [], _, _ => by simp [ents]
  | x :: A, [], h => by simp at h
  | x :: A, b :: bs, h => by simp [ents, ents_length enc val (A := A) (bs := bs) (by simpa using h)]

theorem afind_shift (a : α) : ∀ (A : List (α × β)) (i : Nat), afind a A i = (afind a A 0).map (fun p => (p.1 + i, p.2))
  | [], i => rfl
  | x :: A, i => by
    unfold afind
    split
    · simp
    · rw [afind_shift a A (i + 1), afind_shift a A (0 + 1)]
      cases afind a A 0 with
      | none => rfl
      | some p => simp; omega

theorem afind_none {a : α} {A : List (α × β)} : afind a A 0 = none ↔ ∀ x ∈ A, x.1 ≠ a := by
  induction A with
  | nil => simp [afind]
  | cons x A ih =>
    unfold afind
    split
    · rename_i h
      simp [h]
    · rename_i h
      rw [afind_shift]
      simp only [Option.map_eq_none_iff, ih, List.mem_cons, forall_eq_or_imp]
      simp [h]

theorem afind_some {a : α} {b : β} : ∀ {A : List (α × β)} {i : Nat}, afind a A 0 = some (i, b) → A[i]? = some (a, b)
  | [], i, h => by simp [afind] at h
  | x :: A, i, h => by
    unfold afind at h
    split at h
    · rename_i hx
      simp only [Option.some.injEq, Prod.mk.injEq] at h
      obtain ⟨rfl, rfl⟩ := h
      simp [← hx]
    · rw [afind_shift] at h
      simp only [Option.map_eq_some_iff] at h
      obtain ⟨p, hp, he⟩ := h
      simp only [Prod.mk.injEq] at he
      obtain ⟨h1, h2⟩ := he
      obtain ⟨j, c⟩ := p
      simp only at h1 h2
      subst h2
      have := afind_some hp
      have e : i = j + 1 := by omega
      subst e
      simpa using this

theorem aset_eq {a : α} {b : β} {A : List (α × β)} : aset A a b = match afind a A 0 with
    | some (i, _) => A.set i (a, b)
    | none => A ++ [(a, b)] := by
  induction A with
  | nil => rfl
  | cons x A ih =>
    unfold aset afind
    split
    · rename_i h
      simp [h]
    · rename_i h
      rw [afind_shift, ih]
      cases hf : afind a A 0 with
      | none => simp
      | some p => simp

theorem adel_eq {a : α} {A : List (α × β)} : adel A a = match afind a A 0 with
    | some (i, _) => A.eraseIdx i
    | none => A := by
  induction A with
  | nil => rfl
  | cons x A ih =>
    unfold adel afind
    split
    · simp
    · rename_i h
      rw [afind_shift, ih]
      cases hf : afind a A 0 with
      | none => simp
      | some p => simp

theorem ents_set (enc : α → Value) (val : β → Value) {a : α} {b : β} : ∀ {A : List (α × β)} {bs : List Nat} {i : Nat} {c : β}, A.length = bs.length → A[i]? = some (a, c) →
    ∃ e, (ents enc val A bs)[i]? = some e ∧ e.key = enc a ∧ e.val = val c ∧ bs[i]? = some e.born ∧ (ents enc val A bs).set i { e with val := val b } = ents enc val (A.set i (a, b)) bs ∧
      (ents enc val A bs).eraseIdx i = ents enc val (A.eraseIdx i) (bs.eraseIdx i)
  | [], _, i, c, _, h => by simp at h
  | x :: A, [], i, c, h, _ => by simp at h
  | x :: A, s :: bs, 0, c, h, hi => by
    simp only [List.getElem?_cons_zero, Option.some.injEq] at hi
    subst hi
    exact ⟨_, rfl, rfl, rfl, rfl, rfl, rfl⟩
  | x :: A, s :: bs, i + 1, c, h, hi => by
    obtain ⟨e, h1, h2, h3, h4, h5, h6⟩ := ents_set enc val (b := b) (A := A) (bs := bs) (i := i) (by simpa using h) (by simpa using hi)
    refine ⟨e, by simpa [ents] using h1, h2, h3, by simpa using h4, ?_, ?_⟩
    · simp only [ents, List.set_cons_succ, h5]
    · simp only [ents, List.eraseIdx_cons_succ, h6]

theorem ents_push (enc : α → Value) (val : β → Value) {x : α × β} {s : Nat} : ∀ {A : List (α × β)} {bs : List Nat}, A.length = bs.length →
    ents enc val A bs ++ [{ key := enc x.1, val := val x.2, born := s }] = ents enc val (A ++ [x]) (bs ++ [s])
  | [], [], _ => rfl
  | [], _ :: _, h => by simp at h
  | _ :: _, [], h => by simp at h
  | y :: A, b :: bs, h => by
    have := ents_push enc val (x := x) (s := s) (A := A) (bs := bs) (by simpa using h)
    simp only [ents, List.cons_append, this]

/-- what a key's type must give -/
structure KeyT (P : Program) (t : TypeId) (enc : α → Value) (ok : α → Prop) : Prop where
  find : ∀ {β : Type} (val : β → Value) (a : α) (A : List (α × β)) (bs : List Nat) (w : World), ok a → (∀ x ∈ A, ok x.1) → A.length = bs.length →
    (Instr.findKey t (enc a) (ents enc val A bs)).run P w = .ok ((afind a A 0).map fun p => (p.1, val p.2)) w
  check : ∀ b a w, (Instr.checkKey b 10000 t (enc a)).run P w = .ok () w
  bits : ∀ a, Instr.sameBits 10000 (enc a) (enc a) = true

/-- a map -/
structure Mp (w : World) (m : Nat) (enc : α → Value) (val : β → Value) (A : List (α × β)) (bs : List Nat) (clk : Nat) : Prop where
  blk : w.heap[m]? = some (.map (ents enc val A bs).toArray clk)
  len : A.length = bs.length
  nd : bs.Nodup
  lt : ∀ b ∈ bs, b < clk

variable {P : Program} {t kt et : TypeId} {enc : α → Value} {ok : α → Prop} {val : β → Value} {w : World} {m : Nat} {A : List (α × β)} {bs : List Nat} {clk : Nat}

theorem Mp.ext {M : Nat → Prop} {w' : World} (hx : Ext M w w') (h : Mp w m enc val A bs clk) (hm : ¬ M m) : Mp w' m enc val A bs clk := ⟨hx.blk h.blk hm, h.len, h.nd, h.lt⟩

theorem Mp.lookup_ok (K : KeyT P kt enc ok) (ht : P.underlying t = some (.map kt et)) {z : Value} (hz : ∀ w, (zeroValue et).run P w = .ok z w) (h : Mp w m enc val A bs clk) (a : α) (ho : ok a ∧ ∀ x ∈ A, ok x.1) :
    (Instr.lookup t (.map (some m)) (enc a) true).run P w = .ok (.tuple #[((aget A a).map val).getD z, .bool (aget A a).isSome]) w := by
  unfold Instr.lookup
  simp only [Sem.run_bind, und_run ht, Result.andThen_ok, g_obj h.blk, Sem.run_pure, K.check, List.toList_toArray, K.find val a A bs w ho.1 ho.2 h.len, aget]
  cases hf : afind a A 0 with
  | none => simp [hz]
  | some p => simp

theorem Mp.lookup (K : KeyT P kt enc ok) (ht : P.underlying t = some (.map kt et)) {z : Value} (hz : ∀ w, (zeroValue et).run P w = .ok z w) (h : Mp w m enc val A bs clk) (a : α) (ho : ok a ∧ ∀ x ∈ A, ok x.1) :
    (Instr.lookup t (.map (some m)) (enc a) false).run P w = .ok (((aget A a).map val).getD z) w := by
  unfold Instr.lookup
  simp only [Sem.run_bind, und_run ht, Result.andThen_ok, g_obj h.blk, Sem.run_pure, K.check, List.toList_toArray, K.find val a A bs w ho.1 ho.2 h.len, aget]
  cases hf : afind a A 0 with
  | none => simp [hz]
  | some p => simp

def setObjW (w : World) (m : Nat) (o : Obj) : World := { w with heap := w.heap.setIfInBounds m o }
theorem setObjW_ext (w : World) (m : Nat) (o : Obj) : Ext (onl m) w (setObjW w m o) ∧ (setObjW w m o).heap.size = w.heap.size :=
  ⟨⟨rfl, rfl, rfl, by simp [setObjW], fun k _ hk => by simp only [setObjW]; rw [Array.getElem?_setIfInBounds_ne (fun e => hk e.symm)]⟩, by simp [setObjW]⟩
theorem setObjW_blk {w : World} {m : Nat} {o o' : Obj} (h : w.heap[m]? = some o') : (setObjW w m o).heap[m]? = some o := by
  have := blk_lt h
  simp [setObjW, this]

theorem keyStays (K : KeyT P kt enc ok) (a : α) (w : World) : (Instr.keyThatStays (enc a) (enc a)).run P w = .ok (enc a) w := by
  simp [Instr.keyThatStays, K.bits]

theorem modify_at {es : List MapEntry} {i : Nat} {e : MapEntry} (h : es[i]? = some e) (f : MapEntry → MapEntry) : (es.toArray.modify i f) = (es.set i (f e)).toArray := by
  apply Array.ext_getElem?
  intro j
  have hlt := (List.getElem?_eq_some_iff.1 h).1
  by_cases hj : i = j
  · subst hj
    have he : es[i] = e := (List.getElem?_eq_some_iff.1 h).2
    simp [hlt, he]
  · simp [hj]

theorem Mp.update (K : KeyT P kt enc ok) (ht : P.underlying t = some (.map kt et)) (h : Mp w m enc val A bs clk) (a : α) (ho : ok a ∧ ∀ x ∈ A, ok x.1) (b : β) {Q : World → Prop}
    (hQ : ∀ w' bs' clk', Mp w' m enc val (aset A a b) bs' clk' → Ext (onl m) w w' → w'.heap.size = w.heap.size → Q w') : ru P (Instr.mapUpdate t (.map (some m)) (enc a) (val b)) w Q := by
  have hr : ∃ bs' clk', (Instr.mapUpdate t (.map (some m)) (enc a) (val b)).run P w = .ok () (setObjW w m (.map (ents enc val (aset A a b) bs').toArray clk')) ∧ (aset A a b).length = bs'.length ∧ bs'.Nodup ∧ ∀ x ∈ bs', x < clk' := by
    unfold Instr.mapUpdate
    simp only [Sem.run_bind, und_run ht, Result.andThen_ok, g_obj h.blk, K.check, List.toList_toArray, K.find val a A bs w ho.1 ho.2 h.len]
    rw [aset_eq]
    cases hf : afind a A 0 with
    | none =>
      refine ⟨bs ++ [clk], clk + 1, ?_, by simp [h.len], ?_, ?_⟩
      · simp only [Option.map_none]
        rw [s_obj _ h.blk]
        have := ents_push enc val (x := (a, b)) (s := clk) h.len
        simp only [← this, List.push_toArray]
        rfl
      · rw [List.nodup_append]
        refine ⟨h.nd, by simp, ?_⟩
        intro x hx y hy
        simp only [List.mem_singleton] at hy
        have := h.lt x hx
        omega
      · intro x hx
        simp only [List.mem_append, List.mem_singleton] at hx
        rcases hx with hx | rfl
        · have := h.lt x hx; omega
        · omega
    | some p =>
      obtain ⟨i, c⟩ := p
      obtain ⟨e, h1, h2, h3, h4, h5, _⟩ := ents_set enc val (b := b) h.len (afind_some hf)
      refine ⟨bs, clk, ?_, by simp [h.len], h.nd, h.lt⟩
      simp only [Option.map_some, List.getElem?_toArray, h1, Option.getD_some, h2, Sem.run_bind, keyStays K, Result.andThen_ok]
      rw [s_obj _ h.blk, modify_at h1]
      have e2 : ({ e with key := enc a, val := val b } : MapEntry) = { e with val := val b } := by rw [← h2]
      simp only [e2, h5]
      rfl
  obtain ⟨bs', clk', hr, hl, hn, hlt⟩ := hr
  exact ru_mk hr (hQ _ bs' clk' ⟨setObjW_blk h.blk, hl, hn, hlt⟩ (setObjW_ext _ _ _).1 (setObjW_ext _ _ _).2)

/-- a map, an entry of which was taken hold of -/
structure MpE (w : World) (m : Nat) (enc : α → Value) (val : β → Value) (A : List (α × β)) (bs : List Nat) (clk : Nat) (i st : Nat) : Prop where
  mp : Mp w m enc val A bs clk
  st : bs[i]? = some st

theorem Mp.entry (K : KeyT P kt enc ok) (ht : P.underlying t = some (.map kt et)) {z : β} (hz : ∀ w, (zeroValue et).run P w = .ok (val z) w) (h : Mp w m enc val A bs clk) (a : α) (ho : ok a ∧ ∀ x ∈ A, ok x.1) {Q : Value → World → Prop}
    (hQ : ∀ w' bs' clk' i st, MpE w' m enc val (aset A a ((aget A a).getD z)) bs' clk' i st → (aset A a ((aget A a).getD z))[i]? = some (a, (aget A a).getD z) → (∀ b, (aset A a ((aget A a).getD z)).set i (a, b) = aset A a b) →
      Ext (onl m) w w' → w'.heap.size = w.heap.size → Q (.tuple #[val ((aget A a).getD z), .int .i64 (st : Int)]) w') :
    rn P (Instr.mapEntry t (.map (some m)) (enc a)) w Q := by
  have hr : ∃ (bs' : List Nat) (clk' i st : Nat), (Instr.mapEntry t (.map (some m)) (enc a)).run P w = .ok (.tuple #[val ((aget A a).getD z), .int .i64 (st : Int)]) (setObjW w m (.map (ents enc val (aset A a ((aget A a).getD z)) bs').toArray clk')) ∧
      (aset A a ((aget A a).getD z)).length = bs'.length ∧ bs'.Nodup ∧ (∀ x ∈ bs', x < clk') ∧ bs'[i]? = some st ∧ (aset A a ((aget A a).getD z))[i]? = some (a, (aget A a).getD z) ∧ (∀ b, (aset A a ((aget A a).getD z)).set i (a, b) = aset A a b) := by
    unfold Instr.mapEntry
    simp only [Sem.run_bind, und_run ht, Result.andThen_ok, g_obj h.blk, K.check, List.toList_toArray, K.find val a A bs w ho.1 ho.2 h.len]
    simp only [aset_eq, aget]
    cases hf : afind a A 0 with
    | none =>
      refine ⟨bs ++ [clk], clk + 1, bs.length, clk, ?_, by simp [h.len], ?_, ?_, by simp, by simp [← h.len], fun b => by simp [← h.len]⟩
      · simp only [Option.map_none, Option.getD_none, Sem.run_bind, hz, Result.andThen_ok]
        rw [s_obj _ h.blk]
        have := ents_push enc val (x := (a, z)) (s := clk) h.len
        simp only [← this, List.push_toArray]
        rfl
      · rw [List.nodup_append]
        refine ⟨h.nd, by simp, ?_⟩
        intro x hx y hy
        simp only [List.mem_singleton] at hy
        have := h.lt x hx
        omega
      · intro x hx
        simp only [List.mem_append, List.mem_singleton] at hx
        rcases hx with hx | rfl
        · have := h.lt x hx; omega
        · omega
    | some p =>
      obtain ⟨i, c⟩ := p
      obtain ⟨e, h1, h2, h3, h4, h5, _⟩ := ents_set enc val (b := c) h.len (afind_some hf)
      have hlt := (List.getElem?_eq_some_iff.1 (afind_some hf)).1
      refine ⟨bs, clk, i, e.born, ?_, by simp [h.len], h.nd, h.lt, h4, by simp [hlt], fun b => by simp⟩
      simp only [Option.map_some, List.getElem?_toArray, h1, Option.getD_some, h2, Sem.run_bind, keyStays K, Result.andThen_ok]
      rw [s_obj _ h.blk, modify_at h1]
      have e2 : ({ e with key := enc a } : MapEntry) = { e with val := val c } := by rw [← h2, ← h3]
      simp only [e2, h5, Result.andThen_ok]
      rfl
  obtain ⟨bs', clk', i, st, hr, hl, hn, hlt, hs, h1, h2⟩ := hr
  exact rn_mk hr (hQ _ bs' clk' i st ⟨⟨setObjW_blk h.blk, hl, hn, hlt⟩, hs⟩ h1 h2 (setObjW_ext _ _ _).1 (setObjW_ext _ _ _).2)

theorem find_born {enc : α → Value} {val : β → Value} {st : Nat} : ∀ {A : List (α × β)} {bs : List Nat} {i : Nat}, A.length = bs.length → bs.Nodup → bs[i]? = some st →
    (ents enc val A bs).findIdx? (fun e => (e.born : Int) == (st : Int)) = some i
  | [], [], i, _, _, h => by simp at h
  | [], _ :: _, i, h, _, _ => by simp at h
  | _ :: _, [], i, h, _, _ => by simp at h
  | x :: A, b :: bs, 0, h, hn, hi => by
    simp only [List.getElem?_cons_zero, Option.some.injEq] at hi
    subst hi
    simp [ents, List.findIdx?_cons]
  | x :: A, b :: bs, i + 1, h, hn, hi => by
    have hne : b ≠ st := by
      rintro rfl
      have := List.nodup_cons.1 hn
      exact this.1 (List.mem_of_getElem? (by simpa using hi))
    have ih := find_born (enc := enc) (val := val) (A := A) (bs := bs) (i := i) (by simpa using h) (List.nodup_cons.1 hn).2 (by simpa using hi)
    have hb : ((b : Int) == (st : Int)) = false := by simp; omega
    simp only [ents, List.findIdx?_cons, hb, ih]
    simp

theorem MpE.store {A : List (α × β)} {i st : Nat} (h : MpE w m enc val A bs clk i st) {a : α} {c : β} (hi : A[i]? = some (a, c)) (b : β) {Q : World → Prop}
    (hQ : ∀ w', Mp w' m enc val (A.set i (a, b)) bs clk → Ext (onl m) w w' → w'.heap.size = w.heap.size → Q w') : ru P (Instr.entryStore t (.map (some m)) (.int .i64 (st : Int)) (val b)) w Q := by
  obtain ⟨e, h1, h2, h3, h4, h5, _⟩ := ents_set enc val (b := b) h.mp.len hi
  have hr : (Instr.entryStore t (.map (some m)) (.int .i64 (st : Int)) (val b)).run P w = .ok () (setObjW w m (.map (ents enc val (A.set i (a, b)) bs).toArray clk)) := by
    unfold Instr.entryStore
    have hf := find_born (enc := enc) (val := val) h.mp.len h.mp.nd h.st
    have hf' : (ents enc val A bs).toArray.findIdx? (fun e => (e.born : Int) == (st : Int)) = some i := by rw [List.findIdx?_toArray]; exact hf
    simp only [Sem.run_bind, g_obj h.mp.blk, Result.andThen_ok, asInt, asIntOf, Sem.run_pure, hf']
    rw [s_obj _ h.mp.blk, modify_at h1, h5]
    rfl
  exact ru_mk hr (hQ _ ⟨setObjW_blk h.mp.blk, by simp [h.mp.len], h.mp.nd, h.mp.lt⟩ (setObjW_ext _ _ _).1 (setObjW_ext _ _ _).2)

theorem Mp.delete (K : KeyT P kt enc ok) (ht : P.underlying t = some (.map kt et)) (h : Mp w m enc val A bs clk) (a : α) (ho : ok a ∧ ∀ x ∈ A, ok x.1) {ty k' : TypeId} {Q : Value → World → Prop}
    (hQ : ∀ w' bs' clk', Mp w' m enc val (adel A a) bs' clk' → Ext (onl m) w w' → w'.heap.size = w.heap.size → Q (.tuple #[]) w') : rn P (Builtin.delete_ #[t, k'] ty #[.map (some m), enc a]) w Q := by
  have hr : ∃ bs' clk', (Builtin.delete_ #[t, k'] ty #[.map (some m), enc a]).run P w = .ok (.tuple #[]) (setObjW w m (.map (ents enc val (adel A a) bs').toArray clk')) ∧ (adel A a).length = bs'.length ∧ bs'.Nodup ∧ ∀ x ∈ bs', x < clk' := by
    unfold Builtin.delete_
    simp only [List.getElem?_toArray, List.getElem?_cons_zero, List.getElem?_cons_succ, Sem.run_bind, und_run ht, Result.andThen_ok, g_obj h.blk, K.check, List.toList_toArray, K.find val a A bs w ho.1 ho.2 h.len]
    rw [adel_eq]
    cases hf : afind a A 0 with
    | none =>
      refine ⟨bs, clk, ?_, h.len, h.nd, h.lt⟩
      simp only [Option.map_none, Sem.run_bind]
      rw [s_obj _ h.blk]
      rfl
    | some p =>
      obtain ⟨i, c⟩ := p
      obtain ⟨e, h1, h2, h3, h4, h5, h6⟩ := ents_set enc val (b := c) h.len (afind_some hf)
      refine ⟨bs.eraseIdx i, clk, ?_, ?_, ?_, ?_⟩
      · simp only [Option.map_some, Sem.run_bind]
        rw [s_obj _ h.blk, ← h6]
        have : (ents enc val A bs).toArray.eraseIdxIfInBounds i = ((ents enc val A bs).eraseIdx i).toArray := by simp
        rw [this]
        rfl
      · have hlt := (List.getElem?_eq_some_iff.1 (afind_some hf)).1
        have := h.len
        rw [List.length_eraseIdx_of_lt hlt, List.length_eraseIdx_of_lt (by omega)]
        omega
      · exact h.nd.sublist (List.eraseIdx_sublist _ _)
      · exact fun x hx => h.lt x ((List.eraseIdx_sublist _ _).subset hx)
  obtain ⟨bs', clk', hr, hl, hn, hlt⟩ := hr
  exact rn_mk hr (hQ _ bs' clk' ⟨setObjW_blk h.blk, hl, hn, hlt⟩ (setObjW_ext _ _ _).1 (setObjW_ext _ _ _).2)

theorem Mp.len_run {ty : TypeId} (ht : P.underlying t = some (.map kt et)) (h : Mp w m enc val A bs clk) : (Builtin.len_ #[t] ty #[.map (some m)]).run P w = .ok (.int .i64 (A.length : Int)) w := by
  unfold Builtin.len_
  simp only [List.getElem?_toArray, List.getElem?_cons_zero, Sem.run_bind, und_run ht, Result.andThen_ok, g_obj h.blk, Sem.run_pure, goInt, List.size_toArray, ents_length enc val h.len]

theorem make_map (ht : P.underlying t = some (.map kt et)) {Q : Value → World → Prop}
    (hQ : ∀ w', Mp w' w.heap.size enc val ([] : List (α × β)) [] 0 → Ext no w w' → w'.heap.size = w.heap.size + 1 → Q (.map (some w.heap.size)) w') : rn P (Instr.makeMap t none) w Q := by
  have hr : (Instr.makeMap t none).run P w = .ok (.map (some w.heap.size)) (w.alloc (.map #[] 0)) := by
    simp [Instr.makeMap, newObj, Sem.run]
  exact rn_mk hr (hQ _ ⟨new_blk w _, rfl, List.nodup_nil, by simp⟩ (Ext.alloc w _) (new_size w _))
end

/-! ### keys that are whole numbers -/
theorem keyT_int {P : Program} {t : TypeId} {k : IntKind} (hu : P.underlying t = some (.int k)) : KeyT P t (fun x : Int => Value.int k x) (fun _ => True) := by
  refine ⟨?_, ?_, ?_⟩
  · intro β val a A bs w _ _ hl
    have key : ∀ (A : List (Int × β)) (bs : List Nat) (i : Nat), A.length = bs.length → Instr.findNow (.int k) (.int k a) (ents (fun x : Int => Value.int k x) val A bs) i = some ((afind a A i).map fun p => (p.1, val p.2)) := by
      intro A
      induction A with
      | nil => intro bs i _; rfl
      | cons x A ih =>
        intro bs i hl
        cases bs with
        | nil => simp at hl
        | cons b bs =>
          have := ih bs (i + 1) (by simpa using hl)
          unfold ents afind Instr.findNow
          simp only [Instr.sameNow, if_true]
          by_cases h : x.1 = a
          · have h' : (a == x.1) = true := by simp [h]
            rw [h', if_pos h]
            rfl
          · have h' : (a == x.1) = false := by simp; omega
            rw [h', if_neg h]
            exact this
    unfold Instr.findKey
    simp only [Sem.run_bind, und_run hu, Result.andThen_ok, key A bs 0 hl, Sem.run_pure]
  · intro b a w
    have key : ∀ d, (Instr.checkKey b (d + 1) t (.int k a)).run P w = .ok () w := by
      intro d
      simp [Instr.checkKey, und_run hu]
    exact key 9999
  · intro a
    have key : ∀ d, Instr.sameBits d (.int k a) (.int k a) = true := by
      intro d
      simp [Instr.sameBits]
    exact key _
end Go.Sx

/- As: lists of keys and values, plainly: what is there behind a change. No condition. -/
namespace Go.Sx
set_option linter.unusedSectionVars false

section
variable {α β γ : Type} [DecidableEq α]

theorem aget_cons {x : α × β} {A : List (α × β)} {a : α} : aget (x :: A) a = if x.1 = a then some x.2 else aget A a := by
  unfold aget
  rw [afind]
  split
  · rfl
  · rw [afind_shift]
    cases afind a A 0 <;> rfl

theorem aget_nil {a : α} : aget ([] : List (α × β)) a = none := rfl

theorem aget_mem {A : List (α × β)} {a : α} {b : β} (h : aget A a = some b) : (a, b) ∈ A := by
  induction A with
  | nil => cases h
  | cons x A ih =>
    rw [aget_cons] at h
    split at h
    · rename_i hx
      simp only [Option.some.injEq] at h
      subst h
      subst hx
      simp
    · exact List.mem_cons_of_mem _ (ih h)

theorem aget_none {A : List (α × β)} {a : α} : aget A a = none ↔ ∀ x ∈ A, x.1 ≠ a := by
  unfold aget
  rw [Option.map_eq_none_iff, afind_none]

theorem aget_of_mem {A : List (α × β)} (hn : (A.map (·.1)).Nodup) {a : α} {b : β} (h : (a, b) ∈ A) : aget A a = some b := by
  induction A with
  | nil => cases h
  | cons x A ih =>
    rw [aget_cons]
    simp only [List.map_cons, List.nodup_cons] at hn
    rcases List.mem_cons.1 h with rfl | h
    · simp
    · rw [if_neg, ih hn.2 h]
      intro e
      exact hn.1 (e ▸ List.mem_map.2 ⟨_, h, rfl⟩)

theorem aget_aset {A : List (α × β)} {a : α} {b : β} {c : α} : aget (aset A a b) c = if c = a then some b else aget A c := by
  induction A with
  | nil =>
    simp only [aset, aget_cons, aget_nil]
    by_cases h : a = c
    · simp [h]
    · simp [h, Ne.symm h]
  | cons x A ih =>
    unfold aset
    split
    · rename_i hx
      rw [aget_cons, aget_cons]
      by_cases h : c = a
      · simp [hx, h]
      · have : ¬ x.1 = c := by rw [hx]; exact fun e => h e.symm
        simp [this, h]
    · rename_i hx
      rw [aget_cons, aget_cons, ih]
      by_cases h : x.1 = c
      · have : ¬ c = a := by rw [← h]; exact hx
        simp [h, this]
      · simp [h]

theorem mem_aset {A : List (α × β)} (hn : (A.map (·.1)).Nodup) {a : α} {b : β} {x : α × β} (h : x ∈ aset A a b) : x = (a, b) ∨ (x ∈ A ∧ x.1 ≠ a) := by
  induction A with
  | nil =>
    simp only [aset, List.mem_singleton] at h
    exact .inl h
  | cons y A ih =>
    simp only [List.map_cons, List.nodup_cons] at hn
    unfold aset at h
    split at h
    · rename_i hy
      rcases List.mem_cons.1 h with rfl | h
      · exact .inl (by rw [hy])
      · refine .inr ⟨List.mem_cons_of_mem _ h, fun e => hn.1 ?_⟩
        rw [hy, ← e]
        exact List.mem_map.2 ⟨x, h, rfl⟩
    · rename_i hy
      rcases List.mem_cons.1 h with rfl | h
      · exact .inr ⟨by simp, hy⟩
      · rcases ih hn.2 h with h | ⟨h1, h2⟩
        · exact .inl h
        · exact .inr ⟨List.mem_cons_of_mem _ h1, h2⟩

theorem aset_keys {A : List (α × β)} {a : α} {b : β} : (aset A a b).map (·.1) = if a ∈ A.map (·.1) then A.map (·.1) else A.map (·.1) ++ [a] := by
  induction A with
  | nil => simp [aset]
  | cons x A ih =>
    unfold aset
    split
    · rename_i h
      simp [h]
    · rename_i h
      rw [List.map_cons, ih]
      have h' : ¬ a = x.1 := fun e => h e.symm
      simp only [List.map_cons, List.mem_cons, h', false_or]
      split <;> simp

theorem nodup_aset {A : List (α × β)} (hn : (A.map (·.1)).Nodup) {a : α} {b : β} : ((aset A a b).map (·.1)).Nodup := by
  rw [aset_keys]
  split
  · exact hn
  · rename_i h
    rw [List.nodup_append]
    refine ⟨hn, by simp, ?_⟩
    intro x hx y hy
    simp only [List.mem_singleton] at hy
    subst hy
    exact fun e => h (e ▸ hx)

theorem pairwise_aset {A : List (α × β)} {R : α × β → α × β → Prop} (hR : A.Pairwise R) (hn : (A.map (·.1)).Nodup) {a : α} {b : β} (h : ∀ x ∈ A, x.1 ≠ a → R x (a, b) ∧ R (a, b) x) : (aset A a b).Pairwise R := by
  induction A with
  | nil => simp [aset]
  | cons y A ih =>
    simp only [List.map_cons, List.nodup_cons] at hn
    rw [List.pairwise_cons] at hR
    unfold aset
    split
    · rename_i hy
      rw [List.pairwise_cons]
      refine ⟨fun x hx => ?_, hR.2⟩
      have hxa : x.1 ≠ a := fun e => hn.1 (by rw [hy, ← e]; exact List.mem_map.2 ⟨x, hx, rfl⟩)
      have := (h x (by simp [hx]) hxa).2
      rw [hy]
      exact this
    · rename_i hy
      rw [List.pairwise_cons]
      refine ⟨fun x hx => ?_, ih hR.2 hn.2 fun x hx => h x (by simp [hx])⟩
      rcases mem_aset hn.2 hx with rfl | ⟨hx, _⟩
      · exact (h y (by simp) hy).1
      · exact hR.1 x hx

theorem map_aset {f : β → γ} {A : List (α × β)} {a : α} {b : β} : (aset A a b).map (fun x => (x.1, f x.2)) = aset (A.map (fun x => (x.1, f x.2))) a (f b) := by
  induction A with
  | nil => rfl
  | cons x A ih =>
    simp only [aset, List.map_cons]
    split
    · simp
    · simp [ih]

theorem map_aget {f : β → γ} {A : List (α × β)} {a : α} : aget (A.map (fun x => (x.1, f x.2))) a = (aget A a).map f := by
  induction A with
  | nil => rfl
  | cons x A ih =>
    simp only [List.map_cons, aget_cons]
    split
    · rfl
    · exact ih

theorem map_adel {f : β → γ} {A : List (α × β)} {a : α} : (adel A a).map (fun x => (x.1, f x.2)) = adel (A.map (fun x => (x.1, f x.2))) a := by
  induction A with
  | nil => rfl
  | cons x A ih =>
    simp only [adel, List.map_cons]
    split
    · rfl
    · simp [ih]

theorem adel_sub (A : List (α × β)) (a : α) : (adel A a).Sublist A := by
  induction A with
  | nil => exact List.Sublist.refl _
  | cons x A ih =>
    unfold adel
    split
    · exact List.sublist_cons_self _ _
    · exact ih.cons_cons _

theorem mem_adel {A : List (α × β)} (hn : (A.map (·.1)).Nodup) {a : α} {x : α × β} : x ∈ adel A a ↔ x ∈ A ∧ x.1 ≠ a := by
  induction A with
  | nil => simp [adel]
  | cons y A ih =>
    simp only [List.map_cons, List.nodup_cons] at hn
    unfold adel
    split
    · rename_i hy
      constructor
      · intro h
        refine ⟨List.mem_cons_of_mem _ h, fun e => hn.1 ?_⟩
        rw [hy, ← e]
        exact List.mem_map.2 ⟨x, h, rfl⟩
      · rintro ⟨h, hne⟩
        rcases List.mem_cons.1 h with rfl | h
        · exact absurd hy hne
        · exact h
    · rename_i hy
      rw [List.mem_cons, ih hn.2, List.mem_cons]
      constructor
      · rintro (rfl | ⟨h1, h2⟩)
        · exact ⟨.inl rfl, hy⟩
        · exact ⟨.inr h1, h2⟩
      · rintro ⟨rfl | h1, h2⟩
        · exact .inl rfl
        · exact .inr ⟨h1, h2⟩

theorem nodup_adel {A : List (α × β)} (hn : (A.map (·.1)).Nodup) {a : α} : ((adel A a).map (·.1)).Nodup := hn.sublist ((adel_sub A a).map _)

theorem aget_adel {A : List (α × β)} (hn : (A.map (·.1)).Nodup) {a c : α} : aget (adel A a) c = if c = a then none else aget A c := by
  induction A with
  | nil => simp [adel, aget_nil]
  | cons x A ih =>
    simp only [List.map_cons, List.nodup_cons] at hn
    unfold adel
    split
    · rename_i hx
      rw [aget_cons]
      by_cases h : c = a
      · rw [if_pos h]
        rw [aget_none]
        intro y hy e
        exact hn.1 (by rw [hx, ← h, ← e]; exact List.mem_map.2 ⟨y, hy, rfl⟩)
      · have : ¬ x.1 = c := by rw [hx]; exact fun e => h e.symm
        simp [this, h]
    · rename_i hx
      rw [aget_cons, aget_cons, ih hn.2]
      by_cases h : x.1 = c
      · have : ¬ c = a := by rw [← h]; exact hx
        simp [h, this]
      · simp [h]
end
end Go.Sx

/- Cz: clear(s[i:]) on a row of one's own. No condition. -/
namespace Go.Sx
open Go Go.RowKit

theorem Row.take {w : World} {base : Nat} {e : TypeId} {p : Option Addr} {c : Nat} {xs : List Value} (h : Row w base e p c xs) (i : Nat) : Row w base e p c (xs.take i) := by
  rcases h.cases with ⟨rfl, rfl, rfl⟩ | ⟨g, cur, rfl, hb, hg, h1, h2, h3, h4⟩
  · simpa using Row.nil w base e
  · refine ⟨by simp, .inr ⟨g, c, cur, rfl, hb, hg, ?_, h2, by simpa using h3, ?_⟩⟩
    · simp; omega
    · rw [Nat.mul_one, ← h4]
      simp [List.take_take]

theorem rn_clear {P : Program} {t ty e : TypeId} {z : Value} {b : Nat} (ht : SlT P t e z b) (h1 : one z = true)
    {w : World} {base : Nat} {p : Option Addr} {c : Nat} {xs : List Value} (h : Row w base e p c xs) {i : Nat} (hi : i ≤ xs.length) {K : Value → World → Prop}
    (hK : ∀ w', Row w' base e p c (xs.take i) → Ext (blocks p) w w' → w'.heap.size = w.heap.size → K (.tuple #[]) w') :
    rn P (Builtin.clear_ #[t] ty #[.slice (slp p c i 1) (xs.length - i) (c - i)]) w K := by
  obtain ⟨inf, hinf, hz, hs, _⟩ := ht.inf
  by_cases h0 : xs.length - i = 0
  · have hr : (Builtin.clear_ #[t] ty #[.slice (slp p c i 1) (xs.length - i) (c - i)]).run P w = .ok (.tuple #[]) w := by
      rw [h0]
      cases slp p c i 1 <;> simp [Builtin.clear_, run_underlying ht.und]
    refine rn_mk hr (hK w ?_ (Ext.refl _ _) rfl)
    exact h.take i
  · rcases h.cases with ⟨_, _, rfl⟩ | ⟨g, cur, rfl, hb, hg, hl, hcm, hcs, htk⟩
    · simp at h0
    · have hsl : slp (some (⟨g, 0, none⟩ : Addr)) c i 1 = some ⟨g, i, none⟩ := by
        unfold slp
        rw [if_neg (by omega)]
        simp [add_mk]
      rw [hsl]
      have hzc : (Builtin.zeroCells z.cells (xs.length - i)).toList = List.replicate (xs.length - i) z := by
        rw [ht.cells]
        simp [Builtin.zeroCells]
        apply List.ext_getElem
        · simp
        · intro i h1 h2
          simp [Nat.mod_one]
      have hst := run_storeCells_at P g i e (List.replicate (xs.length - i) z) 0 cur w hg (by simp; omega) (by intro v hv; rw [List.eq_of_mem_replicate hv]; exact one_of h1)
      simp only [Nat.add_zero] at hst
      obtain ⟨m, hm⟩ : ∃ m, xs.length - i = m + 1 := ⟨xs.length - i - 1, by omega⟩
      have hv : (zeroValue e).run P w = .ok z w := by simp [zeroValue, typeInfo, hinf, hz]
      have hr : (Builtin.clear_ #[t] ty #[.slice (some ⟨g, i, none⟩) (xs.length - i) (c - i)]).run P w =
          .ok (.tuple #[]) (w.setRow g (cur.toList.take i ++ List.replicate (xs.length - i) z ++ cur.toList.drop (i + (List.replicate (xs.length - i) z).length)).toArray) := by
        rw [hm] at hst hzc ⊢
        simp [Builtin.clear_, run_underlying ht.und, hv, hzc, hst]
      refine rn_mk hr (hK _ ⟨by simp, .inr ⟨g, c, _, rfl, hb, setRow_heap w g cur _ e _ hg, ?_, hcm, ?_, ?_⟩⟩ ⟨rfl, rfl, rfl, by simp [World.setRow], fun k _ hk => setRow_other w g k _ fun e => hk ⟨_, rfl, e.symm⟩⟩ (by simp [World.setRow]))
      · simp; omega
      · simp; omega
      · have e : xs.take i = cur.toList.take i := by
          conv => lhs; rw [← htk]
          rw [List.take_take, Nat.min_eq_left hi]
        have hl2 : (xs.take i).length * 1 = i := by rw [Nat.mul_one, List.length_take]; omega
        rw [hl2, e, List.append_assoc, List.take_append_of_le_length (by simp; omega), List.take_take, Nat.min_self]
end Go.Sx

/- GrD: slices.DeleteFunc at a grid's lists; the grid as a thing in memory, and what its functions do to it, as contracts over lists of numbers and boxes. Conditions: those of each theorem, on its arguments. -/
namespace Go.Proofs.YtfnepdppkmjboaaDoor
open Go Go.Sx Go.Fp
attribute [local irreducible] jn lv ld st nw asI asB asP asS asY asM asF asA asT lp rn ru rq cl dw dr bnd bn2 nz nn hd hr so eqW

/-! ### DeleteFunc -/
attribute [local irreducible] callOk

set_option maxRecDepth 100000 in
theorem sI : SlT Tryd.prog 23 3 (.int .i64 0) 8 := ⟨rfl, ⟨_, rfl, rfl, rfl, rfl⟩, rfl⟩

def less (ids : List Int) (id : Int) : List Int := ids.filter fun x => !(x == id)

theorem filter_all {ids : List Int} {id : Int} (h : ∀ j : Nat, j < ids.length → ids[j]? ≠ some id) : less ids id = ids := by
  unfold less
  rw [List.filter_eq_self]
  intro x hx
  obtain ⟨j, hj⟩ := List.getElem?_of_mem hx
  have hl := (List.getElem?_eq_some_iff.1 hj).1
  have := h j hl
  rw [hj] at this
  simp only [ne_eq, Option.some.injEq] at this
  simpa using this

end Go.Proofs.YtfnepdppkmjboaaDoor

/- GrE: the grid as a thing in memory, and what its functions do to it, as contracts over lists of numbers and boxes. Conditions: those of each theorem, on its arguments. -/
namespace Go.Proofs.YtfnepdppkmjboaaDoor
open Go Go.Sx Go.Fp
attribute [local irreducible] jn lv ld st nw asI asB asP asS asY asM asF asA asT lp rn ru rq cl dw dr bnd bn2 nz nn hd hr so eqW
attribute [local irreducible] callOk

/-! ### keys that are cells -/
def okc (p : Int × Int) : Prop := p.1.natAbs < 2 ^ 52 ∧ p.2.natAbs < 2 ^ 52

set_option maxRecDepth 100000 in
theorem und_i : Tryd.prog.underlying 3 = some (.int .i64) := rfl
theorem keyI : KeyT Tryd.prog 3 (fun x : Int => Value.int .i64 x) (fun _ => True) := keyT_int und_i
set_option maxRecDepth 100000 in
theorem zero_box (w : World) : (zeroValue 57).run Tryd.prog w = .ok (Bx.v ⟨0, 0, 0⟩) w := rfl

/-! ### the grid -/
abbrev CellV := Option Addr × Nat × List Int
def cval (v : CellV) : Value := .slice v.1 v.2.2.length v.2.1
def nilV : CellV := (none, 0, [])
set_option maxRecDepth 100000 in
theorem zero_ints (w : World) : (zeroValue 23).run Tryd.prog w = .ok (cval nilV) w := rfl
def ki (x : Int) : Value := .int .i64 x

/-- the numbers of a cell, plainly -/
def pl (C : List ((Int × Int) × CellV)) : List ((Int × Int) × List Int) := C.map fun x => (x.1, x.2.2.2)
theorem pl_get (C : List ((Int × Int) × CellV)) (c : Int × Int) : (aget (pl C) c).getD [] = ((aget C c).getD nilV).2.2 := by
  unfold pl
  rw [map_aget (f := fun v : CellV => v.2.2)]
  cases aget C c <;> rfl

def addTo (D : List ((Int × Int) × List Int)) (c : Int × Int) (id : Int) : List ((Int × Int) × List Int) := aset D c ((aget D c).getD [] ++ [id])
def putL (D : List ((Int × Int) × List Int)) (l : List (Int × Int)) (id : Int) : List ((Int × Int) × List Int) := l.foldl (fun D c => addTo D c id) D

theorem addTo_len {D : List ((Int × Int) × List Int)} {c : Int × Int} {id : Int} (d : Int × Int) : ((aget (addTo D c id) d).getD []).length ≤ ((aget D d).getD []).length + 1 := by
  unfold addTo
  rw [aget_aset]
  split
  · rename_i h
    subst h
    simp
  · omega

end Go.Proofs.YtfnepdppkmjboaaDoor

/- GrF: boxes are taken out of the grid; the grid's own calls New, Put, Move, Drop, as contracts over lists of numbers and boxes. Conditions: those of each theorem, on its arguments. -/
namespace Go.Proofs.YtfnepdppkmjboaaDoor
open Go Go.Sx Go.Fp
attribute [local irreducible] jn lv ld st nw asI asB asP asS asY asM asF asA asT lp rn ru rq cl dw dr bnd bn2 nz nn hd hr so eqW
attribute [local irreducible] callOk

theorem mem_rowC {x y a b : Int} {n : Nat} : (a, b) ∈ rowC x y n ↔ b = y ∧ x ≤ a ∧ a < x + n := by
  unfold rowC
  simp only [List.mem_map, List.mem_range, Prod.mk.injEq]
  constructor
  · rintro ⟨i, hi, rfl, rfl⟩
    omega
  · rintro ⟨rfl, h1, h2⟩
    exact ⟨(a - x).toNat, by omega, by omega, rfl⟩

theorem mem_rowsC {x y a b : Int} {n t : Nat} : (a, b) ∈ rowsC x y n t ↔ (x ≤ a ∧ a < x + n) ∧ (y ≤ b ∧ b < y + t) := by
  unfold rowsC
  simp only [List.mem_flatMap, List.mem_range, mem_rowC]
  constructor
  · rintro ⟨j, hj, rfl, h1, h2⟩
    omega
  · rintro ⟨h1, h2, h3⟩
    exact ⟨(b - y).toNat, by omega, by omega, h1⟩

theorem cellsE_zero {s : Int} {b : Bx} (h : cellsE s b = 0) : sideOk s = true ∧ b.right = true ∧ (spanOf s b).ok = true ∧ (spanOf s b).wide * (spanOf s b).tall ≤ 1024 := by
  unfold cellsE at h
  split at h
  · rename_i h1
    split at h
    · rename_i h2
      split at h
      · rename_i h3
        split at h
        · cases h
        · exact ⟨h1, h2, h3, by omega⟩
      · cases h
    · cases h
  · cases h

theorem mem_cells {s : Int} {b : Bx} {p : Int × Int} : p ∈ cellsL' s b ↔ cellsE s b = 0 ∧ ((spanOf s b).lx ≤ p.1 ∧ p.1 ≤ (spanOf s b).hx) ∧ ((spanOf s b).ly ≤ p.2 ∧ p.2 ≤ (spanOf s b).hy) := by
  obtain ⟨a, c⟩ := p
  unfold cellsL'
  split
  · rename_i h
    obtain ⟨h1, h2, h3, h4⟩ := cellsE_zero h
    have hs : 1 ≤ s ∧ s ≤ 1099511627776 := by simpa [sideOk] using h1
    have hle := span_le hs.1 h2
    rw [mem_rowsC]
    unfold Span.wide Span.tall
    simp only [h, true_and]
    omega
  · rename_i h
    simp [h]

theorem cells_okc {s : Int} {b : Bx} : ∀ x ∈ cellsL' s b, okc x := by
  intro x hx
  obtain ⟨h, h1, h2⟩ := mem_cells.1 hx
  obtain ⟨_, _, h3, _⟩ := cellsE_zero h
  unfold Span.ok at h3
  rw [Bool.and_eq_true, isCell_iff, isCell_iff] at h3
  unfold okc
  omega

theorem cells_len {s : Int} {b : Bx} : (cellsL' s b).length ≤ 1024 := by
  unfold cellsL'
  split
  · rename_i h
    obtain ⟨h1, h2, _, h4⟩ := cellsE_zero h
    have hs : 1 ≤ s ∧ s ≤ 1099511627776 := by simpa [sideOk] using h1
    have hle := span_le hs.1 h2
    rw [rowsC_length]
    have e1 : 0 ≤ (spanOf s b).tall := by unfold Span.tall; omega
    have e2 : 0 ≤ (spanOf s b).wide := by unfold Span.wide; omega
    have e3 : (((spanOf s b).tall.toNat * (spanOf s b).wide.toNat : Nat) : Int) = (spanOf s b).wide * (spanOf s b).tall := by
      rw [Int.natCast_mul, Int.toNat_of_nonneg e1, Int.toNat_of_nonneg e2, Int.mul_comm]
    omega
  · simp

def dropC (D : List ((Int × Int) × List Int)) (c : Int × Int) (id : Int) : List ((Int × Int) × List Int) :=
  if less ((aget D c).getD []) id = [] then adel (aset D c (less ((aget D c).getD []) id)) c else aset D c (less ((aget D c).getD []) id)
def dropL (D : List ((Int × Int) × List Int)) (l : List (Int × Int)) (id : Int) : List ((Int × Int) × List Int) := l.foldl (fun D c => dropC D c id) D

theorem less_len (ids : List Int) (id : Int) : (less ids id).length ≤ ids.length := List.length_filter_le _ _

theorem dropC_len {D : List ((Int × Int) × List Int)} (hn : (D.map (·.1)).Nodup) {c : Int × Int} {id : Int} (d : Int × Int) : ((aget (dropC D c id) d).getD []).length ≤ ((aget D d).getD []).length := by
  have hl := less_len ((aget D c).getD []) id
  unfold dropC
  split
  · rw [aget_adel (nodup_aset hn), aget_aset]
    split
    · simp
    · exact Nat.le_refl _
  · rw [aget_aset]
    split
    · rename_i h
      subst h
      exact hl
    · exact Nat.le_refl _

def boxAt (B : List (Int × Bx)) (id : Int) : Bx := (aget B id).getD ⟨0, 0, 0⟩

end Go.Proofs.YtfnepdppkmjboaaDoor

/- GrG: the grid's own calls New, Put, Move, Drop, Count, as contracts over lists of numbers and boxes. Conditions: those of each theorem, on its arguments. -/
namespace Go.Proofs.YtfnepdppkmjboaaDoor
open Go Go.Sx Go.Fp
attribute [local irreducible] jn lv ld st nw asI asB asP asS asY asM asF asA asT lp rn ru rq cl dw dr bnd bn2 nz nn hd hr so eqW
attribute [local irreducible] callOk

def gputE (s : Int) (B : List (Int × Bx)) (id : Int) (b : Bx) : Int := if id < 0 then 1 else if (aget B id).isSome = true then 180 else cellsE s b
def gputB (s : Int) (B : List (Int × Bx)) (id : Int) (b : Bx) : List (Int × Bx) := if gputE s B id b = 0 then aset B id b else B
def gputD (s : Int) (B : List (Int × Bx)) (D : List ((Int × Int) × List Int)) (id : Int) (b : Bx) : List ((Int × Int) × List Int) := if gputE s B id b = 0 then putL D (cellsL' s b) id else D

def gmoveE (s : Int) (B : List (Int × Bx)) (id : Int) (b : Bx) : Int := if (aget B id).isSome = true then cellsE s b else 181
def gmoveB (s : Int) (B : List (Int × Bx)) (id : Int) (b : Bx) : List (Int × Bx) := if gmoveE s B id b = 0 then aset (adel B id) id b else B
def gmoveD (s : Int) (B : List (Int × Bx)) (D : List ((Int × Int) × List Int)) (id : Int) (b : Bx) : List ((Int × Int) × List Int) :=
  if gmoveE s B id b = 0 then putL (dropL D (cellsL' s (boxAt B id)) id) (cellsL' s b) id else D

theorem pl_nd {C : List ((Int × Int) × CellV)} (h : (C.map (·.1)).Nodup) : ((pl C).map (·.1)).Nodup := by
  unfold pl
  simpa [List.map_map, Function.comp_def] using h

theorem dropC_nd {D : List ((Int × Int) × List Int)} (hn : (D.map (·.1)).Nodup) {c : Int × Int} {id : Int} : ((dropC D c id).map (·.1)).Nodup := by
  unfold dropC
  split
  · exact nodup_adel (nodup_aset hn)
  · exact nodup_aset hn

theorem dropL_len {l : List (Int × Int)} {id : Int} : ∀ {D : List ((Int × Int) × List Int)}, (D.map (·.1)).Nodup → ∀ x, ((aget (dropL D l id) x).getD []).length ≤ ((aget D x).getD []).length := by
  induction l with
  | nil => intro D _ x; exact Nat.le_refl _
  | cons c l ih =>
    intro D hn x
    exact Nat.le_trans (ih (dropC_nd hn) x) (dropC_len hn x)

def gdropE (B : List (Int × Bx)) (id : Int) : Int := if (aget B id).isSome = true then 0 else 181
def gdropB (B : List (Int × Bx)) (id : Int) : List (Int × Bx) := if gdropE B id = 0 then adel B id else B
def gdropD (s : Int) (B : List (Int × Bx)) (D : List ((Int × Int) × List Int)) (id : Int) : List ((Int × Int) × List Int) :=
  if gdropE B id = 0 then dropL D (cellsL' s (boxAt B id)) id else D

end Go.Proofs.YtfnepdppkmjboaaDoor
