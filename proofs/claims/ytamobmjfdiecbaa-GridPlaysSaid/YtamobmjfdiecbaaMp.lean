/- Mp: maps of one's own, as lists of keys and values that are known: looked up, written, entered, deleted. No condition. -/
import Derived.Test.YtamobmjfdiecbaaRn
namespace Go.Sx
open Go Go.RowKit

set_option linter.unusedSectionVars false
theorem g_obj {P : Program} {w : World} {r : Nat} {es : Array MapEntry} {clock : Nat} (hb : w.heap[r]? = some (.map es clock)) : (getObj r).run P w = .ok (.map es clock) w := by
  simp [getObj, Sem.run, hb]
theorem s_obj {P : Program} {w : World} {r : Nat} {es : Array MapEntry} {clock : Nat} (o : Obj) (hb : w.heap[r]? = some (.map es clock)) : (setObj r o).run P w = .ok () { w with heap := w.heap.setIfInBounds r o } := by
  simp [setObj, Sem.run, hb]

section
variable {α β : Type} [DecidableEq α]

def afind (a : α) : List (α × β) → Nat → Option (Nat × β)
  | [], _ => none
  | x :: r, i => if x.1 = a then some (i, x.2) else afind a r (i + 1)
def aget (A : List (α × β)) (a : α) : Option β := (afind a A 0).map (·.2)
def aset : List (α × β) → α → β → List (α × β)
  | [], a, b => [(a, b)]
  | x :: r, a, b => if x.1 = a then (x.1, b) :: r else x :: aset r a b
def adel : List (α × β) → α → List (α × β)
  | [], _ => []
  | x :: r, a => if x.1 = a then r else x :: adel r a

def ents (enc : α → Value) (val : β → Value) : List (α × β) → List Nat → List MapEntry
  | [], _ => []
  | _, [] => []
  | x :: A, b :: bs => { key := enc x.1, val := val x.2, born := b } :: ents enc val A bs

theorem ents_length (enc : α → Value) (val : β → Value) : ∀ {A : List (α × β)} {bs : List Nat}, A.length = bs.length → (ents enc val A bs).length = A.length
  | [], _, _ => by simp [ents]
  | x :: A, [], h => by simp at h
  | x :: A, b :: bs, h => by simp [ents, ents_length enc val (A := A) (bs := bs) (by simpa using h)]

theorem afind_shift (a : α) : ∀ (A : List (α × β)) (i : Nat), afind a A i = (afind a A 0).map (fun p => (p.1 + i, p.2))
  | [], i => rfl
  | x :: A, i => by
    unfold afind
    split
    · simp
    · rw [afind_shift a A (i + 1), afind_shift a A (0 + 1)]
      cases afind a A 0 with
      | none => rfl
      | some p => simp; omega

theorem afind_none {a : α} {A : List (α × β)} : afind a A 0 = none ↔ ∀ x ∈ A, x.1 ≠ a := by
  induction A with
  | nil => simp [afind]
  | cons x A ih =>
    unfold afind
    split
    · rename_i h
      simp [h]
    · rename_i h
      rw [afind_shift]
      simp only [Option.map_eq_none_iff, ih, List.mem_cons, forall_eq_or_imp]
      simp [h]

theorem afind_some {a : α} {b : β} : ∀ {A : List (α × β)} {i : Nat}, afind a A 0 = some (i, b) → A[i]? = some (a, b)
  | [], i, h => by simp [afind] at h
  | x :: A, i, h => by
    unfold afind at h
    split at h
    · rename_i hx
      simp only [Option.some.injEq, Prod.mk.injEq] at h
      obtain ⟨rfl, rfl⟩ := h
      simp [← hx]
    · rw [afind_shift] at h
      simp only [Option.map_eq_some_iff] at h
      obtain ⟨p, hp, he⟩ := h
      simp only [Prod.mk.injEq] at he
      obtain ⟨h1, h2⟩ := he
      obtain ⟨j, c⟩ := p
      simp only at h1 h2
      subst h2
      have := afind_some hp
      have e : i = j + 1 := by omega
      subst e
      simpa using this

theorem aset_eq {a : α} {b : β} {A : List (α × β)} : aset A a b = match afind a A 0 with
    | some (i, _) => A.set i (a, b)
    | none => A ++ [(a, b)] := by
  induction A with
  | nil => rfl
  | cons x A ih =>
    unfold aset afind
    split
    · rename_i h
      simp [h]
    · rename_i h
      rw [afind_shift, ih]
      cases hf : afind a A 0 with
      | none => simp
      | some p => simp

theorem adel_eq {a : α} {A : List (α × β)} : adel A a = match afind a A 0 with
    | some (i, _) => A.eraseIdx i
    | none => A := by
  induction A with
  | nil => rfl
  | cons x A ih =>
    unfold adel afind
    split
    · simp
    · rename_i h
      rw [afind_shift, ih]
      cases hf : afind a A 0 with
      | none => simp
      | some p => simp

theorem ents_set (enc : α → Value) (val : β → Value) {a : α} {b : β} : ∀ {A : List (α × β)} {bs : List Nat} {i : Nat} {c : β}, A.length = bs.length → A[i]? = some (a, c) →
    ∃ e, (ents enc val A bs)[i]? = some e ∧ e.key = enc a ∧ e.val = val c ∧ bs[i]? = some e.born ∧ (ents enc val A bs).set i { e with val := val b } = ents enc val (A.set i (a, b)) bs ∧
      (ents enc val A bs).eraseIdx i = ents enc val (A.eraseIdx i) (bs.eraseIdx i)
  | [], _, i, c, _, h => by simp at h
  | x :: A, [], i, c, h, _ => by simp at h
  | x :: A, s :: bs, 0, c, h, hi => by
    simp only [List.getElem?_cons_zero, Option.some.injEq] at hi
    subst hi
    exact ⟨_, rfl, rfl, rfl, rfl, rfl, rfl⟩
  | x :: A, s :: bs, i + 1, c, h, hi => by
    obtain ⟨e, h1, h2, h3, h4, h5, h6⟩ := ents_set enc val (b := b) (A := A) (bs := bs) (i := i) (by simpa using h) (by simpa using hi)
    refine ⟨e, by simpa [ents] using h1, h2, h3, by simpa using h4, ?_, ?_⟩
    · simp only [ents, List.set_cons_succ, h5]
    · simp only [ents, List.eraseIdx_cons_succ, h6]

theorem ents_push (enc : α → Value) (val : β → Value) {x : α × β} {s : Nat} : ∀ {A : List (α × β)} {bs : List Nat}, A.length = bs.length →
    ents enc val A bs ++ [{ key := enc x.1, val := val x.2, born := s }] = ents enc val (A ++ [x]) (bs ++ [s])
  | [], [], _ => rfl
  | [], _ :: _, h => by simp at h
  | _ :: _, [], h => by simp at h
  | y :: A, b :: bs, h => by
    have := ents_push enc val (x := x) (s := s) (A := A) (bs := bs) (by simpa using h)
    simp only [ents, List.cons_append, this]

/-- what a key's type must give -/
structure KeyT (P : Program) (t : TypeId) (enc : α → Value) (ok : α → Prop) : Prop where
  find : ∀ {β : Type} (val : β → Value) (a : α) (A : List (α × β)) (bs : List Nat) (w : World), ok a → (∀ x ∈ A, ok x.1) → A.length = bs.length →
    (Instr.findKey t (enc a) (ents enc val A bs)).run P w = .ok ((afind a A 0).map fun p => (p.1, val p.2)) w
  check : ∀ b a w, (Instr.checkKey b 10000 t (enc a)).run P w = .ok () w
  bits : ∀ a, Instr.sameBits 10000 (enc a) (enc a) = true

/-- a map -/
structure Mp (w : World) (m : Nat) (enc : α → Value) (val : β → Value) (A : List (α × β)) (bs : List Nat) (clk : Nat) : Prop where
  blk : w.heap[m]? = some (.map (ents enc val A bs).toArray clk)
  len : A.length = bs.length
  nd : bs.Nodup
  lt : ∀ b ∈ bs, b < clk

variable {P : Program} {t kt et : TypeId} {enc : α → Value} {ok : α → Prop} {val : β → Value} {w : World} {m : Nat} {A : List (α × β)} {bs : List Nat} {clk : Nat}

theorem Mp.ext {M : Nat → Prop} {w' : World} (hx : Ext M w w') (h : Mp w m enc val A bs clk) (hm : ¬ M m) : Mp w' m enc val A bs clk := ⟨hx.blk h.blk hm, h.len, h.nd, h.lt⟩

theorem Mp.lookup_ok (K : KeyT P kt enc ok) (ht : P.underlying t = some (.map kt et)) {z : Value} (hz : ∀ w, (zeroValue et).run P w = .ok z w) (h : Mp w m enc val A bs clk) (a : α) (ho : ok a ∧ ∀ x ∈ A, ok x.1) :
    (Instr.lookup t (.map (some m)) (enc a) true).run P w = .ok (.tuple #[((aget A a).map val).getD z, .bool (aget A a).isSome]) w := by
  unfold Instr.lookup
  simp only [Sem.run_bind, und_run ht, Result.andThen_ok, g_obj h.blk, Sem.run_pure, K.check, List.toList_toArray, K.find val a A bs w ho.1 ho.2 h.len, aget]
  cases hf : afind a A 0 with
  | none => simp [hz]
  | some p => simp

theorem Mp.lookup (K : KeyT P kt enc ok) (ht : P.underlying t = some (.map kt et)) {z : Value} (hz : ∀ w, (zeroValue et).run P w = .ok z w) (h : Mp w m enc val A bs clk) (a : α) (ho : ok a ∧ ∀ x ∈ A, ok x.1) :
    (Instr.lookup t (.map (some m)) (enc a) false).run P w = .ok (((aget A a).map val).getD z) w := by
  unfold Instr.lookup
  simp only [Sem.run_bind, und_run ht, Result.andThen_ok, g_obj h.blk, Sem.run_pure, K.check, List.toList_toArray, K.find val a A bs w ho.1 ho.2 h.len, aget]
  cases hf : afind a A 0 with
  | none => simp [hz]
  | some p => simp

def setObjW (w : World) (m : Nat) (o : Obj) : World := { w with heap := w.heap.setIfInBounds m o }
theorem setObjW_ext (w : World) (m : Nat) (o : Obj) : Ext (onl m) w (setObjW w m o) ∧ (setObjW w m o).heap.size = w.heap.size :=
  ⟨⟨rfl, rfl, rfl, by simp [setObjW], fun k _ hk => by simp only [setObjW]; rw [Array.getElem?_setIfInBounds_ne (fun e => hk e.symm)]⟩, by simp [setObjW]⟩
theorem setObjW_blk {w : World} {m : Nat} {o o' : Obj} (h : w.heap[m]? = some o') : (setObjW w m o).heap[m]? = some o := by
  have := blk_lt h
  simp [setObjW, this]

theorem keyStays (K : KeyT P kt enc ok) (a : α) (w : World) : (Instr.keyThatStays (enc a) (enc a)).run P w = .ok (enc a) w := by
  simp [Instr.keyThatStays, K.bits]

theorem modify_at {es : List MapEntry} {i : Nat} {e : MapEntry} (h : es[i]? = some e) (f : MapEntry → MapEntry) : (es.toArray.modify i f) = (es.set i (f e)).toArray := by
  apply Array.ext_getElem?
  intro j
  have hlt := (List.getElem?_eq_some_iff.1 h).1
  by_cases hj : i = j
  · subst hj
    have he : es[i] = e := (List.getElem?_eq_some_iff.1 h).2
    simp [hlt, he]
  · simp [hj]

theorem Mp.update (K : KeyT P kt enc ok) (ht : P.underlying t = some (.map kt et)) (h : Mp w m enc val A bs clk) (a : α) (ho : ok a ∧ ∀ x ∈ A, ok x.1) (b : β) {Q : World → Prop}
    (hQ : ∀ w' bs' clk', Mp w' m enc val (aset A a b) bs' clk' → Ext (onl m) w w' → w'.heap.size = w.heap.size → Q w') : ru P (Instr.mapUpdate t (.map (some m)) (enc a) (val b)) w Q := by
  have hr : ∃ bs' clk', (Instr.mapUpdate t (.map (some m)) (enc a) (val b)).run P w = .ok () (setObjW w m (.map (ents enc val (aset A a b) bs').toArray clk')) ∧ (aset A a b).length = bs'.length ∧ bs'.Nodup ∧ ∀ x ∈ bs', x < clk' := by
    unfold Instr.mapUpdate
    simp only [Sem.run_bind, und_run ht, Result.andThen_ok, g_obj h.blk, K.check, List.toList_toArray, K.find val a A bs w ho.1 ho.2 h.len]
    rw [aset_eq]
    cases hf : afind a A 0 with
    | none =>
      refine ⟨bs ++ [clk], clk + 1, ?_, by simp [h.len], ?_, ?_⟩
      · simp only [Option.map_none]
        rw [s_obj _ h.blk]
        have := ents_push enc val (x := (a, b)) (s := clk) h.len
        simp only [← this, List.push_toArray]
        rfl
      · rw [List.nodup_append]
        refine ⟨h.nd, by simp, ?_⟩
        intro x hx y hy
        simp only [List.mem_singleton] at hy
        have := h.lt x hx
        omega
      · intro x hx
        simp only [List.mem_append, List.mem_singleton] at hx
        rcases hx with hx | rfl
        · have := h.lt x hx; omega
        · omega
    | some p =>
      obtain ⟨i, c⟩ := p
      obtain ⟨e, h1, h2, h3, h4, h5, _⟩ := ents_set enc val (b := b) h.len (afind_some hf)
      refine ⟨bs, clk, ?_, by simp [h.len], h.nd, h.lt⟩
      simp only [Option.map_some, List.getElem?_toArray, h1, Option.getD_some, h2, Sem.run_bind, keyStays K, Result.andThen_ok]
      rw [s_obj _ h.blk, modify_at h1]
      have e2 : ({ e with key := enc a, val := val b } : MapEntry) = { e with val := val b } := by rw [← h2]
      simp only [e2, h5]
      rfl
  obtain ⟨bs', clk', hr, hl, hn, hlt⟩ := hr
  exact ru_mk hr (hQ _ bs' clk' ⟨setObjW_blk h.blk, hl, hn, hlt⟩ (setObjW_ext _ _ _).1 (setObjW_ext _ _ _).2)

/-- a map, an entry of which was taken hold of -/
structure MpE (w : World) (m : Nat) (enc : α → Value) (val : β → Value) (A : List (α × β)) (bs : List Nat) (clk : Nat) (i st : Nat) : Prop where
  mp : Mp w m enc val A bs clk
  st : bs[i]? = some st

theorem Mp.entry (K : KeyT P kt enc ok) (ht : P.underlying t = some (.map kt et)) {z : β} (hz : ∀ w, (zeroValue et).run P w = .ok (val z) w) (h : Mp w m enc val A bs clk) (a : α) (ho : ok a ∧ ∀ x ∈ A, ok x.1) {Q : Value → World → Prop}
    (hQ : ∀ w' bs' clk' i st, MpE w' m enc val (aset A a ((aget A a).getD z)) bs' clk' i st → (aset A a ((aget A a).getD z))[i]? = some (a, (aget A a).getD z) → (∀ b, (aset A a ((aget A a).getD z)).set i (a, b) = aset A a b) →
      Ext (onl m) w w' → w'.heap.size = w.heap.size → Q (.tuple #[val ((aget A a).getD z), .int .i64 (st : Int)]) w') :
    rn P (Instr.mapEntry t (.map (some m)) (enc a)) w Q := by
  have hr : ∃ (bs' : List Nat) (clk' i st : Nat), (Instr.mapEntry t (.map (some m)) (enc a)).run P w = .ok (.tuple #[val ((aget A a).getD z), .int .i64 (st : Int)]) (setObjW w m (.map (ents enc val (aset A a ((aget A a).getD z)) bs').toArray clk')) ∧
      (aset A a ((aget A a).getD z)).length = bs'.length ∧ bs'.Nodup ∧ (∀ x ∈ bs', x < clk') ∧ bs'[i]? = some st ∧ (aset A a ((aget A a).getD z))[i]? = some (a, (aget A a).getD z) ∧ (∀ b, (aset A a ((aget A a).getD z)).set i (a, b) = aset A a b) := by
    unfold Instr.mapEntry
    simp only [Sem.run_bind, und_run ht, Result.andThen_ok, g_obj h.blk, K.check, List.toList_toArray, K.find val a A bs w ho.1 ho.2 h.len]
    simp only [aset_eq, aget]
    cases hf : afind a A 0 with
    | none =>
      refine ⟨bs ++ [clk], clk + 1, bs.length, clk, ?_, by simp [h.len], ?_, ?_, by simp, by simp [← h.len], fun b => by simp [← h.len]⟩
      · simp only [Option.map_none, Option.getD_none, Sem.run_bind, hz, Result.andThen_ok]
        rw [s_obj _ h.blk]
        have := ents_push enc val (x := (a, z)) (s := clk) h.len
        simp only [← this, List.push_toArray]
        rfl
      · rw [List.nodup_append]
        refine ⟨h.nd, by simp, ?_⟩
        intro x hx y hy
        simp only [List.mem_singleton] at hy
        have := h.lt x hx
        omega
      · intro x hx
        simp only [List.mem_append, List.mem_singleton] at hx
        rcases hx with hx | rfl
        · have := h.lt x hx; omega
        · omega
    | some p =>
      obtain ⟨i, c⟩ := p
      obtain ⟨e, h1, h2, h3, h4, h5, _⟩ := ents_set enc val (b := c) h.len (afind_some hf)
      have hlt := (List.getElem?_eq_some_iff.1 (afind_some hf)).1
      refine ⟨bs, clk, i, e.born, ?_, by simp [h.len], h.nd, h.lt, h4, by simp [hlt], fun b => by simp⟩
      simp only [Option.map_some, List.getElem?_toArray, h1, Option.getD_some, h2, Sem.run_bind, keyStays K, Result.andThen_ok]
      rw [s_obj _ h.blk, modify_at h1]
      have e2 : ({ e with key := enc a } : MapEntry) = { e with val := val c } := by rw [← h2, ← h3]
      simp only [e2, h5, Result.andThen_ok]
      rfl
  obtain ⟨bs', clk', i, st, hr, hl, hn, hlt, hs, h1, h2⟩ := hr
  exact rn_mk hr (hQ _ bs' clk' i st ⟨⟨setObjW_blk h.blk, hl, hn, hlt⟩, hs⟩ h1 h2 (setObjW_ext _ _ _).1 (setObjW_ext _ _ _).2)

theorem find_born {enc : α → Value} {val : β → Value} {st : Nat} : ∀ {A : List (α × β)} {bs : List Nat} {i : Nat}, A.length = bs.length → bs.Nodup → bs[i]? = some st →
    (ents enc val A bs).findIdx? (fun e => (e.born : Int) == (st : Int)) = some i
  | [], [], i, _, _, h => by simp at h
  | [], _ :: _, i, h, _, _ => by simp at h
  | _ :: _, [], i, h, _, _ => by simp at h
  | x :: A, b :: bs, 0, h, hn, hi => by
    simp only [List.getElem?_cons_zero, Option.some.injEq] at hi
    subst hi
    simp [ents, List.findIdx?_cons]
  | x :: A, b :: bs, i + 1, h, hn, hi => by
    have hne : b ≠ st := by
      rintro rfl
      have := List.nodup_cons.1 hn
      exact this.1 (List.mem_of_getElem? (by simpa using hi))
    have ih := find_born (enc := enc) (val := val) (A := A) (bs := bs) (i := i) (by simpa using h) (List.nodup_cons.1 hn).2 (by simpa using hi)
    have hb : ((b : Int) == (st : Int)) = false := by simp; omega
    simp only [ents, List.findIdx?_cons, hb, ih]
    simp

theorem MpE.store {A : List (α × β)} {i st : Nat} (h : MpE w m enc val A bs clk i st) {a : α} {c : β} (hi : A[i]? = some (a, c)) (b : β) {Q : World → Prop}
    (hQ : ∀ w', Mp w' m enc val (A.set i (a, b)) bs clk → Ext (onl m) w w' → w'.heap.size = w.heap.size → Q w') : ru P (Instr.entryStore t (.map (some m)) (.int .i64 (st : Int)) (val b)) w Q := by
  obtain ⟨e, h1, h2, h3, h4, h5, _⟩ := ents_set enc val (b := b) h.mp.len hi
  have hr : (Instr.entryStore t (.map (some m)) (.int .i64 (st : Int)) (val b)).run P w = .ok () (setObjW w m (.map (ents enc val (A.set i (a, b)) bs).toArray clk)) := by
    unfold Instr.entryStore
    have hf := find_born (enc := enc) (val := val) h.mp.len h.mp.nd h.st
    have hf' : (ents enc val A bs).toArray.findIdx? (fun e => (e.born : Int) == (st : Int)) = some i := by rw [List.findIdx?_toArray]; exact hf
    simp only [Sem.run_bind, g_obj h.mp.blk, Result.andThen_ok, asInt, asIntOf, Sem.run_pure, hf']
    rw [s_obj _ h.mp.blk, modify_at h1, h5]
    rfl
  exact ru_mk hr (hQ _ ⟨setObjW_blk h.mp.blk, by simp [h.mp.len], h.mp.nd, h.mp.lt⟩ (setObjW_ext _ _ _).1 (setObjW_ext _ _ _).2)

theorem Mp.delete (K : KeyT P kt enc ok) (ht : P.underlying t = some (.map kt et)) (h : Mp w m enc val A bs clk) (a : α) (ho : ok a ∧ ∀ x ∈ A, ok x.1) {ty k' : TypeId} {Q : Value → World → Prop}
    (hQ : ∀ w' bs' clk', Mp w' m enc val (adel A a) bs' clk' → Ext (onl m) w w' → w'.heap.size = w.heap.size → Q (.tuple #[]) w') : rn P (Builtin.delete_ #[t, k'] ty #[.map (some m), enc a]) w Q := by
  have hr : ∃ bs' clk', (Builtin.delete_ #[t, k'] ty #[.map (some m), enc a]).run P w = .ok (.tuple #[]) (setObjW w m (.map (ents enc val (adel A a) bs').toArray clk')) ∧ (adel A a).length = bs'.length ∧ bs'.Nodup ∧ ∀ x ∈ bs', x < clk' := by
    unfold Builtin.delete_
    simp only [List.getElem?_toArray, List.getElem?_cons_zero, List.getElem?_cons_succ, Sem.run_bind, und_run ht, Result.andThen_ok, g_obj h.blk, K.check, List.toList_toArray, K.find val a A bs w ho.1 ho.2 h.len]
    rw [adel_eq]
    cases hf : afind a A 0 with
    | none =>
      refine ⟨bs, clk, ?_, h.len, h.nd, h.lt⟩
      simp only [Option.map_none, Sem.run_bind]
      rw [s_obj _ h.blk]
      rfl
    | some p =>
      obtain ⟨i, c⟩ := p
      obtain ⟨e, h1, h2, h3, h4, h5, h6⟩ := ents_set enc val (b := c) h.len (afind_some hf)
      refine ⟨bs.eraseIdx i, clk, ?_, ?_, ?_, ?_⟩
      · simp only [Option.map_some, Sem.run_bind]
        rw [s_obj _ h.blk, ← h6]
        have : (ents enc val A bs).toArray.eraseIdxIfInBounds i = ((ents enc val A bs).eraseIdx i).toArray := by simp
        rw [this]
        rfl
      · have hlt := (List.getElem?_eq_some_iff.1 (afind_some hf)).1
        have := h.len
        rw [List.length_eraseIdx_of_lt hlt, List.length_eraseIdx_of_lt (by omega)]
        omega
      · exact h.nd.sublist (List.eraseIdx_sublist _ _)
      · exact fun x hx => h.lt x ((List.eraseIdx_sublist _ _).subset hx)
  obtain ⟨bs', clk', hr, hl, hn, hlt⟩ := hr
  exact rn_mk hr (hQ _ bs' clk' ⟨setObjW_blk h.blk, hl, hn, hlt⟩ (setObjW_ext _ _ _).1 (setObjW_ext _ _ _).2)

theorem Mp.len_run {ty : TypeId} (ht : P.underlying t = some (.map kt et)) (h : Mp w m enc val A bs clk) : (Builtin.len_ #[t] ty #[.map (some m)]).run P w = .ok (.int .i64 (A.length : Int)) w := by
  unfold Builtin.len_
  simp only [List.getElem?_toArray, List.getElem?_cons_zero, Sem.run_bind, und_run ht, Result.andThen_ok, g_obj h.blk, Sem.run_pure, goInt, List.size_toArray, ents_length enc val h.len]

theorem make_map (ht : P.underlying t = some (.map kt et)) {Q : Value → World → Prop}
    (hQ : ∀ w', Mp w' w.heap.size enc val ([] : List (α × β)) [] 0 → Ext no w w' → w'.heap.size = w.heap.size + 1 → Q (.map (some w.heap.size)) w') : rn P (Instr.makeMap t none) w Q := by
  have hr : (Instr.makeMap t none).run P w = .ok (.map (some w.heap.size)) (w.alloc (.map #[] 0)) := by
    simp [Instr.makeMap, newObj, Sem.run]
  exact rn_mk hr (hQ _ ⟨new_blk w _, rfl, List.nodup_nil, by simp⟩ (Ext.alloc w _) (new_size w _))
end

/-! ### keys that are whole numbers -/
theorem keyT_int {P : Program} {t : TypeId} {k : IntKind} (hu : P.underlying t = some (.int k)) : KeyT P t (fun x : Int => Value.int k x) (fun _ => True) := by
  refine ⟨?_, ?_, ?_⟩
  · intro β val a A bs w _ _ hl
    have key : ∀ (A : List (Int × β)) (bs : List Nat) (i : Nat), A.length = bs.length → Instr.findNow (.int k) (.int k a) (ents (fun x : Int => Value.int k x) val A bs) i = some ((afind a A i).map fun p => (p.1, val p.2)) := by
      intro A
      induction A with
      | nil => intro bs i _; rfl
      | cons x A ih =>
        intro bs i hl
        cases bs with
        | nil => simp at hl
        | cons b bs =>
          have := ih bs (i + 1) (by simpa using hl)
          unfold ents afind Instr.findNow
          simp only [Instr.sameNow, if_true]
          by_cases h : x.1 = a
          · have h' : (a == x.1) = true := by simp [h]
            rw [h', if_pos h]
            rfl
          · have h' : (a == x.1) = false := by simp; omega
            rw [h', if_neg h]
            exact this
    unfold Instr.findKey
    simp only [Sem.run_bind, und_run hu, Result.andThen_ok, key A bs 0 hl, Sem.run_pure]
  · intro b a w
    have key : ∀ d, (Instr.checkKey b (d + 1) t (.int k a)).run P w = .ok () w := by
      intro d
      simp [Instr.checkKey, und_run hu]
    exact key 9999
  · intro a
    have key : ∀ d, Instr.sameBits d (.int k a) (.int k a) = true := by
      intro d
      simp [Instr.sameBits]
    exact key _
end Go.Sx
