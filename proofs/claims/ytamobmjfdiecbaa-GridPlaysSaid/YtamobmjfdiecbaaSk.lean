/- Sk: the blocks of one's own that a walk knows, kept in one list beside the world: what is loaded from them, stored to them, laid anew. No condition. -/
import Derived.Test.YtamobmjfdiecbaaSz
namespace Go.Sx
open Go Go.RowKit

/-- from w0 on: nothing old was written; each listed block (number, cells, type) stands as listed -/
structure St (w0 w : World) (L : List (Nat × List Value × TypeId)) : Prop where
  ext : Ext no w0 w
  kn : ∀ b ∈ L, w.heap[b.1]? = some (.cells b.2.1.toArray b.2.2 (0, 0)) ∧ w0.heap.size ≤ b.1
  nd : L.Pairwise fun a b => a.1 ≠ b.1

theorem St.start (w0 : World) : St w0 w0 [] := ⟨Ext.refl _ _, by simp, List.Pairwise.nil⟩

theorem St.nw {w0 w : World} {L : List (Nat × List Value × TypeId)} (h : St w0 w L) {cs : List Value} {t : TypeId} {K : Nat → World → Prop}
    (hK : ∀ r w', St w0 w' ((r, cs, t) :: L) → K r w') : nw w (.cells cs.toArray t) K := by
  refine nw_mk (hK _ _ ⟨h.ext.trans (Ext.alloc w _), fun b hb => ?_, ?_⟩)
  · rcases List.mem_cons.1 hb with rfl | hb
    · exact ⟨new_blk w _, h.ext.size⟩
    · exact ⟨(Ext.alloc w _).blk (h.kn b hb).1 (fun hf => hf), (h.kn b hb).2⟩
  · refine List.Pairwise.cons (fun b hb => ?_) h.nd
    have := blk_lt (h.kn b hb).1
    simp only
    omega

theorem St.alloc {w0 w : World} {L : List (Nat × List Value × TypeId)} (h : St w0 w L) (cs : List Value) (t : TypeId) : St w0 (w.alloc (.cells cs.toArray t)) ((w.heap.size, cs, t) :: L) := by
  have := h.nw (cs := cs) (t := t) (K := fun r w' => r = w.heap.size → w' = w.alloc (.cells cs.toArray t) → St w0 w' ((r, cs, t) :: L)) (fun r w' hs _ _ => hs)
  exact this rfl rfl

theorem St.to {w0 w w' : World} {L : List (Nat × List Value × TypeId)} (h : St w0 w L) (hx : Ext no w w') : St w0 w' L :=
  ⟨h.ext.trans hx, fun b hb => ⟨hx.blk (h.kn b hb).1 (fun hf => hf), (h.kn b hb).2⟩, h.nd⟩

theorem St.dw {w0 w : World} {L : List (Nat × List Value × TypeId)} (h : St w0 w L) {K : World → Prop} (hK : ∀ w', St w0 w' L → Ext no w w' → K w') : dw w K :=
  hK w.drew (h.to (Ext.drew w)) (Ext.drew w)

theorem St.cell {w0 w : World} {L : List (Nat × List Value × TypeId)} (h : St w0 w L) (i : Nat) {r : Nat} {cs : List Value} {t : TypeId} (hL : L[i]? = some (r, cs, t)) {j : Nat} {v : Value} (hj : cs[j]? = some v) :
    w.cell? ⟨r, j, none⟩ = some v := by
  have hk := (h.kn _ (List.mem_of_getElem? hL)).1
  rw [blk_cell hk]
  simpa using hj

theorem St.ld0 {w0 w : World} {L : List (Nat × List Value × TypeId)} (h : St w0 w L) (i : Nat) {r : Nat} {cs : List Value} {t : TypeId} (hL : L[i]? = some (r, cs, t)) {v : Value} (hj : cs[0]? = some v) {K : Value → Prop} (hK : K v) :
    ld w ⟨r, 0, none⟩ K := ld_mk (h.cell i hL hj) hK
theorem St.ld {w0 w : World} {L : List (Nat × List Value × TypeId)} (h : St w0 w L) (i : Nat) {r : Nat} {cs : List Value} {t : TypeId} (hL : L[i]? = some (r, cs, t)) {j : Nat} {v : Value} (hj : cs[j]? = some v) {K : Value → Prop} (hK : K v) :
    ld w (Addr.add ⟨r, 0, none⟩ j) K := by
  rw [add_mk, Nat.zero_add]
  exact ld_mk (h.cell i hL hj) hK
theorem St.hd0 {w0 w : World} {L : List (Nat × List Value × TypeId)} (h : St w0 w L) (i : Nat) {r : Nat} {cs : List Value} {t : TypeId} (hL : L[i]? = some (r, cs, t)) {v : Value} (hj : cs[0]? = some v) {X : Prop} (hX : X) :
    hd w ⟨r, 0, none⟩ v X := ⟨h.cell i hL hj, hX⟩
theorem St.hd {w0 w : World} {L : List (Nat × List Value × TypeId)} (h : St w0 w L) (i : Nat) {r : Nat} {cs : List Value} {t : TypeId} (hL : L[i]? = some (r, cs, t)) {j : Nat} {v : Value} (hj : cs[j]? = some v) {X : Prop} (hX : X) :
    hd w (Addr.add ⟨r, 0, none⟩ j) v X := by
  rw [add_mk, Nat.zero_add]
  exact ⟨h.cell i hL hj, hX⟩

theorem St.stj {w0 w : World} {L : List (Nat × List Value × TypeId)} (h : St w0 w L) (i : Nat) {r : Nat} {cs : List Value} {t : TypeId} (hL : L[i]? = some (r, cs, t)) {j : Nat} {u : Value} (hj : cs[j]? = some u) {v : Value} (h1 : one v = true) {K : World → Prop}
    (hK : ∀ w', St w0 w' (L.set i (r, cs.set j v, t)) → Ext (onl r) w w' → K w') : st w ⟨r, j, none⟩ v K := by
  have hk := h.kn _ (List.mem_of_getElem? hL)
  simp only at hk
  have hil : i < L.length := (List.getElem?_eq_some_iff.1 hL).1
  have hlt : j < cs.length := (List.getElem?_eq_some_iff.1 hj).1
  have hx := Ext.set w ⟨r, j, none⟩ v
  refine st_mk hk.1 (by simpa using hlt) h1 (hK _ ⟨h.ext.then hx fun k hk' hkr => ?_, fun b hb => ?_, ?_⟩ hx)
  · have : k = r := hkr
    omega
  · obtain ⟨m, hm⟩ := List.getElem?_of_mem hb
    by_cases hmi : m = i
    · subst hmi
      rw [List.getElem?_set_self hil] at hm
      cases hm
      refine ⟨?_, hk.2⟩
      simp only
      rw [blk_set hk.1]
      simp
    · rw [List.getElem?_set_ne (fun e => hmi e.symm)] at hm
      have hkb := h.kn b (List.mem_of_getElem? hm)
      refine ⟨hx.blk hkb.1 fun hbr => ?_, hkb.2⟩
      have hbr' : b.1 = r := hbr
      have hml : m < L.length := (List.getElem?_eq_some_iff.1 hm).1
      have em : L[m] = b := (List.getElem?_eq_some_iff.1 hm).2
      have ei : L[i] = (r, cs, t) := (List.getElem?_eq_some_iff.1 hL).2
      have hp := List.pairwise_iff_getElem.1 h.nd
      rcases Nat.lt_or_gt_of_ne hmi with hlt' | hlt'
      · have := hp m i hml hil hlt'
        rw [em, ei] at this
        exact this hbr'
      · have := hp i m hil hml hlt'
        rw [em, ei] at this
        exact this hbr'.symm
  · have hmap : (L.set i (r, cs.set j v, t)).map (·.1) = L.map (·.1) := by
      rw [List.map_set]
      apply List.ext_getElem?
      intro m
      by_cases hmi : m = i
      · subst hmi
        rw [List.getElem?_set_self (by simpa using hil), List.getElem?_map, hL]
        rfl
      · rw [List.getElem?_set_ne (fun e => hmi e.symm)]
    have hnd : (L.map (·.1)).Pairwise (· ≠ ·) := List.pairwise_map.2 h.nd
    rw [← hmap] at hnd
    exact List.pairwise_map.1 hnd

theorem St.st0 {w0 w : World} {L : List (Nat × List Value × TypeId)} (h : St w0 w L) (i : Nat) {r : Nat} {cs : List Value} {t : TypeId} (hL : L[i]? = some (r, cs, t)) {u : Value} (hj : cs[0]? = some u) {v : Value} (h1 : one v = true) {K : World → Prop}
    (hK : ∀ w', St w0 w' (L.set i (r, cs.set 0 v, t)) → K w') : st w ⟨r, 0, none⟩ v K := h.stj i hL hj h1 fun w' h _ => hK w' h
theorem St.st {w0 w : World} {L : List (Nat × List Value × TypeId)} (h : St w0 w L) (i : Nat) {r : Nat} {cs : List Value} {t : TypeId} (hL : L[i]? = some (r, cs, t)) {j : Nat} {u : Value} (hj : cs[j]? = some u) {v : Value} (h1 : one v = true) {K : World → Prop}
    (hK : ∀ w', St w0 w' (L.set i (r, cs.set j v, t)) → K w') : st w (Addr.add ⟨r, 0, none⟩ j) v K := by
  rw [add_mk, Nat.zero_add]
  exact h.stj i hL hj h1 fun w' h _ => hK w' h

theorem St.ldd {w0 w : World} {L : List (Nat × List Value × TypeId)} (h : St w0 w L) (i : Nat) {r : Nat} {cs : List Value} {t : TypeId} (hL : L[i]? = some (r, cs, t)) {j k : Nat} {v : Value} (hj : cs[j + k]? = some v) {K : Value → Prop} (hK : K v) :
    Sx.ld w (Addr.add (Addr.add ⟨r, 0, none⟩ j) k) K := by
  rw [add_mk, add_mk, Nat.zero_add]
  exact ld_mk (h.cell i hL hj) hK
theorem St.hdd {w0 w : World} {L : List (Nat × List Value × TypeId)} (h : St w0 w L) (i : Nat) {r : Nat} {cs : List Value} {t : TypeId} (hL : L[i]? = some (r, cs, t)) {j k : Nat} {v : Value} (hj : cs[j + k]? = some v) {X : Prop} (hX : X) :
    Sx.hd w (Addr.add (Addr.add ⟨r, 0, none⟩ j) k) v X := by
  rw [add_mk, add_mk, Nat.zero_add]
  exact ⟨h.cell i hL hj, hX⟩
theorem St.std {w0 w : World} {L : List (Nat × List Value × TypeId)} (h : St w0 w L) (i : Nat) {r : Nat} {cs : List Value} {t : TypeId} (hL : L[i]? = some (r, cs, t)) {j k : Nat} {u : Value} (hj : cs[j + k]? = some u) {v : Value} (h1 : one v = true) {K : World → Prop}
    (hK : ∀ w', St w0 w' (L.set i (r, cs.set (j + k) v, t)) → K w') : Sx.st w (Addr.add (Addr.add ⟨r, 0, none⟩ j) k) v K := by
  rw [add_mk, add_mk, Nat.zero_add]
  exact h.stj i hL hj h1 fun w' h _ => hK w' h

theorem St.swap {w0 w : World} {a b : Nat × List Value × TypeId} {L : List (Nat × List Value × TypeId)} (h : St w0 w (a :: b :: L)) : St w0 w (b :: a :: L) := by
  refine ⟨h.ext, fun c hc => h.kn c ?_, ?_⟩
  · simp only [List.mem_cons] at hc ⊢
    rcases hc with h | h | h
    · exact .inr (.inl h)
    · exact .inl h
    · exact .inr (.inr h)
  · have hp := h.nd
    simp only [List.pairwise_cons, List.mem_cons] at hp ⊢
    obtain ⟨h1, h2, h3⟩ := hp
    refine ⟨?_, ?_, h3⟩
    · rintro c (rfl | hc)
      · exact fun e => h1 b (.inl rfl) e.symm
      · exact h2 c hc
    · exact fun c hc => h1 c (.inr hc)

/-- from a later world on -/
theorem St.tail {w0 w : World} {a : Nat × List Value × TypeId} {L : List (Nat × List Value × TypeId)} (h : St w0 w (a :: L)) : St w0 w L :=
  ⟨h.ext, fun c hc => h.kn c (List.mem_cons_of_mem _ hc), (List.pairwise_cons.1 h.nd).2⟩

theorem so_i {α : Type} {o : Option α} {v : α} {K : α → Prop} (e : o = some v) (h : K v) : so o K := by subst e; exact h

/-- a slice of values of three cells: one of them -/
theorem Reads.at3 {w : World} {p : Option Addr} {vs : List Value} (hr : Reads w p vs) {i : Int} {n : Nat} (h0 : 0 ≤ i) (hi : i.toNat < n) (hn : vs.length = n * 3) {K : Addr → Prop}
    (hK : ∀ a, w.cell? (Addr.add a (Int.toNat i * 3)) = vs[i.toNat * 3]? → w.cell? (Addr.add (Addr.add a (Int.toNat i * 3)) 1) = vs[i.toNat * 3 + 1]? → w.cell? (Addr.add (Addr.add a (Int.toNat i * 3)) 2) = vs[i.toNat * 3 + 2]? → K a) :
    dr p fun a => bnd i n (K a) := by
  have e : ∀ k, k < 3 → ∃ v, vs[i.toNat * 3 + k]? = some v := fun k hk => by
    have : i.toNat * 3 + k < vs.length := by rw [hn]; omega
    exact ⟨_, List.getElem?_eq_getElem this⟩
  rcases hr with h | ⟨b, o, rfl, hc⟩
  · rw [h] at hn
    simp at hn
    omega
  · refine dr_i (bnd_mk h0 (by omega) (hK _ ?_ ?_ ?_))
    · obtain ⟨v, hv⟩ := e 0 (by decide)
      rw [add_mk, ← Nat.add_zero (i.toNat * 3), hv]
      exact hc _ _ hv
    · obtain ⟨v, hv⟩ := e 1 (by decide)
      rw [add_mk, add_mk, hv, Nat.add_assoc]
      exact hc _ _ hv
    · obtain ⟨v, hv⟩ := e 2 (by decide)
      rw [add_mk, add_mk, hv, Nat.add_assoc]
      exact hc _ _ hv
theorem dr_mk' {p : Option Addr} {a : Addr} {K : Addr → Prop} (e : p = some a) (h : K a) : dr p K := by subst e; exact h
theorem eqW_mk {P : Program} {t : TypeId} {x y : Value} {K : Bool → Prop} {b : Bool} (hg : P.eqGuardType P.depth t = false) (hr : ∀ w, (Op.equal t x y).run P w = .ok b w) (h : K b) : eqW P t x y K := ⟨hg, b, hr, h⟩

end Go.Sx
