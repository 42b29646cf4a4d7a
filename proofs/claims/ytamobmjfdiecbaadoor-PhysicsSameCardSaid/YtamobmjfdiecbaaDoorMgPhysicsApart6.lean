/- GrP: the document's own grid as a thing in memory: a list of numbers and boxes; where a number stands. Conditions: those of each theorem, on its arguments. -/
import Derived.Test.YtamobmjfdiecbaaDoorMgPhysicsApart5
import Derived.Test.YtamobmjfdiecbaaDoorMgPhysicsApart4
import Derived.Test.YtamobmjfdiecbaaDoorRows
import Derived.ProofKit
import Derived.OpenShut
import Derived.LaidMore
import Derived.Stop.Joined
namespace Go.Proofs.YtamobmjfdiecbaaDoor
open Go Go.Sx Go.Fp
attribute [local irreducible] jn lv ld st nw asI asB asP asS asY asM asF asA asT lp rn ru rq cl dw dr bnd bn2 nz nn hd hr so eqW
attribute [local irreducible] callOk

def bcs (A : List (Int × Bx)) : List Value := A.flatMap fun y => y.2.cells
def ids (A : List (Int × Bx)) : List Value := iv .i64 (A.map (·.1))
theorem ids_length (A : List (Int × Bx)) : (ids A).length = A.length := by simp [ids, iv]
theorem ids_get {A : List (Int × Bx)} {i : Nat} {y : Int × Bx} (h : A[i]? = some y) : (ids A)[i]? = some (.int .i64 y.1) := by simp [ids, iv, h]

section
variable {w : World} {F : Nat → Prop} {x : Nat} {s : Int} {A : List (Int × Bx)} {p : Option Addr} {c : Nat} {q : Option Addr} {c' : Nat}

end

/-! ### where a number stands -/
def pos (A : List (Int × Bx)) (id : Int) : Nat := (A.takeWhile fun y => decide (y.1 < id)).length
def isAt (A : List (Int × Bx)) (id : Int) : Bool := match A[pos A id]? with
  | some y => y.1 == id
  | none => false

theorem pos_le (A : List (Int × Bx)) (id : Int) : pos A id ≤ A.length := (List.takeWhile_sublist _).length_le
theorem pos_lt {id : Int} : ∀ {A : List (Int × Bx)} {i : Nat} {y : Int × Bx}, A[i]? = some y → i < pos A id → y.1 < id
  | [], i, y, h, _ => by simp at h
  | z :: A, i, y, h, hi => by
    unfold pos at hi
    rw [List.takeWhile_cons] at hi
    split at hi
    · rename_i hz
      cases i with
      | zero =>
        have : z = y := by simpa using h
        subst this
        exact of_decide_eq_true hz
      | succ i => exact pos_lt (A := A) (by simpa using h) (by unfold pos; simpa using hi)
    · simp at hi
theorem pos_at {id : Int} : ∀ {A : List (Int × Bx)} {y : Int × Bx}, A[pos A id]? = some y → ¬ y.1 < id
  | [], y, h => by simp at h
  | z :: A, y, h => by
    unfold pos at h
    rw [List.takeWhile_cons] at h
    split at h
    · exact pos_at (A := A) (by unfold pos; simpa using h)
    · rename_i hz
      have : z = y := by simpa using h
      subst this
      simpa using hz

end Go.Proofs.YtamobmjfdiecbaaDoor

/- GrQ: the document's own grid: Put. Conditions: those of each theorem, on its arguments. -/
namespace Go.Proofs.YtamobmjfdiecbaaDoor
open Go Go.Sx Go.Fp
attribute [local irreducible] jn lv ld st nw asI asB asP asS asY asM asF asA asT lp rn ru rq cl dw dr bnd bn2 nz nn hd hr so eqW
attribute [local irreducible] callOk

theorem iv_one {l : List Int} : ∀ u ∈ iv .i64 l, Sx.one u = true := by
  intro u hu
  obtain ⟨z, _, rfl⟩ := List.mem_map.1 hu
  rfl
theorem bcs_one {A : List (Int × Bx)} : ∀ u ∈ bcs A, Sx.one u = true := by
  intro u hu
  unfold bcs at hu
  obtain ⟨y, _, hu⟩ := List.mem_flatMap.1 hu
  simp only [Bx.cells, List.mem_cons, List.not_mem_nil, or_false] at hu
  rcases hu with rfl | rfl | rfl <;> rfl
theorem bcs_length (A : List (Int × Bx)) : (bcs A).length = A.length * 3 := fl_lenN (f := fun y : Int × Bx => y.2.cells) (fun _ => rfl) A
theorem ids_split (A : List (Int × Bx)) (i : Nat) : ids (A.take i) ++ ids (A.drop i) = ids A := by
  unfold ids iv
  rw [← List.map_append, ← List.map_append, List.take_append_drop]
theorem bcs_split (A : List (Int × Bx)) (i : Nat) : bcs (A.take i) ++ bcs (A.drop i) = bcs A := by
  unfold bcs
  rw [← List.flatMap_append, List.take_append_drop]
theorem ids_drop (A : List (Int × Bx)) (i : Nat) : (ids A).drop i = ids (A.drop i) := by simp [ids, iv]
theorem bcs_drop (A : List (Int × Bx)) {i : Nat} (hi : i ≤ A.length) : (bcs A).drop (i * 3) = bcs (A.drop i) := by
  have h := bcs_split A i
  have hl : (bcs (A.take i)).length = i * 3 := by rw [bcs_length, List.length_take]; congr 1; omega
  rw [← h, ← hl, List.drop_left]
set_option maxRecDepth 100000 in
theorem sB : SlN Tryd.prog 92 38 3 24 := ⟨rfl, ⟨_, _, rfl, rfl, rfl, rfl, rfl⟩, by decide⟩

theorem _root_.Go.Sx.Reads.dropN {w : World} {p : Option Addr} {c n s : Nat} {xs : List Value} (h : Reads w p xs) (hc : xs.length ≤ c * s) : Reads w (slp p c n s) (xs.drop (n * s)) := by
  by_cases h0 : xs.drop (n * s) = []
  · exact .inl h0
  · have hn : n * s < xs.length := by
      by_cases hh : n * s < xs.length
      · exact hh
      · exact absurd (List.drop_eq_nil_of_le (by omega)) h0
    rcases h with h | ⟨b, o, rfl, hx⟩
    · subst h; simp at hn
    · have hcn : c ≠ n := fun e => by subst e; omega
      have : slp (some ⟨b, o, Option.none⟩) c n s = some ⟨b, o + n * s, Option.none⟩ := by
        unfold slp
        rw [if_neg hcn]
        simp [add_mk]
      rw [this]
      refine .inr ⟨b, o + n * s, rfl, fun i v hv => ?_⟩
      rw [List.getElem?_drop] at hv
      have := hx _ _ hv
      rw [← this]
      congr 2
      omega
theorem slp_none {p : Option Addr} {c n s : Nat} (h : slp p c n s = none) : p = none := by
  unfold slp at h
  split at h
  · exact h
  · cases p with
    | none => rfl
    | some b => simp at h

/-- a list with one more, at a place -/
def insA (A : List (Int × Bx)) (i : Nat) (id : Int) (b : Bx) : List (Int × Bx) := A.take i ++ (id, b) :: A.drop i
theorem insA_length {A : List (Int × Bx)} {i : Nat} {id : Int} {b : Bx} (hi : i ≤ A.length) : (insA A i id b).length = A.length + 1 := by
  unfold insA
  rw [List.length_append, List.length_cons, List.length_take, List.length_drop]
  omega

/-- what Put tells -/
def rputE (s : Int) (A : List (Int × Bx)) (id : Int) (b : Bx) : Int := if id < 0 then 1 else if isAt A id = true then 180 else cellsE s b
def rputA (s : Int) (A : List (Int × Bx)) (id : Int) (b : Bx) : List (Int × Bx) := if rputE s A id b = 0 then insA A (pos A id) id b else A

theorem row_le {w : World} {base : Nat} {e : TypeId} {p : Option Addr} {c : Nat} {xs : List Value} (h : Row w base e p c xs) : xs.length ≤ c := by
  rcases h.cases with ⟨_, rfl, rfl⟩ | ⟨g, cur, _, _, _, h1, _⟩
  · simp
  · exact h1

theorem stx {w : World} {x : Nat} {cs : Array Value} {t : TypeId} (hd : w.heap[x]? = some (.cells cs t (0, 0))) {k : Nat} (hk : k < cs.size) {v : Value} (h1 : Sx.one v = true) {K : World → Prop}
    (hK : ∀ w', w'.heap[x]? = some (.cells (cs.setIfInBounds k v) t (0, 0)) → Ext (onl x) w w' → w'.heap.size = w.heap.size → K w') : dr (some ⟨x, 0, none⟩) fun a => Sx.st w (Addr.add a k) v K := by
  refine dr_i ?_
  rw [add_mk, Nat.zero_add]
  exact st_mk hd hk h1 (hK _ (blk_set hd _ _) (Ext.set w ⟨x, k, none⟩ v) (by simp [World.setCell]))

end Go.Proofs.YtamobmjfdiecbaaDoor

/- GrU: the document's own grid: Move and Drop. Conditions: those of each theorem, on its arguments. -/
namespace Go.Proofs.YtamobmjfdiecbaaDoor
open Go Go.Sx Go.Fp
attribute [local irreducible] jn lv ld st nw asI asB asP asS asY asM asF asA asT lp rn ru rq cl dw dr bnd bn2 nz nn hd hr so eqW
attribute [local irreducible] callOk

theorem add_add (a : Addr) (m n : Nat) : Addr.add (Addr.add a m) n = Addr.add a (m + n) := by
  by_cases hm : m = 0 <;> by_cases hn : n = 0 <;> simp [Addr.add, hm, hn, Nat.add_assoc]

theorem isAt_get {A : List (Int × Bx)} {id : Int} (h : isAt A id = true) : ∃ b, A[pos A id]? = some (id, b) := by
  unfold isAt at h
  split at h
  · rename_i y hy
    have : y.1 = id := by simpa using h
    exact ⟨y.2, by rw [hy, ← this]⟩
  · cases h

def rmoveE (s : Int) (A : List (Int × Bx)) (id : Int) (b : Bx) : Int := if isAt A id = true then cellsE s b else 181
def rmoveA (s : Int) (A : List (Int × Bx)) (id : Int) (b : Bx) : List (Int × Bx) := if rmoveE s A id b = 0 then A.set (pos A id) (id, b) else A

/-! ### Drop -/
def remA (A : List (Int × Bx)) (i : Nat) : List (Int × Bx) := A.take i ++ A.drop (i + 1)
def rdropE (A : List (Int × Bx)) (id : Int) : Int := if isAt A id = true then 0 else 181
def rdropA (A : List (Int × Bx)) (id : Int) : List (Int × Bx) := if rdropE A id = 0 then remA A (pos A id) else A

end Go.Proofs.YtamobmjfdiecbaaDoor

/- WoS: the document's own world: place, Kill, Get. Conditions: those of each theorem, on its arguments. -/
namespace Go.Proofs.YtamobmjfdiecbaaDoor
open Go Go.Sx Go.Fp
attribute [local irreducible] jn lv ld st nw asI asB asP asS asY asM asF asA asT lp rn ru rq cl dw dr bnd bn2 nz nn hd hr so eqW
attribute [local irreducible] callOk

def plc (S : List Spot) (h : Int) : Int := match atI S h with
  | some i => (i : Int)
  | none => -1

theorem XW.addT {w : World} {x : Nat} {S : List Spot} (h : XW w x S) {i : Nat} {s : Spot} (hi : S[i]? = some s) : w.cell? (Addr.add (Addr.add ⟨x, 0, none⟩ 64) (i * 1)) = some (.bool s.there) := by
  rw [add_mk, add_mk, ← h.there hi]
  congr 2
  omega
theorem XW.addE {w : World} {x : Nat} {S : List Spot} (h : XW w x S) {i : Nat} {s : Spot} (hi : S[i]? = some s) {k : Nat} (hk : k < 8) : w.cell? (Addr.add (Addr.add (Addr.add ⟨x, 0, none⟩ 128) (i * 8)) k) = s.e.cells[k]? := by
  rw [add_mk, add_mk, add_mk, ← h.ent hi hk]
  congr 2
  omega

theorem place19_k {w : World} {x : Nat} {S : List Spot} {n : Nat} (hX : XW w x S) (hG : Good n S) {h : Int} {K : Value → World → Prop} (hK : K (.int .i64 (plc S h)) w) : cl Tryd.prog 40 #[.pointer (some ⟨x, 0, none⟩), .int .i64 h] w K := by
  have h64 := hX.len
  apply F40_calls
  unfold F40
  refine lv_i (lv_i ?_)
  refine lp_mk (fun i : Nat => [.int .i64 (i : Int)]) (fun m i w' => m = 64 - i ∧ i ≤ 64 ∧ w' = w ∧ ∀ j s, j < i → S[j]? = some s → ¬ (s.there = true ∧ s.e.h = h)) 64 0 rfl ⟨rfl, Nat.zero_le _, rfl, fun j s hj => absurd hj (by omega)⟩ ?_
  rintro _ i w ⟨rfl, hi, rfl, hno⟩ J hJ
  refine asI_i rfl (cond_split (fun hc => ?_) (fun hc => ?_))
  · have hil : i < 64 := by
      have := of_decide_eq_true hc
      omega
    have ei : IntKind.wrap .i64 ((i : Int) + 1) = ((i + 1 : Nat) : Int) := by rw [wr64 (by omega) (by omega)]; omega
    have hs : S[i]? = some S[i] := List.getElem?_eq_getElem (by omega)
    generalize S[i] = s at hs
    rw [ei, Int.toNat_natCast]
    refine jn_of (fun t w' => t = [.bool (s.there && (s.e.h == h))] ∧ w' = w) ?_ ?_
    · rintro _ w ⟨rfl, rfl⟩
      refine asB_i rfl (cond_split (fun hm => lv_i ?_) (fun hm => lv_i (hJ (64 - (i + 1)) (i + 1) w (by omega) ⟨rfl, by omega, rfl, fun j t hj ht => ?_⟩)))
      · simp only [Bool.and_eq_true, beq_iff_eq] at hm
        have hat := hG.at hs hm.1
        rw [hm.2] at hat
        have : plc S h = (i : Int) := by unfold plc; rw [hat]
        rw [this] at hK
        exact hK
      · by_cases hj' : j = i
        · subst hj'
          rw [hs] at ht
          cases ht
          rintro ⟨h1, h2⟩
          rw [h1, h2] at hm
          simp at hm
        · exact hno j t (by omega) ht
    · intro J2 hJ2
      refine dr_i (bnd_mk (by omega) (by omega) (ld_mk (hX.addT hs) (asB_i rfl (cond_split (fun ht => ?_) (fun ht => hJ2 _ _ ⟨?_, rfl⟩)))))
      · have h0 := hX.addE hs (k := 0) (by decide)
        rw [Sx.add_zero'] at h0
        refine dr_i (bnd_mk (by omega) (by omega) (ld_mk h0 (asI_i rfl (hJ2 _ _ ⟨?_, rfl⟩))))
        rw [ht]
        rfl
      · rw [ht]
        rfl
  · have hil : i = 64 := by
      have := of_decide_eq_false hc
      omega
    have hat : atI S h = none := none_atI fun s hs => hno _ s (by have := (List.getElem?_eq_some_iff.1 hs).1; omega) hs
    have : plc S h = -1 := by unfold plc; rw [hat]
    rw [this] at hK
    exact lv_i hK

/-- a cell of the document's world is written -/
theorem XW.st {w : World} {x : Nat} {S : List Spot} (h : XW w x S) {j : Nat} {v : Value} (h1 : Sx.one v = true) (hj : j < 640) (S' : List Spot) (hS : (xw S).set j v = xw S') (hl : S'.length = 64) {K : World → Prop} {A : Addr} (hA : A = ⟨x, j, none⟩)
    (hK : ∀ w', XW w' x S' → Ext (onl x) w w' → w'.heap.size = w.heap.size → K w') : Sx.st w A v K := by
  subst hA
  have hlen : (xw S).length = 640 := by
    unfold xw
    have := fl_lenN (f := fun s : Spot => s.e.cells) (s := 8) (fun _ => rfl) S
    rw [List.length_append, List.length_append, List.length_map, List.length_map, this, h.len]
  refine st_mk h.blk (by simp [hlen]; exact hj) h1 (hK _ ⟨?_, hl⟩ (Ext.set w ⟨x, j, none⟩ v) (by simp [World.setCell]))
  have := blk_set h.blk j v
  rw [this, ← hS]
  simp

theorem xw_there {S : List Spot} (hl : S.length = 64) {i : Nat} {s : Spot} (hi : S[i]? = some s) (t : Bool) : (xw S).set (64 + i) (.bool t) = xw (S.set i ⟨s.gen, t, s.e⟩) := by
  have hil := (List.getElem?_eq_some_iff.1 hi).1
  have e1 : (S.set i ⟨s.gen, t, s.e⟩).map (fun s => Value.int .i64 s.gen) = S.map fun s => Value.int .i64 s.gen := by
    apply List.ext_getElem?
    intro k
    simp only [List.getElem?_map]
    by_cases hk : i = k
    · subst hk; rw [List.getElem?_set_self hil, hi]; rfl
    · rw [List.getElem?_set_ne hk]
  have e2 : (S.set i ⟨s.gen, t, s.e⟩).map (fun s => Value.bool s.there) = (S.map fun s => Value.bool s.there).set i (.bool t) := by rw [List.map_set]
  have e3 : (S.set i ⟨s.gen, t, s.e⟩).flatMap (fun s => s.e.cells) = S.flatMap fun s => s.e.cells := by
    rw [List.flatMap_def, List.flatMap_def]
    congr 1
    apply List.ext_getElem?
    intro k
    simp only [List.getElem?_map]
    by_cases hk : i = k
    · subst hk; rw [List.getElem?_set_self hil, hi]; rfl
    · rw [List.getElem?_set_ne hk]
  unfold xw
  rw [e1, e2, e3, List.set_append_right _ _ (by simp [hl]), List.set_append_left _ _ (by simp [hl]; omega)]
  simp [hl]

theorem kill19_k {w : World} {x : Nat} {S : List Spot} {n : Nat} (hX : XW w x S) (hG : Good n S) {h : Int} {K : Value → World → Prop}
    (hnone : atI S h = none → K (.int .i64 190) w)
    (hok : ∀ w' i s, atI S h = some i → S[i]? = some s → XW w' x (S.set i ⟨s.gen, false, s.e⟩) → Ext (onl x) w w' → K (.int .i64 0) w') :
    cl Tryd.prog 25 #[.pointer (some ⟨x, 0, none⟩), .int .i64 h] w K := by
  apply F25_calls
  unfold F25
  refine lv_i (place19_k hX hG (asI_i rfl (lv_i ?_)))
  unfold plc
  cases hat : atI S h with
  | none => exact cond_t rfl (lv_i (hnone hat))
  | some i =>
    have hS : ∃ s, S[i]? = some s := by
      unfold atI at hat
      split at hat
      · cases hat
      · split at hat
        · rename_i s hs
          split at hat
          · cases hat
            exact ⟨s, hs⟩
          · cases hat
        · cases hat
    obtain ⟨s, hs⟩ := hS
    have hil := (List.getElem?_eq_some_iff.1 hs).1
    have h64 := hX.len
    refine cond_f (by first | (simp; done) | (simp; omega)) (dr_i (bnd_mk (by simp) (by first | (simp; done) | (simp; omega)) ?_))
    simp only [Int.toNat_natCast]
    refine hX.st (j := 64 + i) rfl (by omega) (S.set i ⟨s.gen, false, s.e⟩) (xw_there h64 hs false) (by rw [List.length_set]; exact h64) (by rw [add_mk, add_mk]; congr 1; omega) fun w' hX' hx _ => lv_i (hok w' i s hat hs hX' hx)
end Go.Proofs.YtamobmjfdiecbaaDoor

/- WoT: the document's own world: Get, Set, Spawn. Conditions: those of each theorem, on its arguments. -/
namespace Go.Proofs.YtamobmjfdiecbaaDoor
open Go Go.Sx Go.Fp
attribute [local irreducible] jn lv ld st nw asI asB asP asS asY asM asF asA asT lp rn ru rq cl dw dr bnd bn2 nz nn hd hr so eqW
attribute [local irreducible] callOk

theorem map_same {β : Type} {f : Spot → β} {S : List Spot} {i : Nat} {s t : Spot} (hi : S[i]? = some s) (h : f t = f s) : (S.set i t).map f = S.map f := by
  apply List.ext_getElem?
  intro k
  simp only [List.getElem?_map]
  by_cases hk : i = k
  · subst hk; rw [List.getElem?_set_self (List.getElem?_eq_some_iff.1 hi).1, hi]; simp [h]
  · rw [List.getElem?_set_ne hk]
theorem fl_same {S : List Spot} {i : Nat} {s t : Spot} (hi : S[i]? = some s) (h : t.e = s.e) : (S.set i t).flatMap (fun s => s.e.cells) = S.flatMap fun s => s.e.cells := by
  rw [List.flatMap_def, List.flatMap_def, map_same (f := fun s : Spot => s.e.cells) hi (by simp only [h])]
theorem xw_gen {S : List Spot} (_hl : S.length = 64) {i : Nat} {s : Spot} (hi : S[i]? = some s) (g : Int) : (xw S).set i (.int .i64 g) = xw (S.set i ⟨g, s.there, s.e⟩) := by
  have hil := (List.getElem?_eq_some_iff.1 hi).1
  unfold xw
  rw [map_same (f := fun s : Spot => Value.bool s.there) (t := ⟨g, s.there, s.e⟩) hi rfl, fl_same (t := ⟨g, s.there, s.e⟩) hi rfl, List.set_append_left _ _ (by simp; exact hil), List.map_set]
theorem xw_ent {S : List Spot} (hl : S.length = 64) {i : Nat} {s : Spot} (hi : S[i]? = some s) {k : Nat} (hk : k < 8) {v : Value} {e' : Ent} (he : s.e.cells.set k v = e'.cells) : (xw S).set (128 + (i * 8 + k)) v = xw (S.set i ⟨s.gen, s.there, e'⟩) := by
  unfold xw
  have h3 := fl_setN (f := fun s : Spot => s.e.cells) (n := 8) (fun _ => rfl) (y := ⟨s.gen, s.there, e'⟩) hi hk he
  rw [map_same (f := fun s : Spot => Value.int .i64 s.gen) (t := ⟨s.gen, s.there, e'⟩) hi rfl, map_same (f := fun s : Spot => Value.bool s.there) (t := ⟨s.gen, s.there, e'⟩) hi rfl, ← h3]
  rw [List.set_append_right _ _ (by simp [hl]; omega), List.set_append_right _ _ (by simp [hl]; omega), List.length_map, List.length_map, hl, show 128 + (i * 8 + k) - 64 - 64 = i * 8 + k from by omega]

theorem XW.st8 {w : World} {x : Nat} {S : List Spot} (h : XW w x S) {i : Nat} {s : Spot} (hi : S[i]? = some s) (e : Ent) {A : Addr} (hA : A = ⟨x, 128 + i * 8, none⟩) {K : World → Prop}
    (hK : ∀ w', XW w' x (S.set i ⟨s.gen, s.there, e⟩) → Ext (onl x) w w' → K w') :
    Sx.st w A (.int .i64 e.h) fun w1 => Sx.st w1 (Addr.add A 1) (.int .i64 e.x) fun w2 => Sx.st w2 (Addr.add A 2) (.int .i64 e.y) fun w3 => Sx.st w3 (Addr.add A 3) (.int .i64 e.r) fun w4 =>
      Sx.st w4 (Addr.add A 4) (.int .i64 e.vx) fun w5 => Sx.st w5 (Addr.add A 5) (.int .i64 e.vy) fun w6 => Sx.st w6 (Addr.add A 6) (.int .i64 e.o) fun w7 => Sx.st w7 (Addr.add A 7) (.int .i64 e.t) fun w8 => K w8 := by
  subst hA
  have hil := (List.getElem?_eq_some_iff.1 hi).1
  have h64 := h.len
  have ea : ∀ k, Addr.add ⟨x, 128 + i * 8, none⟩ k = ⟨x, 128 + (i * 8 + k), none⟩ := fun k => by rw [add_mk]; congr 1; omega
  have one : ∀ {w : World} {S : List Spot} {s : Spot} {k : Nat} {v : Value} {e' : Ent} {K : World → Prop}, XW w x S → S[i]? = some s → S.length = 64 → k < 8 → Sx.one v = true → s.e.cells.set k v = e'.cells → (∀ w', XW w' x (S.set i ⟨s.gen, s.there, e'⟩) → Ext (onl x) w w' → K w') → Sx.st w ⟨x, 128 + (i * 8 + k), none⟩ v K := by
    intro w S s k v e' K hX hi hl hk h1 he hK
    exact hX.st h1 (by have := (List.getElem?_eq_some_iff.1 hi).1; omega) _ (xw_ent hl hi hk he) (by rw [List.length_set]; exact hl) rfl fun w' h1 h2 _ => hK w' h1 h2
  simp only [ea]
  have g1 : ∀ q : Spot, (S.set i q)[i]? = some q := fun q => List.getElem?_set_self hil
  have l1 : ∀ q : Spot, (S.set i q).length = 64 := fun q => by rw [List.length_set]; exact h64
  refine one (k := 0) (e' := { s.e with h := e.h }) h hi h64 (by decide) rfl rfl fun w1 h1 x1 => ?_
  refine one (k := 1) (e' := { s.e with h := e.h, x := e.x }) h1 (g1 _) (l1 _) (by decide) rfl rfl fun w2 h2 x2 => ?_
  rw [List.set_set] at h2
  refine one (k := 2) (e' := { s.e with h := e.h, x := e.x, y := e.y }) h2 (g1 _) (l1 _) (by decide) rfl rfl fun w3 h3 x3 => ?_
  rw [List.set_set] at h3
  refine one (k := 3) (e' := { s.e with h := e.h, x := e.x, y := e.y, r := e.r }) h3 (g1 _) (l1 _) (by decide) rfl rfl fun w4 h4 x4 => ?_
  rw [List.set_set] at h4
  refine one (k := 4) (e' := { s.e with h := e.h, x := e.x, y := e.y, r := e.r, vx := e.vx }) h4 (g1 _) (l1 _) (by decide) rfl rfl fun w5 h5 x5 => ?_
  rw [List.set_set] at h5
  refine one (k := 5) (e' := { s.e with h := e.h, x := e.x, y := e.y, r := e.r, vx := e.vx, vy := e.vy }) h5 (g1 _) (l1 _) (by decide) rfl rfl fun w6 h6 x6 => ?_
  rw [List.set_set] at h6
  refine one (k := 6) (e' := { s.e with h := e.h, x := e.x, y := e.y, r := e.r, vx := e.vx, vy := e.vy, o := e.o }) h6 (g1 _) (l1 _) (by decide) rfl rfl fun w7 h7 x7 => ?_
  rw [List.set_set] at h7
  refine one (k := 7) (e' := e) h7 (g1 _) (l1 _) (by decide) rfl rfl fun w8 h8 x8 => ?_
  rw [List.set_set] at h8
  exact hK w8 h8 (((((((x1.trans x2).trans x3).trans x4).trans x5).trans x6).trans x7).trans x8)

theorem atI_some {S : List Spot} {h : Int} {i : Nat} (hat : atI S h = some i) : ∃ s, S[i]? = some s ∧ s.there = true ∧ s.e.h = h := by
  unfold atI at hat
  split at hat
  · cases hat
  · split at hat
    · rename_i s hs
      split at hat
      · rename_i hh
        cases hat
        exact ⟨s, hs, hh⟩
      · cases hat
    · cases hat

end Go.Proofs.YtamobmjfdiecbaaDoor

/- WoU: the document's own world: Set and Spawn. Conditions: those of each theorem, on its arguments. -/
namespace Go.Proofs.YtamobmjfdiecbaaDoor
open Go Go.Sx Go.Fp
attribute [local irreducible] jn lv ld st nw asI asB asP asS asY asM asF asA asT lp rn ru rq cl dw dr bnd bn2 nz nn hd hr so eqW
attribute [local irreducible] callOk

theorem st_blk {w : World} {r : Nat} {cs : Array Value} {t : TypeId} (hb : w.heap[r]? = some (.cells cs t (0, 0))) {k : Nat} (hk : k < cs.size) {v : Value} (h1 : Sx.one v = true) {K : World → Prop}
    (hK : ∀ w', w'.heap[r]? = some (.cells (cs.setIfInBounds k v) t (0, 0)) → Ext (onl r) w w' → w'.heap.size = w.heap.size → K w') : Sx.st w ⟨r, k, none⟩ v K :=
  st_mk hb hk h1 (hK _ (blk_set hb _ _) (Ext.set w ⟨r, k, none⟩ v) (by simp [World.setCell]))

/-- the entity of a block -/
theorem rd8 {w : World} {r : Nat} {e : Ent} {t : TypeId} (hb : w.heap[r]? = some (.cells e.cells.toArray t (0, 0))) : ∀ k, k < 8 → w.cell? (Addr.add ⟨r, 0, none⟩ k) = e.cells[k]? := fun k _ => by
  rw [add_mk, blk_cell hb]
  simp

set_option maxHeartbeats 2000000 in
theorem spawn19_k {w : World} {x : Nat} {S : List Spot} {n : Nat} (hX : XW w x S) (hG : Good n S) (hn : n ≤ 1000000) {e : Ent} {K : Value → World → Prop}
    (hbad : ∀ w', Ext no w w' → e.rightE ≠ 0 → K (.tuple #[.int .i64 0, .int .i64 e.rightE]) w')
    (hfull : ∀ w', Ext no w w' → e.rightE = 0 → (∀ (j : Nat) s, S[j]? = some s → free s = false) → K (.tuple #[.int .i64 0, .int .i64 2]) w')
    (hok : ∀ w' i s, e.rightE = 0 → IsFree S i s → XW w' x (S.set i (spn s i e)) → Ext (onl x) w w' → K (.tuple #[.int .i64 ((s.gen + 1) * 64 + (i : Int)), .int .i64 0]) w') :
    cl Tryd.prog 23 #[.pointer (some ⟨x, 0, none⟩), e.v] w K := by
  have h64 := hX.len
  apply F23_calls
  unfold F23
  refine (St.start w).nw (cs := e.cells) fun r1 w1 hS => lv_i (lv_i ?_)
  refine ld8c (e := e) (rd8 (hS.kn _ List.mem_cons_self).1) ?_
  refine rright19_k (e := e) fun w2 hx2 => asI_i rfl (lv_i (cond_split (fun hc => lv_i (lv_i ?_)) (fun hc => ?_)))
  · exact hbad w2 (hS.ext.trans hx2) (by simpa using hc)
  have h0 : e.rightE = 0 := by simpa using hc
  replace hS := hS.to hx2
  have hfr : ∀ (j : Nat) s, S[j]? = some s → free s = !s.there := fun j s hs => by
    obtain ⟨_, _, h2, _⟩ := hG j s hs
    unfold free
    have : (s.gen == 1099511627776) = false := by simp; omega
    rw [this]
    simp
  refine lv_i (lp_mk (fun i : Nat => [.int .i64 (i : Int)]) (fun m i w' => m = 64 - i ∧ i ≤ 64 ∧ w' = w2 ∧ ∀ j s, j < i → S[j]? = some s → free s = false) 64 0 rfl ⟨rfl, Nat.zero_le _, rfl, fun j s hj => absurd hj (by omega)⟩ ?_)
  rintro _ i w3 ⟨rfl, hi, rfl, hno⟩ J hJ
  have hX3 := hX.ext hS.ext fun h => h
  refine asI_i rfl (cond_split (fun hc => ?_) (fun hc => lv_i (lv_i (hfull w3 hS.ext h0 fun j s hs => hno j s (by
    have := of_decide_eq_false hc
    have := (List.getElem?_eq_some_iff.1 hs).1
    omega) hs))))
  have hil : i < 64 := by
    have := of_decide_eq_true hc
    omega
  have ei : IntKind.wrap .i64 ((i : Int) + 1) = ((i + 1 : Nat) : Int) := by rw [wr64 (by omega) (by omega)]; omega
  have hs : S[i]? = some S[i] := List.getElem?_eq_getElem (by omega)
  generalize S[i] = s at hs
  obtain ⟨_, hg0, hg1, _⟩ := hG i s hs
  have hfs := hfr i s hs
  rw [ei, Int.toNat_natCast]
  have hgen : ∀ {w' : World} {S' : List Spot} {s' : Spot}, XW w' x S' → S'[i]? = some s' → w'.cell? (Addr.add ⟨x, 0, none⟩ (i * 1)) = some (.int .i64 s'.gen) := fun hX hs => by
    rw [add_mk, ← hX.gen hs]
    congr 2
    omega
  refine jn_of (fun t w' => t = [.bool (free s)] ∧ w' = w3) ?_ ?_
  rotate_left
  · intro J2 hJ2
    refine dr_i (bnd_mk (by omega) (by omega) (ld_mk (hX3.addT hs) (asB_i rfl (cond_split (fun ht => ?_) (fun ht => hJ2 _ _ ⟨?_, rfl⟩)))))
    · refine dr_i (bnd_mk (by omega) (by omega) (ld_mk (hgen hX3 hs) (asI_i rfl (hJ2 _ _ ⟨?_, rfl⟩))))
      rw [hfs, ht, decide_eq_true (by omega)]
    · rw [hfs, ht]
  rintro _ w3 ⟨rfl, rfl⟩
  refine asB_i rfl (cond_split (fun hf => ?_) (fun hf => lv_i (hJ (64 - (i + 1)) (i + 1) w3 (by omega) ⟨rfl, by omega, rfl, fun j t hj ht => ?_⟩)))
  rotate_left
  · by_cases hj' : j = i
    · subst hj'
      rw [hs] at ht
      cases ht
      exact hf
    · exact hno j t (by omega) ht
  have hfree : IsFree S i s := ⟨hs, hf, fun j t hj ht => hno j t hj ht⟩
  have hrx : r1 ≠ x := by
    have h1 := (hS.kn _ List.mem_cons_self).2
    have h2 := blk_lt hX.blk
    simp only at h1
    omega
  refine dw_mk ?_
  replace hS := hS.to (Ext.drew w3)
  generalize w3.drew = w4 at *
  have hX4 := hX.ext hS.ext fun h => h
  refine dr_i (bnd_mk (by omega) (by omega) (ld_mk (hgen hX4 hs) (asI_i rfl (dr_i (bnd_mk (by omega) (by omega) ?_)))))
  rw [wr64 (n := s.gen + 1) (by omega) (by omega)]
  refine hX4.st (j := i) rfl (by omega) _ (xw_gen h64 hs (s.gen + 1)) (by rw [List.length_set]; exact h64) (by rw [add_mk]; congr 1; omega) fun w5 hX5 hx5 _ => ?_
  have hb5 := hx5.blk (hS.kn _ List.mem_cons_self).1 hrx
  simp only at hb5
  have g1 : ∀ q : Spot, (S.set i q)[i]? = some q := fun q => List.getElem?_set_self (by omega)
  refine dr_i (bnd_mk (by omega) (by omega) (ld_mk (hgen hX5 (g1 _)) (asI_i rfl ?_)))
  rw [wr64 (n := (s.gen + 1) * 64) (by omega) (by omega), wr64 (n := (s.gen + 1) * 64 + (i : Int)) (by omega) (by omega)]
  refine st_blk hb5 (k := 0) (by simp [Ent.cells]) rfl fun w6 hb6 hx6 _ => ?_
  have hX6 := hX5.ext hx6 fun h => hrx (show x = r1 from h).symm
  replace hb6 : w6.heap[r1]? = some (.cells (Ent.cells { e with h := (s.gen + 1) * 64 + (i : Int) }).toArray 40 (0, 0)) := hb6
  refine dr_i (bnd_mk (by omega) (by omega) ?_)
  refine hX6.st (j := 64 + i) rfl (by omega) _ (xw_there hX6.len (g1 _) true) (by rw [List.length_set]; exact hX6.len) (by rw [add_mk, add_mk]; congr 1; omega) fun w7 hX7 hx7 _ => ?_
  rw [List.set_set] at hX7
  have hb7 := hx7.blk hb6 hrx
  refine dw_mk ?_
  replace hX7 := hX7.ext (Ext.drew w7) fun h => h
  replace hb7 := (Ext.drew w7).blk hb7 fun h => h
  have hx7' := hx7.then (Ext.drew w7) fun k _ hk => hk.elim
  generalize w7.drew = w8 at *
  refine ld8c (e := { e with h := (s.gen + 1) * 64 + (i : Int) }) (rd8 hb7) ?_
  refine dr_i (bnd_mk (by omega) (by omega) ?_)
  refine hX7.st8 (g1 _) { e with h := (s.gen + 1) * 64 + (i : Int) } (by rw [add_mk, add_mk] <;> (congr 1; omega)) fun w9 hX9 hx9 => ?_
  rw [List.set_set] at hX9
  have hb9 := hx9.blk hb7 hrx
  have h09 := rd8 (e := { e with h := (s.gen + 1) * 64 + (i : Int) }) hb9 0 (by decide)
  rw [Sx.add_zero'] at h09
  refine ld_mk h09 (asI_i rfl (lv_i (lv_i (hok w9 i s h0 hfree hX9 ?_))))
  have e1 : Ext (onl x) w w5 := (Ext.of_no hS.ext).trans hx5
  have e2 : Ext (onl x) w w6 := e1.then hx6 fun k hk hkr => by
    have : k = r1 := hkr
    have h1 := (hS.kn _ List.mem_cons_self).2
    simp only at h1
    omega
  exact (e2.trans hx7').trans hx9
end Go.Proofs.YtamobmjfdiecbaaDoor

/- WoV: the document's own world: List and Near. Conditions: those of each theorem, on its arguments. -/
namespace Go.Proofs.YtamobmjfdiecbaaDoor
open Go Go.Sx Go.Fp
attribute [local irreducible] jn lv ld st nw asI asB asP asS asY asM asF asA asT lp rn ru rq cl dw dr bnd bn2 nz nn hd hr so eqW
attribute [local irreducible] callOk

end Go.Proofs.YtamobmjfdiecbaaDoor

/- WoW: who is there, on: kills and moves keep the grid and the places together. Conditions: those of each theorem, on its arguments. -/
namespace Go.Proofs.YtamobmjfdiecbaaDoor
open Go Go.Sx Go.Fp

theorem Lies.kill {S : List Spot} {B : List (Int × Bx)} {D : List ((Int × Int) × List Int)} (h : Lies S B D) (hB : (B.map (·.1)).Nodup) (hD : (D.map (·.1)).Nodup) {i : Nat} {s : Spot} (hs : S[i]? = some s) : Lies (S.set i ⟨s.gen, false, s.e⟩) (gdropB B (i : Int)) (gdropD wside B D (i : Int)) := by
  have hil := (List.getElem?_eq_some_iff.1 hs).1
  refine ⟨h.cons.drop hB hD _, fun j t ht hth => ?_, fun x b hx => ?_⟩
  · rw [get_drop hB]
    by_cases hj : j = i
    · subst hj
      rw [List.getElem?_set_self hil] at ht
      cases ht
      cases hth
    · rw [List.getElem?_set_ne (fun e => hj e.symm)] at ht
      rw [if_neg (by omega)]
      exact h.to j t ht hth
  · rw [get_drop hB] at hx
    split at hx
    · cases hx
    · rename_i hne
      obtain ⟨j, t, h1, h2, h3, h4⟩ := h.of x b hx
      have hj : ¬ i = j := fun e => hne (by omega)
      exact ⟨j, t, h1, by rw [List.getElem?_set_ne hj]; exact h2, h3, h4⟩

theorem Lies.move {S : List Spot} {B : List (Int × Bx)} {D : List ((Int × Int) × List Int)} (h : Lies S B D) (hB : (B.map (·.1)).Nodup) (hD : (D.map (·.1)).Nodup) {i : Nat} {s : Spot} (hs : S[i]? = some s) (hth : s.there = true) {e : Ent} (he : e.rightE = 0) (hh : Int) :
    Lies (S.set i ⟨s.gen, s.there, { e with h := hh }⟩) (gmoveB wside B (i : Int) e.box) (gmoveD wside B D (i : Int) e.box) := by
  have hil := (List.getElem?_eq_some_iff.1 hs).1
  have hE : gmoveE wside B (i : Int) e.box = 0 := by
    unfold gmoveE
    rw [h.to i s hs hth]
    exact box_cells he
  refine ⟨h.cons.move hB hD _ _, fun j t ht htt => ?_, fun x b hx => ?_⟩
  · rw [get_move hB]
    by_cases hj : j = i
    · subst hj
      rw [List.getElem?_set_self hil] at ht
      cases ht
      rw [if_pos ⟨hE, rfl⟩]
      rfl
    · rw [List.getElem?_set_ne (fun e => hj e.symm)] at ht
      rw [if_neg (fun hh => hj (by have := hh.2; omega))]
      exact h.to j t ht htt
  · rw [get_move hB] at hx
    split at hx
    · rename_i hc
      cases hx
      exact ⟨i, _, hc.2, List.getElem?_set_self hil, hth, rfl⟩
    · rename_i hne
      obtain ⟨j, t, h1, h2, h3, h4⟩ := h.of x b hx
      have hj : ¬ i = j := fun e => hne ⟨hE, by omega⟩
      exact ⟨j, t, h1, by rw [List.getElem?_set_ne hj]; exact h2, h3, h4⟩

theorem Good.kill {n : Nat} {S : List Spot} (h : Good n S) {i : Nat} {s : Spot} (hs : S[i]? = some s) : Good n (S.set i ⟨s.gen, false, s.e⟩) := fun j t ht => by
  rcases set_cases (t := ⟨s.gen, false, s.e⟩) hs j with ⟨rfl, e⟩ | ⟨_, e⟩
  · rw [e] at ht
    cases ht
    obtain ⟨h0, h1, h2, _⟩ := h j s hs
    exact ⟨h0, h1, h2, fun h => by cases h⟩
  · rw [e] at ht
    exact h j t ht
theorem Good.setE {n : Nat} {S : List Spot} (h : Good n S) {i : Nat} {s : Spot} (hs : S[i]? = some s) (hth : s.there = true) {e : Ent} (he : e.rightE = 0) (hI : e.I) {hh : Int} (hx : s.e.h = hh) : Good n (S.set i ⟨s.gen, s.there, { e with h := hh }⟩) := fun j t ht => by
  rcases set_cases (t := ⟨s.gen, s.there, { e with h := hh }⟩) hs j with ⟨rfl, e1⟩ | ⟨_, e1⟩
  · rw [e1] at ht
    cases ht
    obtain ⟨h0, h1, h2, h3⟩ := h j s hs
    obtain ⟨_, h5, h6, h7⟩ := h3 hth
    refine ⟨h0, h1, h2, fun _ => ⟨he, ?_, h6, ?_⟩⟩
    · show hh = _
      rw [← hx]
      exact h5
    · refine ⟨?_, hI.2⟩
      rw [← hx]
      exact h7.1
  · rw [e1] at ht
    exact h j t ht
end Go.Proofs.YtamobmjfdiecbaaDoor

/- PhA: a step of a world, in plain Lean: who turns, how far, whom it touches. No condition beyond each theorem's own. -/
namespace Go.Proofs.YtamobmjfdiecbaaDoor
open Go Go.Sx Go.Fp

def Ent.vel (e : Ent) (k : Bool) : Int := if k then e.vy else e.vx
def Ent.setk (e : Ent) (k : Bool) (a v : Int) : Ent := if k then { e with y := a, vy := v } else { e with x := a, vx := v }
def clp (t : Int) : Int := if (if (4398046511104 : Int) < t then (4398046511104 : Int) else t) > (-4398046511104 : Int) then (if (4398046511104 : Int) < t then (4398046511104 : Int) else t) else (-4398046511104 : Int)
def oth (L : List Ent) (h : Int) : List Ent := L.filter fun o => o.h != h
def kI (k : Bool) : Int := if k then 1 else 0
theorem kI_ne (k : Bool) : (kI k != 0) = k := by cases k <;> rfl
def turnP (L : List Ent) (e : Ent) (k : Bool) : Int × Int × Int := pushV e.box (kI k) (e.vel k) ((oth L e.h).map Ent.box)
def turnE (L : List Ent) (e : Ent) (k : Bool) : Ent × Int :=
  if clp (e.box.at k + (turnP L e k).1) ≠ e.box.at k + (turnP L e k).1 then (e.setk k (clp (e.box.at k + (turnP L e k).1)) 0, 0)
  else if 0 ≤ (turnP L e k).2.1 then (e.setk k (e.box.at k + (turnP L e k).1) 0, ((oth L e.h).map (·.h)).getD (turnP L e k).2.1.toNat 0)
  else (e.setk k (e.box.at k + (turnP L e k).1) (e.vel k), 0)

theorem clp_iff {t : Int} : clp t = if t < -4398046511104 then -4398046511104 else if 4398046511104 < t then 4398046511104 else t := by
  unfold clp
  by_cases h1 : 4398046511104 < t
  · rw [if_pos h1, if_pos (by decide), if_neg (by omega)]
  · rw [if_neg h1]
    by_cases h2 : t < -4398046511104
    · rw [if_neg (by omega), if_pos h2]
    · rw [if_neg h2]
      by_cases h3 : t > -4398046511104
      · rw [if_pos h3]
      · rw [if_neg h3]; omega
theorem clp_rng (t : Int) : -4398046511104 ≤ clp t ∧ clp t ≤ 4398046511104 := by
  rw [clp_iff]
  split
  · decide
  · split
    · decide
    · omega
theorem clp_id {t : Int} (h : -4398046511104 ≤ t ∧ t ≤ 4398046511104) : clp t = t := by
  rw [clp_iff, if_neg (by omega), if_neg (by omega)]

theorem setk_h (e : Ent) (k : Bool) (a v : Int) : (e.setk k a v).h = e.h := by cases k <;> rfl
theorem turnE_h (L : List Ent) (e : Ent) (k : Bool) : (turnE L e k).1.h = e.h := by
  unfold turnE
  split
  · exact setk_h _ _ _ _
  · split <;> exact setk_h _ _ _ _

theorem argOk_iff {e : Ent} : e.argOk = true ↔ (-17179869184 ≤ e.vx ∧ e.vx ≤ 17179869184) ∧ (-17179869184 ≤ e.vy ∧ e.vy ≤ 17179869184) ∧ 0 ≤ e.o ∧ e.o ≤ 8 := by
  simp only [Ent.argOk, inn, Bool.and_eq_true, decide_eq_true_eq]
  constructor
  · rintro ⟨⟨⟨h1, h2⟩, h3⟩, h4⟩; exact ⟨h1, h2, h3, h4⟩
  · rintro ⟨h1, h2, h3, h4⟩; exact ⟨⟨⟨h1, h2⟩, h3⟩, h4⟩
theorem boxOk_iff {e : Ent} : e.boxOk = true ↔ (-4398046511104 ≤ e.x ∧ e.x ≤ 4398046511104) ∧ (-4398046511104 ≤ e.y ∧ e.y ≤ 4398046511104) ∧ 1 ≤ e.r ∧ e.r ≤ 17179869184 := by
  simp only [Ent.boxOk, inn, Bool.and_eq_true, decide_eq_true_eq]
  constructor
  · rintro ⟨⟨⟨h1, h2⟩, h3⟩, h4⟩; exact ⟨h1, h2, h3, h4⟩
  · rintro ⟨h1, h2, h3, h4⟩; exact ⟨⟨⟨h1, h2⟩, h3⟩, h4⟩
theorem rightE_iff {e : Ent} : e.rightE = 0 ↔ e.boxOk = true ∧ e.argOk = true := by
  unfold Ent.rightE
  split
  · split
    · simp_all
    · simp_all
  · simp_all

theorem setk_right {e : Ent} (h : e.rightE = 0) {k : Bool} {a v : Int} (ha : -4398046511104 ≤ a ∧ a ≤ 4398046511104) (hv : v = 0 ∨ v = e.vel k) : (e.setk k a v).rightE = 0 := by
  obtain ⟨h1, h2⟩ := rightE_iff.1 h
  rw [boxOk_iff] at h1
  rw [argOk_iff] at h2
  have hv' : -17179869184 ≤ v ∧ v ≤ 17179869184 := by
    rcases hv with rfl | rfl
    · decide
    · cases k
      · exact h2.1
      · exact h2.2.1
  refine rightE_iff.2 ⟨boxOk_iff.2 ?_, argOk_iff.2 ?_⟩
  · cases k
    · exact ⟨ha, h1.2⟩
    · exact ⟨h1.1, ha, h1.2.2⟩
  · cases k
    · exact ⟨hv', h2.2⟩
    · exact ⟨h2.1, hv', h2.2.2⟩
theorem setk_I {e : Ent} (h : e.I) {k : Bool} {a v : Int} (ha : -4398046511104 ≤ a ∧ a ≤ 4398046511104) (hv : v = 0 ∨ v = e.vel k) : (e.setk k a v).I := by
  obtain ⟨h0, h1, h2, h3, h4, h5, h6, h7⟩ := h
  have ha' : I64 a := by unfold I64; omega
  have hv' : I64 v := by
    rcases hv with rfl | rfl
    · unfold I64; decide
    · cases k
      · exact h4
      · exact h5
  cases k
  · exact ⟨h0, ha', h2, h3, hv', h5, h6, h7⟩
  · exact ⟨h0, h1, ha', h3, h4, hv', h6, h7⟩

/-- what a turn makes of an entity: it stands at a place that may be, its way is what it was, or none -/
theorem turnE_cases (L : List Ent) (e : Ent) (k : Bool) : ∃ a v, (turnE L e k).1 = e.setk k a v ∧ (-4398046511104 ≤ a ∧ a ≤ 4398046511104) ∧ (v = 0 ∨ v = e.vel k) := by
  unfold turnE
  split
  · exact ⟨_, _, rfl, clp_rng _, .inl rfl⟩
  · rename_i h
    have hr := clp_rng (e.box.at k + (turnP L e k).1)
    have h' : clp (e.box.at k + (turnP L e k).1) = e.box.at k + (turnP L e k).1 := Decidable.not_not.1 h
    rw [h'] at hr
    split
    · exact ⟨_, _, rfl, hr, .inl rfl⟩
    · exact ⟨_, _, rfl, hr, .inr rfl⟩
theorem turnE_right {L : List Ent} {e : Ent} {k : Bool} (h : e.rightE = 0) : (turnE L e k).1.rightE = 0 := by
  obtain ⟨a, v, h1, h2, h3⟩ := turnE_cases L e k
  rw [h1]
  exact setk_right h h2 h3
theorem turnE_I {L : List Ent} {e : Ent} {k : Bool} (h : e.I) : (turnE L e k).1.I := by
  obtain ⟨a, v, h1, h2, h3⟩ := turnE_cases L e k
  rw [h1]
  exact setk_I h h2 h3

/-! ### one entity's two turns; all entities' -/
structure Tn where
  L : List Ent
  t : List (Int × Int)
  met : List Int
def turn1 (m : Nat) (s : Tn) (k : Bool) : Tn :=
  match s.L[m]? with
  | none => s
  | some e => if (turnE s.L e k).2 ≠ 0 ∧ (turnE s.L e k).2 ∉ s.met then ⟨s.L.set m (turnE s.L e k).1, s.t ++ [(e.h, (turnE s.L e k).2)], s.met ++ [(turnE s.L e k).2]⟩ else ⟨s.L.set m (turnE s.L e k).1, s.t, s.met⟩
def turnN (m : Nat) (s : Tn) : Nat → Tn
  | 0 => s
  | k + 1 => turn1 m (turnN m s k) (k == 1)
def stepN (L : List Ent) : Nat → Tn
  | 0 => ⟨L, [], []⟩
  | m + 1 => turnN m ⟨(stepN L m).L, (stepN L m).t, []⟩ 2
def stepV (L : List Ent) : Tn := stepN L L.length

theorem turn1_h (m : Nat) (s : Tn) (k : Bool) : (turn1 m s k).L.map (·.h) = s.L.map (·.h) := by
  unfold turn1
  cases hm : s.L[m]? with
  | none => rfl
  | some e =>
    have key : (s.L.set m (turnE s.L e k).1).map (·.h) = s.L.map (·.h) := by
      rw [List.map_set, turnE_h]
      refine List.ext_getElem? fun j => ?_
      by_cases hj : j = m
      · subst hj
        rw [List.getElem?_set_self (by rw [List.length_map]; exact (List.getElem?_eq_some_iff.1 hm).1), List.getElem?_map, hm]
        rfl
      · rw [List.getElem?_set_ne (fun e => hj e.symm)]
    simp only
    split <;> exact key
theorem turnN_h (m : Nat) (s : Tn) : ∀ k, (turnN m s k).L.map (·.h) = s.L.map (·.h)
  | 0 => rfl
  | k + 1 => by
    show (turn1 m (turnN m s k) (k == 1)).L.map (·.h) = _
    rw [turn1_h, turnN_h m s k]
theorem stepN_h (L : List Ent) : ∀ m, (stepN L m).L.map (·.h) = L.map (·.h)
  | 0 => rfl
  | m + 1 => by
    show (turnN m ⟨(stepN L m).L, (stepN L m).t, []⟩ 2).L.map (·.h) = _
    rw [turnN_h]
    exact stepN_h L m
theorem turnN_len (m : Nat) (s : Tn) (k : Nat) : (turnN m s k).L.length = s.L.length := by
  have := congrArg List.length (turnN_h m s k)
  simpa using this
theorem stepN_len (L : List Ent) (m : Nat) : (stepN L m).L.length = L.length := by
  have := congrArg List.length (stepN_h L m)
  simpa using this

theorem turn1_t {m : Nat} {s : Tn} {k : Bool} : (turn1 m s k).t.length ≤ s.t.length + 1 ∧ (turn1 m s k).met.length ≤ s.met.length + 1 := by
  unfold turn1
  cases s.L[m]? with
  | none => exact ⟨by simp only; omega, by simp only; omega⟩
  | some e =>
    simp only
    split <;> simp
theorem turnN_t {m : Nat} {s : Tn} : ∀ k, (turnN m s k).t.length ≤ s.t.length + k ∧ (turnN m s k).met.length ≤ s.met.length + k
  | 0 => ⟨Nat.le_refl _, Nat.le_refl _⟩
  | k + 1 => by
    have h1 := turn1_t (m := m) (s := turnN m s k) (k := k == 1)
    have h2 := turnN_t (m := m) (s := s) k
    show (turn1 m (turnN m s k) (k == 1)).t.length ≤ _ ∧ (turn1 m (turnN m s k) (k == 1)).met.length ≤ _
    omega
theorem stepN_t {L : List Ent} : ∀ m, (stepN L m).t.length ≤ 2 * m
  | 0 => Nat.le_refl _
  | m + 1 => by
    have h1 := turnN_t (m := m) (s := ⟨(stepN L m).L, (stepN L m).t, []⟩) 2
    have h2 := stepN_t (L := L) m
    show (turnN m ⟨(stepN L m).L, (stepN L m).t, []⟩ 2).t.length ≤ _
    simp only at h1
    omega

/-! ### the list of a world whose places are set -/
theorem listS_at : ∀ {S : List Spot} {m : Nat} {e : Ent}, (listS S)[m]? = some e → ∃ i s, S[i]? = some s ∧ s.there = true ∧ s.e = e ∧ ∀ g e', listS (S.set i ⟨g, true, e'⟩) = (listS S).set m e'
  | [], m, e, h => by simp [listS] at h
  | x :: S, m, e, h => by
    by_cases hx : x.there = true
    · have e1 : listS (x :: S) = x.e :: listS S := by unfold listS; rw [List.filter_cons, if_pos hx, List.map_cons]
      rw [e1] at h
      cases m with
      | zero =>
        refine ⟨0, x, rfl, hx, by simpa using h, fun g e' => ?_⟩
        rw [e1]
        unfold listS
        rw [List.set_cons_zero, List.filter_cons, if_pos rfl, List.map_cons, List.set_cons_zero]
      | succ m =>
        obtain ⟨i, s, h1, h2, h3, h4⟩ := listS_at (S := S) (m := m) (by simpa using h)
        refine ⟨i + 1, s, by simpa using h1, h2, h3, fun g e' => ?_⟩
        rw [e1, List.set_cons_succ, List.set_cons_succ, ← h4 g e']
        unfold listS
        rw [List.filter_cons, if_pos hx, List.map_cons]
    · have e1 : listS (x :: S) = listS S := by unfold listS; rw [List.filter_cons, if_neg hx]
      rw [e1] at h
      obtain ⟨i, s, h1, h2, h3, h4⟩ := listS_at (S := S) (m := m) h
      refine ⟨i + 1, s, by simpa using h1, h2, h3, fun g e' => ?_⟩
      rw [e1, List.set_cons_succ, ← h4 g e']
      unfold listS
      rw [List.filter_cons, if_neg hx]
end Go.Proofs.YtamobmjfdiecbaaDoor

/- PhT: an entity's turn along an axis, by the program. Conditions: those of each theorem, on its arguments. -/
namespace Go.Proofs.YtamobmjfdiecbaaDoor
open Go Go.Sx Go.Fp
attribute [local irreducible] jn lv ld st nw asI asB asP asS asY asM asF asA asT lp rn ru rq cl dw dr bnd bn2 nz nn hd hr so eqW
attribute [local irreducible] callOk

theorem _root_.Go.Sx.Reads.kn {w : World} {r : Nat} {vs : List Value} {t : TypeId} (hb : w.heap[r]? = some (.cells vs.toArray t (0, 0))) : Reads w (some ⟨r, 0, none⟩) vs :=
  .inr ⟨r, 0, rfl, fun i v hv => by rw [blk_cell hb, Nat.zero_add]; simpa using hv⟩

/-- two rows that grow, handles and boxes, beside blocks of one's own -/
structure TR (W w : World) (L : List (Nat × List Value × TypeId)) (p : Option Addr) (n c : Nat) (xs : List Int) (q : Option Addr) (n' c' : Nat) (ys : List Bx) : Prop where
  st : St W w L
  a : Row w W.heap.size 3 p c (iv .i64 xs)
  b : RowN w W.heap.size 38 3 q c' n' (ys.flatMap Bx.cells)
  an : xs.length = n
  ap : Apart p q
  offa : ∀ x, p = some x → ∀ b ∈ L, b.1 ≠ x.block
  offb : ∀ x, q = some x → ∀ b ∈ L, b.1 ≠ x.block

section
variable {W w : World} {L : List (Nat × List Value × TypeId)} {p q : Option Addr} {n c n' c' : Nat} {xs : List Int} {ys : List Bx}
theorem TR.to (h : TR W w L p n c xs q n' c' ys) {w' : World} (hx : Ext no w w') : TR W w' L p n c xs q n' c' ys :=
  ⟨h.st.to hx, h.a.ext hx fun _ _ h => h, h.b.ext hx fun _ _ h => h, h.an, h.ap, h.offa, h.offb⟩
theorem TR.tail {x : Nat × List Value × TypeId} (h : TR W w (x :: L) p n c xs q n' c' ys) : TR W w L p n c xs q n' c' ys :=
  ⟨h.st.tail, h.a, h.b, h.an, h.ap, fun x hx b hb => h.offa x hx b (List.mem_cons_of_mem _ hb), fun x hx b hb => h.offb x hx b (List.mem_cons_of_mem _ hb)⟩
theorem TR.nw (h : TR W w L p n c xs q n' c' ys) {cs : List Value} {t : TypeId} {K : Nat → World → Prop} (hK : ∀ r w', TR W w' ((r, cs, t) :: L) p n c xs q n' c' ys → K r w') : nw w (.cells cs.toArray t) K := by
  have hx := Ext.alloc w (.cells cs.toArray t)
  refine nw_mk (hK _ _ ⟨h.st.alloc cs t, h.a.ext hx fun _ _ h => h, h.b.ext hx fun _ _ h => h, h.an, h.ap, fun x hx b hb => ?_, fun x hx b hb => ?_⟩)
  · rcases List.mem_cons.1 hb with rfl | hb
    · have := (h.a.at hx).2
      simp only
      omega
    · exact h.offa x hx b hb
  · rcases List.mem_cons.1 hb with rfl | hb
    · have := (h.b.at hx).2
      simp only
      omega
    · exact h.offb x hx b hb
theorem TR.one {r j : Nat} {cs : List Value} {t : TypeId} (h : TR W w ((r, cs, t) :: L) p n c xs q n' c' ys) {v u : Value} {K : World → Prop} (hj : cs[j]? = some u) (h1 : Sx.one v = true) (hK : ∀ w', TR W w' ((r, cs.set j v, t) :: L) p n c xs q n' c' ys → K w') :
    Sx.st w ⟨r, j, none⟩ v K := by
  refine h.st.stj 0 rfl hj h1 fun w' hs hx => hK w' ⟨hs, h.a.ext hx fun a ha e => ?_, h.b.ext hx fun a ha e => ?_, h.an, h.ap, fun x hx b hb => ?_, fun x hx b hb => ?_⟩
  · exact h.offa a ha _ List.mem_cons_self (show r = a.block from Eq.symm e)
  · exact h.offb a ha _ List.mem_cons_self (show r = a.block from Eq.symm e)
  · rcases List.mem_cons.1 hb with rfl | hb
    · exact h.offa x hx (r, cs, t) List.mem_cons_self
    · exact h.offa x hx b (List.mem_cons_of_mem _ hb)
  · rcases List.mem_cons.1 hb with rfl | hb
    · exact h.offb x hx (r, cs, t) List.mem_cons_self
    · exact h.offb x hx b (List.mem_cons_of_mem _ hb)
theorem TR.st8 {r : Nat} {cs : List Value} {t : TypeId} (h : TR W w ((r, cs, t) :: L) p n c xs q n' c' ys) (hc : cs.length = 8) (e : Ent) {K : World → Prop} (hK : ∀ w', TR W w' ((r, e.cells, t) :: L) p n c xs q n' c' ys → K w') :
    Sx.st w ⟨r, 0, none⟩ (.int .i64 e.h) fun w1 => Sx.st w1 (Addr.add ⟨r, 0, none⟩ 1) (.int .i64 e.x) fun w2 => Sx.st w2 (Addr.add ⟨r, 0, none⟩ 2) (.int .i64 e.y) fun w3 => Sx.st w3 (Addr.add ⟨r, 0, none⟩ 3) (.int .i64 e.r) fun w4 =>
      Sx.st w4 (Addr.add ⟨r, 0, none⟩ 4) (.int .i64 e.vx) fun w5 => Sx.st w5 (Addr.add ⟨r, 0, none⟩ 5) (.int .i64 e.vy) fun w6 => Sx.st w6 (Addr.add ⟨r, 0, none⟩ 6) (.int .i64 e.o) fun w7 => Sx.st w7 (Addr.add ⟨r, 0, none⟩ 7) (.int .i64 e.t) fun w8 => K w8 := by
  match cs, hc with
  | [a0, a1, a2, a3, a4, a5, a6, a7], _ =>
    simp only [add_mk, Nat.zero_add]
    exact h.one rfl rfl fun w1 h1 => h1.one rfl rfl fun w2 h2 => h2.one rfl rfl fun w3 h3 => h3.one rfl rfl fun w4 h4 => h4.one rfl rfl fun w5 h5 => h5.one rfl rfl fun w6 h6 => h6.one rfl rfl fun w7 h7 => h7.one rfl rfl fun w8 h8 => hK w8 h8
/-- the blocks of a row are not those of L, and new since W -/
theorem TR.appA (h : TR W w L p n c xs q n' c' ys) (hn : n ≤ 1000000) {s : Option Addr} {v : Int} (hs : Reads w s [.int .i64 v]) {ty : TypeId} {K : Value → World → Prop}
    (hK : ∀ p' c'' w', TR W w' L p' (n + 1) c'' (xs ++ [v]) q n' c' ys → K (.slice p' (n + 1) c'') w') :
    rn Tryd.prog (Builtin.append_ #[23, 23] ty #[.slice p n c, .slice s 1 1]) w K := by
  refine sI.app (m := 1) h.a (by rw [iv_length, h.an]) h.st.ext.size hs rfl (by simp [Sx.one]) (le_maxLen (by omega)) (by omega) fun p' c'' w' hr hx hM _ => hK p' c'' w' ?_
  have hb : ∀ k, blocks p k → W.heap.size ≤ k ∧ ∀ b ∈ L, b.1 ≠ k := fun k ⟨a, ha, hk⟩ => hk ▸ ⟨(h.a.at ha).1, h.offa a ha⟩
  refine ⟨h.st.toM hx (fun k hk => (hb k hk).1) (fun b hb' hk => (hb _ hk).2 b hb' rfl), by simpa [iv] using hr, h.b.keep hx h.ap.symm, by simp [h.an], hM.apart h.ap fun a ha => (h.b.at ha).2, fun x hx' b hb' => ?_, h.offb⟩
  rcases hM with rfl | hM
  · exact h.offa x hx' b hb'
  · have := hM x hx'
    have := blk_lt (h.st.kn b hb').1
    omega
theorem TR.appB (h : TR W w L p n c xs q n' c' ys) (hn : n' ≤ 1000000) {s : Option Addr} {v : Bx} (hs : Reads w s v.cells) (hsn : s ≠ none) {ty : TypeId} {K : Value → World → Prop}
    (hK : ∀ q' c'' w', TR W w' L p n c xs q' (n' + 1) c'' (ys ++ [v]) → K (.slice q' (n' + 1) c'') w') :
    rn Tryd.prog (Builtin.append_ #[92, 92] ty #[.slice q n' c', .slice s 1 1]) w K := by
  refine sB.app (m := 1) h.b h.st.ext.size hs rfl (fun e => absurd e hsn) (by simp [Bx.cells, Sx.one]) (le_maxLen (by omega)) (by omega) fun q' c'' w' hr hx hM _ => hK q' c'' w' ?_
  have hb : ∀ k, blocks q k → W.heap.size ≤ k ∧ ∀ b ∈ L, b.1 ≠ k := fun k ⟨a, ha, hk⟩ => hk ▸ ⟨(h.b.at ha).1, h.offb a ha⟩
  refine ⟨h.st.toM hx (fun k hk => (hb k hk).1) (fun b hb' hk => (hb _ hk).2 b hb' rfl), h.a.keep hx h.ap, by simpa using hr, h.an, (hM.apart h.ap.symm fun a ha => (h.a.at ha).2).symm, h.offa, fun x hx' b hb' => ?_⟩
  rcases hM with rfl | hM
  · exact h.offb x hx' b hb'
  · have := hM x hx'
    have := blk_lt (h.st.kn b hb').1
    omega
end

theorem oth_take {L : List Ent} {h : Int} {i : Nat} {e : Ent} (he : L[i]? = some e) : oth (L.take (i + 1)) h = oth (L.take i) h ++ (if e.h = h then [] else [e]) := by
  unfold oth
  rw [List.take_add_one, he, List.filter_append]
  congr 1
  show (List.filter _ [e]) = _
  rw [List.filter_cons]
  by_cases hh : e.h = h
  · rw [if_pos hh, if_neg (by simpa using hh)]; rfl
  · rw [if_neg hh, if_pos (by simpa using hh)]; rfl
theorem oth_len (L : List Ent) (h : Int) : (oth L h).length ≤ L.length := List.length_filter_le _ _

/-- the table of the axes, as the program's text lays it -/
structure Ax (w : World) : Prop where
  a0 : w.cell? ⟨0, 0, none⟩ = some (.func (.func 113) #[] #[])
  a1 : w.cell? ⟨0, 1, none⟩ = some (.func (.func 114) #[] #[])
theorem Ax.ext {w w' : World} (h : Ax w) {M : Nat → Prop} (hx : Ext M w w') (hM : ¬ M 0) : Ax w' := ⟨hx.cell h.a0 hM, hx.cell h.a1 hM⟩
theorem Ax.no {w w' : World} (h : Ax w) (hx : Ext no w w') : Ax w' := h.ext hx fun h => h

theorem axes1_k {a : Addr} {w : World} {K : Value → World → Prop} (hK : K (.pointer (some a)) w) : cl Tryd.prog 113 #[.pointer (some a)] w K := by
  apply F113_calls
  unfold F113
  exact dr_i hK
theorem axes2_k {a : Addr} {w : World} {K : Value → World → Prop} (hK : K (.pointer (some (Addr.add a 1))) w) : cl Tryd.prog 114 #[.pointer (some a)] w K := by
  apply F114_calls
  unfold F114
  exact dr_i hK
theorem ok1 : callOk Tryd.prog 113 = true := by kernel_rfl
theorem ok2 : callOk Tryd.prog 114 = true := by kernel_rfl

theorem mgn_rng {d : Int} (hd : within d = true) : 0 ≤ mgn d ∧ mgn d ≤ 1152921504606846976 := by
  have := within_iff.1 hd
  unfold mgn
  split <;> omega
theorem pushV_ok {a : Bx} {k : Bool} {d : Int} {bs : List Bx} (h1 : allR bs = true) (h2 : a.right = true) (h3 : within d = true) :
    pushV a (kI k) d bs = (sgn d * (pushF (sgn d) a k bs 0 (mgn d, -1)).1, (pushF (sgn d) a k bs 0 (mgn d, -1)).2, 0) := by
  unfold pushV
  rw [if_pos ⟨h1, h2⟩, if_pos ⟨by cases k <;> simp [kI], h3⟩, kI_ne]
theorem pushV_rng {a : Bx} {k : Bool} {d : Int} {bs : List Bx} (h1 : allR bs = true) (h2 : a.right = true) (h3 : within d = true) :
    -1152921504606846976 ≤ (pushV a (kI k) d bs).1 ∧ (pushV a (kI k) d bs).1 ≤ 1152921504606846976 ∧ -1 ≤ (pushV a (kI k) d bs).2.1 ∧ (pushV a (kI k) d bs).2.1 < bs.length := by
  rw [pushV_ok h1 h2 h3]
  have hm := mgn_rng h3
  have g1 := pushF_le (sgn d) a k bs 0 (mgn d, -1)
  have g2 := pushF_nn (s := sgn d) (a := a) (k := k) (bs := bs) (i := 0) (p := (mgn d, -1)) hm.1
  have g3 : -1 ≤ (pushF (sgn d) a k bs 0 (mgn d, -1)).2 ∧ (pushF (sgn d) a k bs 0 (mgn d, -1)).2 < bs.length := by
    rcases pushF_who (sgn d) a k bs 0 (mgn d, -1) with h | ⟨j, b, hj, _, _, h⟩
    · rw [h]
      exact ⟨Int.le_refl _, by omega⟩
    · have := (List.getElem?_eq_some_iff.1 hj).1
      rw [h]
      simp only
      omega
  simp only at g1 ⊢
  generalize (pushF (sgn d) a k bs 0 (mgn d, -1)) = P at *
  have aux : ∀ V : Int, 0 ≤ V → V ≤ mgn d → -1152921504606846976 ≤ sgn d * V ∧ sgn d * V ≤ 1152921504606846976 := fun V _ _ => by
    rcases sgn_cases d with ⟨h, _, h'⟩ | ⟨h, _, h'⟩ <;> rw [h] <;> omega
  have := aux _ g2 g1
  omega

theorem arg1 (x : Value) : ((#[] : Array Value) ++ #[x] ++ #[]) = #[x] := by simp

/-- behind the push: the entity's place and way are set -/
theorem turn_tail {w : World} {re : Nat} {cs : List Value} {t : TypeId} (hb : w.heap[re]? = some (.cells cs.toArray t (0, 0))) {ja jv : Nat} {at0 v0 d b : Int} (hja : cs[ja]? = some (.int .i64 at0)) (hjv : cs[jv]? = some (.int .i64 v0)) (hne : ja ≠ jv)
    (hto : -9223372036854775808 ≤ at0 + d ∧ at0 + d ≤ 9223372036854775807) {p : Option Addr} {n : Nat} {zs : List Int} (hp : Reads w p (iv .i64 zs)) (hpb : ∀ a, p = some a → a.block ≠ re) (hb1 : -1 ≤ b) (hbn : b < n) (hzn : zs.length = n) {c : Int} {Q : Value → World → Prop}
    (hQ1 : clp (at0 + d) ≠ at0 + d → ∀ w', w'.heap[re]? = some (.cells ((cs.set ja (.int .i64 (clp (at0 + d)))).set jv (.int .i64 0)).toArray t (0, 0)) → Ext (onl re) w w' → Q (.int .i64 0) w')
    (hQ2 : clp (at0 + d) = at0 + d → 0 ≤ b → ∀ w', w'.heap[re]? = some (.cells ((cs.set ja (.int .i64 (at0 + d))).set jv (.int .i64 0)).toArray t (0, 0)) → Ext (onl re) w w' → Q (.int .i64 (zs.getD b.toNat 0)) w')
    (hQ3 : clp (at0 + d) = at0 + d → b < 0 → ∀ w', w'.heap[re]? = some (.cells (cs.set ja (.int .i64 (at0 + d))).toArray t (0, 0)) → Ext (onl re) w w' → Q (.int .i64 0) w')
    {A1 A2 : Addr} (eA1 : A1 = ⟨re, ja, none⟩) (eA2 : A2 = ⟨re, jv, none⟩) :
    lv d fun d_142 => (lv b fun by_143 => (lv c fun __144 =>
(dr (some A1) fun a145 => (ld w a145 fun v146 => asI .i64 v146 fun x147 => (lv (IntKind.wrap .i64 (x147 + d_142)) fun to_148 =>
(dr (some A1) fun a149 => (st w a149 (.int .i64 (if (if (4398046511104 : Int) < to_148 then (4398046511104 : Int) else to_148) > (-4398046511104 : Int) then (if (4398046511104 : Int) < to_148 then (4398046511104 : Int) else to_148) else (-4398046511104 : Int))) fun w150 =>
(jn (fun s151 w152 => (lv (0 : Int) fun y165 =>
(Q (.int .i64 y165) w152)))
 (fun J153 => (dr (some A1) fun a154 => (ld w150 a154 fun v155 => asI .i64 v155 fun x156 =>
(cond (x156 != to_148) (dr (some A2) fun a157 => (st w150 a157 (.int .i64 (0 : Int)) fun w158 => (J153 [] w158)))
(cond (decide (by_143 ≥ (0 : Int))) (dr (some A2) fun a159 => (st w150 a159 (.int .i64 (0 : Int)) fun w160 =>
(dr p fun a161 => (bnd by_143 n (ld w160 (Addr.add a161 (Int.toNat by_143 * 1)) fun v162 => asI .i64 v162 fun x163 => (lv x163 fun y164 =>
(Q (.int .i64 y164) w160))))))) (J153 [] w150)))))))))))))) := by
  subst eA1
  subst eA2
  have hja' := (List.getElem?_eq_some_iff.1 hja).1
  have hjv' := (List.getElem?_eq_some_iff.1 hjv).1
  refine lv_i (lv_i (lv_i (dr_i (ld_mk (by rw [blk_cell hb]; simpa using hja) (asI_i rfl (lv_i (dr_i ?_)))))))
  rw [wr64 hto.1 hto.2]
  refine st_blk hb (by simpa using hja') rfl fun w1 h1 x1 _ => ?_
  have e1 : cs.toArray.setIfInBounds ja (.int .i64 (clp (at0 + d))) = (cs.set ja (.int .i64 (clp (at0 + d)))).toArray := by simp
  have h1' : w1.heap[re]? = some (.cells (cs.set ja (.int .i64 (clp (at0 + d)))).toArray t (0, 0)) := by rw [← e1]; exact h1
  have hc1 : w1.cell? ⟨re, ja, none⟩ = some (.int .i64 (clp (at0 + d))) := by
    rw [blk_cell h1']
    simp [hja']
  refine jn_of (fun t' w' => (clp (at0 + d) ≠ at0 + d ∧ w'.heap[re]? = some (.cells ((cs.set ja (.int .i64 (clp (at0 + d)))).set jv (.int .i64 0)).toArray t (0, 0)) ∨ clp (at0 + d) = at0 + d ∧ b < 0 ∧ w'.heap[re]? = some (.cells (cs.set ja (.int .i64 (clp (at0 + d)))).toArray t (0, 0))) ∧ Ext (onl re) w w') ?_ ?_
  · rintro _ w2 ⟨h | ⟨h, h', h2⟩, hx⟩
    · exact lv_i (hQ1 h.1 _ h.2 hx)
    · rw [h] at h2
      exact lv_i (hQ3 h h' _ h2 hx)
  · intro J hJ
    have st2 : ∀ {K : World → Prop}, (∀ w', w'.heap[re]? = some (.cells ((cs.set ja (.int .i64 (clp (at0 + d)))).set jv (.int .i64 0)).toArray t (0, 0)) → Ext (onl re) w1 w' → K w') → Sx.st w1 ⟨re, jv, none⟩ (.int .i64 0) K := fun {K} hK => by
      refine st_blk h1' (by simpa using hjv') rfl fun w2 h2 x2 _ => hK w2 ?_ x2
      rw [h2]
      simp
    refine dr_i (ld_mk hc1 (asI_i rfl (cond_split (fun h => ?_) (fun h => cond_split (fun h2 => ?_) (fun h2 => ?_)))))
    · have h' : clp (at0 + d) ≠ at0 + d := by simpa using h
      exact dr_i (st2 fun w2 h2 x2 => hJ _ _ ⟨.inl ⟨h', h2⟩, x1.trans x2⟩)
    · have h' : clp (at0 + d) = at0 + d := by simpa using h
      have hb0 : 0 ≤ b := of_decide_eq_true h2
      refine dr_i (st2 fun w2 h3 x2 => ?_)
      have hR : Reads w2 p (iv .i64 zs) := hp.ext (x1.trans x2) fun a ha e => hpb a ha e
      have hbl : b.toNat < zs.length := by omega
      have hz : (iv .i64 zs)[b.toNat]? = some (.int .i64 (zs.getD b.toNat 0)) := by simp [iv, hbl]
      refine hR.at hb0 hz (asI_i rfl (lv_i ?_)) (by rw [iv_length, hzn]; exact Nat.le_refl _)
      rw [h'] at h3
      exact hQ2 h' hb0 _ h3 (x1.trans x2)
    · have h' : clp (at0 + d) = at0 + d := by simpa using h
      have hb0 : b < 0 := by
        have := of_decide_eq_false h2
        omega
      exact hJ _ _ ⟨.inr ⟨h', hb0, h1'⟩, x1⟩

theorem rights_all {L : List Ent} (h : ∀ o ∈ L, o.rightE = 0) (hh : Int) : allR ((oth L hh).map Ent.box) = true := by
  unfold allR
  rw [List.all_eq_true]
  intro b hb
  obtain ⟨o, ho, rfl⟩ := List.mem_map.1 hb
  exact box_right (h o (List.mem_filter.1 ho).1)
theorem within_vel {e : Ent} (h : e.rightE = 0) (k : Bool) : within (e.vel k) = true := by
  obtain ⟨_, h2⟩ := rightE_iff.1 h
  rw [argOk_iff] at h2
  rw [within_iff]
  cases k
  · simp only [Ent.vel]; omega
  · simp only [Ent.vel]; omega
theorem setk_set (e : Ent) (a v : Int) : (e.cells.set 1 (.int .i64 a)).set 4 (.int .i64 v) = (e.setk false a v).cells ∧ (e.cells.set 2 (.int .i64 a)).set 5 (.int .i64 v) = (e.setk true a v).cells ∧ e.cells.set 1 (.int .i64 a) = (e.setk false a e.vx).cells ∧ e.cells.set 2 (.int .i64 a) = (e.setk true a e.vy).cells := ⟨rfl, rfl, rfl, rfl⟩

set_option maxHeartbeats 2000000 in
theorem turn_k {w : World} {r g re : Nat} {S : List Spot} {e : Ent} (hA : Ax w) (hw : WS w r g S) (he : w.heap[re]? = some (.cells e.cells.toArray 40 (0, 0))) (hr0 : re ≠ 0) (heR : e.rightE = 0) (hLR : ∀ o ∈ listS S, o.rightE = 0) (k : Bool) {K : Value → World → Prop}
    (hK : ∀ w', w'.heap[re]? = some (.cells (turnE (listS S) e k).1.cells.toArray 40 (0, 0)) → Ext (onl re) w w' → K (.int .i64 (turnE (listS S) e k).2) w') :
    cl Tryd.prog 27 #[.pointer (some ⟨r, 0, none⟩), .pointer (some ⟨re, 0, none⟩), .int .i64 (kI k)] w K := by
  have hll := listS_len S
  rw [hw.len] at hll
  apply F27_calls
  unfold F27
  refine lv_i (list_k hw fun p4 c6 w3 hx3 hr3 => asS_i rfl ?_)
  have hE3 := hr3.reads
  generalize hL : listS S = L at *
  refine lp_mk (fun s : ((Option Addr × Nat × Nat) × (Option Addr × Nat × Nat)) × Nat => [.slice s.1.1.1 s.1.1.2.1 s.1.1.2.2, .slice s.1.2.1 s.1.2.2.1 s.1.2.2.2, .int .i64 (s.2 : Int)])
    (fun m s w' => m = L.length - s.2 ∧ s.2 ≤ L.length ∧ TR w3 w' [] s.1.1.1 s.1.1.2.1 s.1.1.2.2 ((oth (L.take s.2) e.h).map (·.h)) s.1.2.1 s.1.2.2.1 s.1.2.2.2 ((oth (L.take s.2) e.h).map Ent.box)) L.length (((none, 0, 0), (none, 0, 0)), 0) rfl
    ⟨rfl, Nat.zero_le _, ⟨St.start w3, Row.nil _ _ _, RowN.nil _ _ _ _, rfl, Apart.none _, fun _ h => (by cases h), fun _ h => (by cases h)⟩⟩ ?_
  rintro _ ⟨⟨⟨p, n, c⟩, ⟨q, n', c'⟩⟩, i⟩ w8 ⟨rfl, hi, hT⟩ J hJ
  simp only at hi hT hJ ⊢
  have hlen1 := oth_len (L.take i) e.h
  rw [List.length_take] at hlen1
  have hn1 : n ≤ 64 := by
    have := hT.an
    rw [List.length_map] at this
    omega
  have hn2 : n' ≤ 64 := by
    have := hT.b.len
    rw [fl_lenN (f := Bx.cells) (s := 3) (fun _ => rfl), List.length_map] at this
    omega
  refine asS_i rfl (asS_i rfl (asI_i rfl (cond_split (fun hc => ?_) (fun hc => ?_))))
  · have hil : i < L.length := by
      have := of_decide_eq_true hc
      omega
    have ei : IntKind.wrap .i64 ((i : Int) + 1) = ((i + 1 : Nat) : Int) := by rw [wr64 (by omega) (by omega)]; omega
    have hLi : L[i]? = some L[i] := List.getElem?_eq_getElem hil
    generalize L[i] = o at hLi
    rw [ei]
    refine jn_of (fun t w' => ∃ p n c q n' c', t = [.slice p n c, .slice q n' c'] ∧ TR w3 w' [] p n c ((oth (L.take (i + 1)) e.h).map (·.h)) q n' c' ((oth (L.take (i + 1)) e.h).map Ent.box)) ?_ ?_
    · rintro _ w18 ⟨p, n, c, q, n', c', rfl, hT⟩
      exact asS_i rfl (asS_i rfl (hJ (L.length - (i + 1)) ((((p, n, c), (q, n', c'))), i + 1) w18 (by omega) ⟨rfl, hil, hT⟩))
    · intro J2 hJ2
      refine Reads.atN (f := Ent.cells) Ent.cells_length (Reads.no hT.st.ext hE3) rfl hLi (by decide) fun a1 _ hca => ?_
      rw [Int.toNat_natCast]
      refine ld8c hca ?_
      refine hT.nw (cs := Ent.zero.cells) fun r37 w38 hT => ?_
      refine hT.st8 rfl o fun w46 hT => dw_mk ?_
      replace hT := hT.to (Ext.drew w46)
      have h0 := hT.st.cell 0 (r := r37) (j := 0) (v := .int .i64 o.h) rfl rfl
      refine ld_mk h0 (asI_i rfl (dr_i ?_))
      have hxe : Ext no w w46.drew := hx3.trans hT.st.ext
      have he0 : w46.drew.cell? ⟨re, 0, none⟩ = some (.int .i64 e.h) := by
        rw [blk_cell (hxe.blk he fun h => h)]
        rfl
      refine ld_mk he0 (asI_i rfl (cond_split (fun hne => ?_) (fun hne => ?_)))
      · have hne' : ¬ o.h = e.h := by simpa using hne
        have eo := oth_take (h := e.h) hLi
        rw [if_neg hne'] at eo
        have em1 : (oth (L.take (i + 1)) e.h).map (·.h) = (oth (L.take i) e.h).map (·.h) ++ [o.h] := by rw [eo, List.map_append]; rfl
        have em2 : (oth (L.take (i + 1)) e.h).map Ent.box = (oth (L.take i) e.h).map Ent.box ++ [o.box] := by rw [eo, List.map_append]; rfl
        refine dw_mk ?_
        replace hT := hT.to (Ext.drew w46.drew)
        generalize w46.drew.drew = w53 at *
        rw [em1, em2] at hJ2
        have hc : ∀ {w' : World} {L' : List (Nat × List Value × TypeId)} (m : Nat), St w3 w' L' → L'[m]? = some (r37, o.cells, 40) →
            w'.cell? ⟨r37, 0, none⟩ = some (.int .i64 o.h) ∧ w'.cell? (Addr.add ⟨r37, 0, none⟩ 1) = some (.int .i64 o.x) ∧ w'.cell? (Addr.add (Addr.add ⟨r37, 0, none⟩ 1) 1) = some (.int .i64 o.y) ∧ w'.cell? (Addr.add (Addr.add ⟨r37, 0, none⟩ 1) 2) = some (.int .i64 o.r) := fun m hS hm => by
          refine ⟨hS.cell m hm rfl, ?_, ?_, ?_⟩
          · rw [add_mk]; exact hS.cell m hm rfl
          · rw [add_mk, add_mk]; exact hS.cell m hm rfl
          · rw [add_mk, add_mk]; exact hS.cell m hm rfl
        obtain ⟨c0, c1, c2, c3⟩ := hc 0 hT.st rfl
        refine ld_mk c0 (asI_i rfl (ld_mk c1 (asI_i rfl (ld_mk c2 (asI_i rfl (ld_mk c3 (asI_i rfl ⟨?_, ?_⟩)))))))
        · refine hT.nw (cs := [.int .i64 o.h]) fun r62 w63 hT => ?_
          obtain ⟨c0, c1, c2, c3⟩ := hc 1 hT.st rfl
          refine hd_i c1 (hd_i c2 (hd_i c3 ⟨?_, ?_⟩))
          · refine hT.appA (by omega) (Reads.kn (hT.st.kn _ List.mem_cons_self).1) fun p' c'' w65 hT => asS_i rfl ?_
            obtain ⟨c0, c1, c2, c3⟩ := hc 1 hT.st rfl
            refine hd_i c1 (hd_i c2 (hd_i c3 ?_))
            refine hT.nw (cs := o.box.cells) fun r69 w70 hT => ?_
            refine hT.appB (by omega) (Reads.kn (hT.st.kn _ List.mem_cons_self).1) (by simp) fun q' c3 w71 hT => asS_i rfl (hJ2 _ _ ⟨_, _, _, _, _, _, rfl, hT.tail.tail.tail⟩)
          · refine hT.nw (cs := o.box.cells) fun r76 w77 hT => ?_
            refine hT.appA (by omega) (Reads.kn (hT.st.kn _ (List.mem_cons_of_mem _ List.mem_cons_self)).1) fun p' c'' w65 hT => asS_i rfl ?_
            refine hT.appB (by omega) (Reads.kn (hT.st.kn _ List.mem_cons_self).1) (by simp) fun q' c3 w71 hT => asS_i rfl (hJ2 _ _ ⟨_, _, _, _, _, _, rfl, hT.tail.tail.tail⟩)
        · refine hT.nw (cs := o.box.cells) fun r88 w89 hT => ?_
          obtain ⟨c0, c1, c2, c3⟩ := hc 1 hT.st rfl
          refine hd_i c0 ?_
          refine hT.nw (cs := [.int .i64 o.h]) fun r90 w91 hT => ?_
          refine hT.appA (by omega) (Reads.kn (hT.st.kn _ List.mem_cons_self).1) fun p' c'' w65 hT => asS_i rfl ?_
          refine hT.appB (by omega) (Reads.kn (hT.st.kn _ (List.mem_cons_of_mem _ List.mem_cons_self)).1) (by simp) fun q' c3 w71 hT => asS_i rfl (hJ2 _ _ ⟨_, _, _, _, _, _, rfl, hT.tail.tail.tail⟩)
      · have hne' : o.h = e.h := by simpa using hne
        have eo := oth_take (h := e.h) hLi
        rw [if_pos hne', List.append_nil] at eo
        rw [eo] at hJ2
        exact hJ2 _ _ ⟨_, _, _, _, _, _, rfl, hT.tail⟩
  · have hil : i = L.length := by
      have := of_decide_eq_false hc
      omega
    subst hil
    rw [List.take_length] at hT
    clear hJ
    generalize hO : oth L e.h = O at hT
    refine dw_mk ?_
    replace hT := hT.to (Ext.drew w8)
    have hx8 : Ext no w w8.drew := hx3.trans hT.st.ext
    generalize w8.drew = w108 at *
    have hA8 := hA.no hx8
    have he8 := hx8.blk he fun h => h
    have hTe : turnP L e k = pushV e.box (kI k) (e.vel k) (O.map Ent.box) := by unfold turnP; rw [hO]
    have hfl : (O.map Ent.box).flatMap Bx.cells = fl (O.map Ent.box) := rfl
    have hnl : (O.map Ent.box).length = n' := by
      have := hT.b.len
      rw [fl_lenN (f := Bx.cells) (s := 3) (fun _ => rfl)] at this
      omega
    have hAll : allR (O.map Ent.box) = true := by rw [← hO]; exact rights_all hLR e.h
    have hP := pushV_rng (k := k) hAll (box_right heR) (within_vel heR k)
    obtain ⟨hbk, hak⟩ := rightE_iff.1 heR
    rw [boxOk_iff] at hbk
    have hK1 : turnE L e k = turnE L e k := rfl
    have hpb : ∀ a, p = some a → a.block ≠ re := fun a ha h => by
      have := (hT.a.at ha).1
      have := blk_lt he
      have := hx3.size
      omega
    have hzn : (O.map (·.h)).length = n := hT.an
    have hnn : n = n' := by
      rw [List.length_map] at hzn hnl
      omega
    have kcell : ∀ {w' : World}, w'.heap[re]? = some (.cells e.cells.toArray 40 (0, 0)) → ∀ k v, e.cells[k]? = some v → w'.cell? ⟨re, k, none⟩ = some v := fun hb k v hv => by
      rw [blk_cell hb]
      simpa using hv
    have hcl := kcell he8
    unfold turnE at hK
    rw [hTe, hO] at hK
    have hov : ∀ k, -4398046511104 ≤ e.box.at k ∧ e.box.at k ≤ 4398046511104 := fun k => by cases k <;> simp only [Bx.at, Ent.box] <;> simp <;> omega
    have hov := hov k
    cases k
    · refine bnd_mk (by decide) (by decide) (ld_mk (by rw [add_mk]; exact hA8.a0) (asN_i rfl (dr_i (bnd_mk (by decide) (by decide) (ld_mk (by rw [add_mk]; exact hA8.a0) (asN_i rfl (dr_i (cond_t ok1 ?_))))))))
      rw [arg1]
      refine axes1_k (asP_i rfl (hd_i (by rw [add_mk]; exact hA8.a0) (cond_t ok1 ?_)))
      rw [arg1]
      refine axes1_k (asP_i rfl (dw_mk ?_))
      have hxd := Ext.drew w108
      have he9 := hxd.blk he8 fun h => h
      have hcl := kcell he9
      refine dr_i (ld_mk (by rw [add_mk]; exact hcl 1 _ rfl) (asI_i rfl (ld_mk (by rw [add_mk, add_mk]; exact hcl 2 _ rfl) (asI_i rfl (ld_mk (by rw [add_mk, add_mk]; exact hcl 3 _ rfl) (asI_i rfl (dr_i (ld_mk (by rw [add_mk]; exact hcl 4 _ rfl) (asI_i rfl ?_)))))))))
      refine push_k (a := e.box) (axis := kI false) (d := e.vel false) (bs := O.map Ent.box) (Reads.no hxd hT.b.reads) hnl (by omega) fun w137 hx137 => asT_i rfl rfl (asI_i rfl (asI_i rfl (asI_i rfl ?_)))
      have hx9 := hxd.trans hx137
      refine turn_tail (hx9.blk he8 fun h => h) (ja := 1) (jv := 4) (at0 := e.box.at false) (v0 := e.vel false) rfl rfl (by decide) (by omega) ((hT.a.reads).ext hx9 fun _ _ h => h) hpb hP.2.2.1 (by omega) hzn (fun h w' hb hx => ?_) (fun h h0 w' hb hx => ?_) (fun h h0 w' hb hx => ?_) (by rw [add_mk]) (by rw [add_mk])
      · rw [(setk_set e _ _).1] at hb
        rw [if_pos h] at hK
        exact hK w' hb ((Ext.of_no (hx8.trans hx9)).trans hx)
      · rw [(setk_set e _ _).1] at hb
        rw [if_neg (fun hn => hn h), if_pos h0] at hK
        exact hK w' hb ((Ext.of_no (hx8.trans hx9)).trans hx)
      · rw [(setk_set e _ 0).2.2.1] at hb
        rw [if_neg (fun hn => hn h), if_neg (by omega)] at hK
        exact hK w' hb ((Ext.of_no (hx8.trans hx9)).trans hx)
    · refine bnd_mk (by decide) (by decide) (ld_mk (by rw [add_mk]; exact hA8.a1) (asN_i rfl (dr_i (bnd_mk (by decide) (by decide) (ld_mk (by rw [add_mk]; exact hA8.a1) (asN_i rfl (dr_i (cond_t ok2 ?_))))))))
      rw [arg1]
      refine axes2_k (asP_i rfl (hd_i (by rw [add_mk]; exact hA8.a1) (cond_t ok2 ?_)))
      rw [arg1]
      refine axes2_k (asP_i rfl (dw_mk ?_))
      have hxd := Ext.drew w108
      have he9 := hxd.blk he8 fun h => h
      have hcl := kcell he9
      refine dr_i (ld_mk (by rw [add_mk]; exact hcl 1 _ rfl) (asI_i rfl (ld_mk (by rw [add_mk, add_mk]; exact hcl 2 _ rfl) (asI_i rfl (ld_mk (by rw [add_mk, add_mk]; exact hcl 3 _ rfl) (asI_i rfl (dr_i (ld_mk (by rw [add_mk, add_mk]; exact hcl 5 _ rfl) (asI_i rfl ?_)))))))))
      refine push_k (a := e.box) (axis := kI true) (d := e.vel true) (bs := O.map Ent.box) (Reads.no hxd hT.b.reads) hnl (by omega) fun w137 hx137 => asT_i rfl rfl (asI_i rfl (asI_i rfl (asI_i rfl ?_)))
      have hx9 := hxd.trans hx137
      refine turn_tail (hx9.blk he8 fun h => h) (ja := 2) (jv := 5) (at0 := e.box.at true) (v0 := e.vel true) rfl rfl (by decide) (by omega) ((hT.a.reads).ext hx9 fun _ _ h => h) hpb hP.2.2.1 (by omega) hzn (fun h w' hb hx => ?_) (fun h h0 w' hb hx => ?_) (fun h h0 w' hb hx => ?_) (by rw [add_mk, add_mk]) (by rw [add_mk, add_mk])
      · rw [(setk_set e _ _).2.1] at hb
        rw [if_pos h] at hK
        exact hK w' hb ((Ext.of_no (hx8.trans hx9)).trans hx)
      · rw [(setk_set e _ _).2.1] at hb
        rw [if_neg (fun hn => hn h), if_pos h0] at hK
        exact hK w' hb ((Ext.of_no (hx8.trans hx9)).trans hx)
      · rw [(setk_set e _ 0).2.2.2] at hb
        rw [if_neg (fun hn => hn h), if_neg (by omega)] at hK
        exact hK w' hb ((Ext.of_no (hx8.trans hx9)).trans hx)
end Go.Proofs.YtamobmjfdiecbaaDoor

/- PhS: a step of a world, by the program. Conditions: those of each theorem, on its arguments. -/
namespace Go.Proofs.YtamobmjfdiecbaaDoor
open Go Go.Sx Go.Fp
attribute [local irreducible] jn lv ld st nw asI asB asP asS asY asM asF asA asT lp rn ru rq cl dw dr bnd bn2 nz nn hd hr so eqW
attribute [local irreducible] callOk

set_option maxRecDepth 100000 in
theorem sT : SlN Tryd.prog 30 47 2 16 := ⟨rfl, ⟨_, _, rfl, rfl, rfl, rfl, rfl⟩, by decide⟩
set_option maxRecDepth 100000 in
theorem sI1 : SlN Tryd.prog 23 3 1 8 := ⟨rfl, ⟨_, _, rfl, rfl, rfl, rfl, rfl⟩, by decide⟩
def tcl (t : Int × Int) : List Value := [.int .i64 t.1, .int .i64 t.2]
theorem tcl_len (ts : List (Int × Int)) : (ts.flatMap tcl).length = ts.length * 2 := fl_lenN (f := tcl) (s := 2) (fun _ => rfl) ts

theorem index_k {s : Option Addr} {n c : Nat} {xs : List Int} {v : Int} {w : World} (hr : Reads w s (iv .i64 xs)) (hn : xs.length = n) (hb : n ≤ 1125899906842624) {K : Value → World → Prop}
    (hK : ∀ i : Int, (0 ≤ i ↔ v ∈ xs) → K (.int .i64 i) w) : cl Tryd.prog 43 #[.slice s n c, .int .i64 v] w K := by
  subst hn
  apply F43_calls
  unfold F43
  refine lv_i (lp_mk (fun i : Nat => [.int .i64 (i : Int)]) (fun m i w' => m = xs.length - i ∧ i ≤ xs.length ∧ w' = w ∧ v ∉ xs.take i) xs.length 0 rfl ⟨rfl, Nat.zero_le _, rfl, by simp⟩ ?_)
  rintro _ i w ⟨rfl, hi, rfl, hno⟩ J hJ
  refine asI_i rfl (cond_split (fun hc => ?_) (fun hc => ?_))
  · have hil : i < xs.length := by
      have := of_decide_eq_true hc
      omega
    have ei : IntKind.wrap .i64 ((i : Int) + 1) = ((i + 1 : Nat) : Int) := by rw [wr64 (by omega) (by omega)]; omega
    have hx : (iv .i64 xs)[i]? = some (.int .i64 xs[i]) := by simp [iv, hil]
    have hxi : xs[i]? = some xs[i] := List.getElem?_eq_getElem hil
    generalize xs[i] = x at hx hxi
    refine lv_i (hr.at (i := (i : Int)) (by omega) (by rw [Int.toNat_natCast]; exact hx) (asI_i rfl (cond_split (fun h => lv_i (hK _ ⟨fun _ => ?_, fun _ => by omega⟩)) (fun h => ?_))) (by rw [iv_length]; exact Nat.le_refl _))
    · have : v = x := by simpa using h
      rw [this]
      exact List.mem_of_getElem? hxi
    · rw [ei]
      refine hJ (xs.length - (i + 1)) (i + 1) w (by omega) ⟨rfl, hil, rfl, ?_⟩
      rw [List.take_add_one, hxi, List.mem_append]
      rintro (h' | h')
      · exact hno h'
      · have : v = x := by simpa using h'
        simp [this] at h
  · have hil : i = xs.length := by
      have := of_decide_eq_false hc
      omega
    subst hil
    rw [List.take_length] at hno
    exact lv_i (hK _ ⟨fun h => absurd h (by decide), fun h => absurd h hno⟩)

theorem contains_k {s : Option Addr} {n c : Nat} {xs : List Int} {v : Int} {w : World} (hr : Reads w s (iv .i64 xs)) (hn : xs.length = n) (hb : n ≤ 1125899906842624) {K : Value → World → Prop}
    (hK : K (.bool (decide (v ∈ xs))) w) : cl Tryd.prog 28 #[.slice s n c, .int .i64 v] w K := by
  apply F28_calls
  unfold F28
  refine index_k hr hn hb fun i hi => asI_i rfl ?_
  have e : decide (i ≥ (0 : Int)) = decide (v ∈ xs) := by
    by_cases h : v ∈ xs
    · rw [decide_eq_true h, decide_eq_true (hi.2 h)]
    · rw [decide_eq_false h, decide_eq_false fun h' => h (hi.1 h')]
  rw [e]
  exact hK

/-! ### a world that makes steps, two rows, blocks of one's own -/
structure Sr (w0 w : World) (L : List (Nat × List Value × TypeId)) (F : Nat → Prop) (r : Nat) (e : TypeId) (s : Nat) (p : Option Addr) (c n : Nat) (xs : List Value) : Prop where
  row : RowN w w0.heap.size e s p c n xs
  off : ∀ a, p = some a → ¬ wF F r a.block ∧ ∀ b ∈ L, b.1 ≠ a.block

structure Sq (w0 w : World) (L : List (Nat × List Value × TypeId)) (F0 F : Nat → Prop) (r g : Nat) (S : List Spot) (B : List (Int × Bx)) (D : List ((Int × Int) × List Int)) (N : Nat)
    (p : Option Addr) (c n : Nat) (ts : List (Int × Int)) (q : Option Addr) (c' n' : Nat) (ms : List Int) : Prop where
  ext : Ext (wF F0 r) w0 w
  kn : ∀ b ∈ L, w.heap[b.1]? = some (.cells b.2.1.toArray b.2.2 (0, 0)) ∧ w0.heap.size ≤ b.1
  wd : Wd w F r g S B D N
  fr : ∀ k, F k → F0 k ∨ w0.heap.size ≤ k
  off : ∀ b ∈ L, ¬ wF F r b.1
  o : Sr w0 w L F r 47 2 p c n (ts.flatMap tcl)
  m : Sr w0 w L F r 3 1 q c' n' (iv .i64 ms)
  ap : Apart p q

section
variable {w0 w : World} {L : List (Nat × List Value × TypeId)} {F0 F : Nat → Prop} {r g : Nat} {S : List Spot} {B : List (Int × Bx)} {D : List ((Int × Int) × List Int)} {N : Nat}
  {p q : Option Addr} {c n c' n' : Nat} {ts : List (Int × Int)} {ms : List Int} {e : TypeId} {s : Nat} {xs : List Value}

theorem Sr.to (h : Sr w0 w L F r e s p c n xs) {w' : World} (hx : Ext no w w') : Sr w0 w' L F r e s p c n xs := ⟨h.row.ext hx fun _ _ h => h, h.off⟩
theorem Sr.tail {x : Nat × List Value × TypeId} (h : Sr w0 w (x :: L) F r e s p c n xs) : Sr w0 w L F r e s p c n xs := ⟨h.row, fun a ha => ⟨(h.off a ha).1, fun b hb => (h.off a ha).2 b (List.mem_cons_of_mem _ hb)⟩⟩
theorem Sr.cells {x y : Nat × List Value × TypeId} (h : Sr w0 w (x :: L) F r e s p c n xs) (ee : x.1 = y.1) : Sr w0 w (y :: L) F r e s p c n xs := ⟨h.row, fun a ha => ⟨(h.off a ha).1, fun b hb => by
  rcases List.mem_cons.1 hb with rfl | hb
  · exact ee ▸ (h.off a ha).2 x List.mem_cons_self
  · exact (h.off a ha).2 b (List.mem_cons_of_mem _ hb)⟩⟩
theorem Sr.cons (h : Sr w0 w L F r e s p c n xs) {x : Nat × List Value × TypeId} (hx : w.heap.size ≤ x.1) : Sr w0 w (x :: L) F r e s p c n xs := ⟨h.row, fun a ha => ⟨(h.off a ha).1, fun b hb => by
  rcases List.mem_cons.1 hb with rfl | hb
  · have := (h.row.at ha).2
    omega
  · exact (h.off a ha).2 b hb⟩⟩
theorem Sr.step (h : Sr w0 w L F r e s p c n xs) {w' : World} {F' : Nat → Prop} (hx : Ext (wF F r) w w') (hG : ∀ k, F' k → F k ∨ w.heap.size ≤ k) : Sr w0 w' L F' r e s p c n xs := by
  refine ⟨h.row.ext hx fun a ha => (h.off a ha).1, fun a ha => ⟨?_, (h.off a ha).2⟩⟩
  have hlt := (h.row.at ha).2
  rintro (hk | hk)
  · rcases hG _ hk with hk | hk
    · exact (h.off a ha).1 (.inl hk)
    · omega
  · exact (h.off a ha).1 (.inr hk)
theorem Sr.onl (h : Sr w0 w L F r e s p c n xs) {k : Nat} (hk : ∃ b ∈ L, b.1 = k) {w' : World} (hx : Ext (onl k) w w') : Sr w0 w' L F r e s p c n xs := by
  obtain ⟨b, hb, rfl⟩ := hk
  exact ⟨h.row.ext hx fun a ha ee => (h.off a ha).2 b hb (show _ = _ from Eq.symm ee), h.off⟩

theorem Sq.to (h : Sq w0 w L F0 F r g S B D N p c n ts q c' n' ms) {w' : World} (hx : Ext no w w') : Sq w0 w' L F0 F r g S B D N p c n ts q c' n' ms :=
  ⟨h.ext.then hx fun _ _ h => h.elim, fun b hb => ⟨hx.blk (h.kn b hb).1 fun h => h, (h.kn b hb).2⟩, h.wd.ext hx fun _ _ h => h, h.fr, h.off, h.o.to hx, h.m.to hx, h.ap⟩
theorem Sq.lt (h : Sq w0 w L F0 F r g S B D N p c n ts q c' n' ms) : ∀ k, wF F r k → k < w.heap.size := by
  rintro k (hk | rfl)
  · exact h.wd.f_lt k hk
  · exact h.wd.r_lt
theorem Sq.tail {x : Nat × List Value × TypeId} (h : Sq w0 w (x :: L) F0 F r g S B D N p c n ts q c' n' ms) : Sq w0 w L F0 F r g S B D N p c n ts q c' n' ms :=
  ⟨h.ext, fun b hb => h.kn b (List.mem_cons_of_mem _ hb), h.wd, h.fr, fun b hb => h.off b (List.mem_cons_of_mem _ hb), h.o.tail, h.m.tail, h.ap⟩
theorem Sq.nw (h : Sq w0 w L F0 F r g S B D N p c n ts q c' n' ms) {cs : List Value} {t : TypeId} {K : Nat → World → Prop} (hK : ∀ b w', Sq w0 w' ((b, cs, t) :: L) F0 F r g S B D N p c n ts q c' n' ms → K b w') : nw w (.cells cs.toArray t) K := by
  have hx := Ext.alloc w (.cells cs.toArray t)
  have h' := h.to hx
  refine nw_mk (hK _ _ ⟨h'.ext, fun b hb => ?_, h'.wd, h'.fr, fun b hb hk => ?_, (h.o.cons (by simp)).to hx, (h.m.cons (by simp)).to hx, h.ap⟩)
  · rcases List.mem_cons.1 hb with rfl | hb
    · exact ⟨new_blk w _, h.ext.size⟩
    · exact h'.kn b hb
  · rcases List.mem_cons.1 hb with rfl | hb
    · have := h.lt _ hk
      simp only at this
      omega
    · exact h.off b hb hk

/-- the head block is written, nothing else -/
theorem Sq.onl {b : Nat} {cs cs' : List Value} {t : TypeId} (h : Sq w0 w ((b, cs, t) :: L) F0 F r g S B D N p c n ts q c' n' ms) (hnd : ∀ x ∈ L, x.1 ≠ b) {w' : World} (hb : w'.heap[b]? = some (.cells cs'.toArray t (0, 0))) (hx : Ext (onl b) w w') :
    Sq w0 w' ((b, cs', t) :: L) F0 F r g S B D N p c n ts q c' n' ms := by
  have hbw : ¬ wF F r b := h.off (b, cs, t) List.mem_cons_self
  have hb0 := (h.kn (b, cs, t) List.mem_cons_self).2
  refine ⟨h.ext.then hx fun k hk e => ?_, fun x hx' => ?_, h.wd.ext hx fun k hk e => ?_, h.fr, fun x hx' => ?_, (h.o.onl ⟨_, List.mem_cons_self, rfl⟩ hx).cells rfl, (h.m.onl ⟨_, List.mem_cons_self, rfl⟩ hx).cells rfl, h.ap⟩
  · have e' : k = b := e
    simp only at hb0
    omega
  · rcases List.mem_cons.1 hx' with rfl | hx'
    · exact ⟨hb, hb0⟩
    · exact ⟨hx.blk (h.kn x (List.mem_cons_of_mem _ hx')).1 fun e => hnd x hx' e, (h.kn x (List.mem_cons_of_mem _ hx')).2⟩
  · have e' : k = b := e
    rw [e'] at hk
    exact hbw hk
  · rcases List.mem_cons.1 hx' with rfl | hx'
    · exact hbw
    · exact h.off x (List.mem_cons_of_mem _ hx')
theorem Sq.one {b j : Nat} {cs : List Value} {t : TypeId} (h : Sq w0 w [(b, cs, t)] F0 F r g S B D N p c n ts q c' n' ms) {v u : Value} {K : World → Prop} (hj : cs[j]? = some u) (h1 : Sx.one v = true)
    (hK : ∀ w', Sq w0 w' [(b, cs.set j v, t)] F0 F r g S B D N p c n ts q c' n' ms → K w') : Sx.st w ⟨b, j, none⟩ v K := by
  refine st_blk (h.kn _ List.mem_cons_self).1 (by simpa using (List.getElem?_eq_some_iff.1 hj).1) h1 fun w' hb hx _ => hK w' (h.onl (by simp) (by rw [hb]; simp) hx)
theorem Sq.st8 {b : Nat} {cs : List Value} {t : TypeId} (h : Sq w0 w [(b, cs, t)] F0 F r g S B D N p c n ts q c' n' ms) (hc : cs.length = 8) (e : Ent) {K : World → Prop} (hK : ∀ w', Sq w0 w' [(b, e.cells, t)] F0 F r g S B D N p c n ts q c' n' ms → K w') :
    Sx.st w ⟨b, 0, none⟩ (.int .i64 e.h) fun w1 => Sx.st w1 (Addr.add ⟨b, 0, none⟩ 1) (.int .i64 e.x) fun w2 => Sx.st w2 (Addr.add ⟨b, 0, none⟩ 2) (.int .i64 e.y) fun w3 => Sx.st w3 (Addr.add ⟨b, 0, none⟩ 3) (.int .i64 e.r) fun w4 =>
      Sx.st w4 (Addr.add ⟨b, 0, none⟩ 4) (.int .i64 e.vx) fun w5 => Sx.st w5 (Addr.add ⟨b, 0, none⟩ 5) (.int .i64 e.vy) fun w6 => Sx.st w6 (Addr.add ⟨b, 0, none⟩ 6) (.int .i64 e.o) fun w7 => Sx.st w7 (Addr.add ⟨b, 0, none⟩ 7) (.int .i64 e.t) fun w8 => K w8 := by
  match cs, hc with
  | [a0, a1, a2, a3, a4, a5, a6, a7], _ =>
    simp only [add_mk, Nat.zero_add]
    exact h.one rfl rfl fun w1 h1 => h1.one rfl rfl fun w2 h2 => h2.one rfl rfl fun w3 h3 => h3.one rfl rfl fun w4 h4 => h4.one rfl rfl fun w5 h5 => h5.one rfl rfl fun w6 h6 => h6.one rfl rfl fun w7 h7 => h7.one rfl rfl fun w8 h8 => hK w8 h8
theorem Sq.step (h : Sq w0 w L F0 F r g S B D N p c n ts q c' n' ms) {w' : World} {F' : Nat → Prop} {S' : List Spot} {B' : List (Int × Bx)} {D' : List ((Int × Int) × List Int)} {N' : Nat} (hw : Wd w' F' r g S' B' D' N') (hx : Ext (wF F r) w w') (hG : ∀ k, F' k → F k ∨ w.heap.size ≤ k) :
    Sq w0 w' L F0 F' r g S' B' D' N' p c n ts q c' n' ms := by
  refine ⟨h.ext.then hx fun k hk hkF => ?_, fun b hb => ⟨hx.blk (h.kn b hb).1 (h.off b hb), (h.kn b hb).2⟩, hw, fun k hk => ?_, fun b hb hk => ?_, h.o.step hx hG, h.m.step hx hG, h.ap⟩
  · rcases hkF with hkF | hkF
    · rcases h.fr k hkF with h' | h'
      · exact .inl h'
      · omega
    · exact .inr hkF
  · rcases hG k hk with h' | h'
    · exact h.fr k h'
    · have := h.ext.size
      exact .inr (by omega)
  · rcases hk with hk | hk
    · rcases hG _ hk with h' | h'
      · exact h.off b hb (.inl h')
      · have := blk_lt (h.kn b hb).1
        omega
    · exact h.off b hb (.inr hk)
/-- a row grows: the other one, the world and one's own blocks stay -/
theorem Sq.grow (h : Sq w0 w L F0 F r g S B D N p c n ts q c' n' ms) {e : TypeId} {s : Nat} {y : Option Addr} {cy ny : Nat} {xs : List Value} (hy : Sr w0 w L F r e s y cy ny xs) {w' : World} (hx : Ext (blocks y) w w') :
    Ext (wF F0 r) w0 w' ∧ (∀ b ∈ L, w'.heap[b.1]? = some (.cells b.2.1.toArray b.2.2 (0, 0)) ∧ w0.heap.size ≤ b.1) ∧ Wd w' F r g S B D N := by
  have hoff : ∀ k, blocks y k → (¬ wF F r k ∧ ∀ b ∈ L, b.1 ≠ k) ∧ w0.heap.size ≤ k := fun k ⟨a, ha, hk⟩ => hk ▸ ⟨hy.off a ha, (hy.row.at ha).1⟩
  refine ⟨h.ext.then hx fun k hk hkb => ?_, fun b hb => ⟨hx.blk (h.kn b hb).1 fun hk => (hoff _ hk).1.2 b hb rfl, (h.kn b hb).2⟩, h.wd.ext hx fun k hk hkb => (hoff k hkb).1.1 hk⟩
  have := (hoff k hkb).2
  omega
theorem Sr.moved (hy : Sr w0 w L F r e s p c n xs) (hlt : ∀ k, wF F r k → k < w.heap.size) (hkn : ∀ b ∈ L, b.1 < w.heap.size) {p' : Option Addr} (hM : Moved w p p') : ∀ a, p' = some a → ¬ wF F r a.block ∧ ∀ b ∈ L, b.1 ≠ a.block := fun a ha => by
  rcases hM with rfl | hM
  · exact hy.off a ha
  · have := hM a ha
    refine ⟨fun hk => ?_, fun b hb ee => ?_⟩
    · have := hlt _ hk
      omega
    · have := hkn b hb
      omega
theorem Sq.appO (h : Sq w0 w L F0 F r g S B D N p c n ts q c' n' ms) (hn : n ≤ 1000000) {t : Int × Int} {ty t' : TypeId} {K : Value → World → Prop}
    (hK : ∀ p' c'' w', Sq w0 w' L F0 F r g S B D N p' c'' (n + 1) (ts ++ [t]) q c' n' ms → K (.slice p' (n + 1) c'') w') :
    Sx.nw w (.cells #[.int .i64 t.1, .int .i64 t.2] t') fun r w1 => rn Tryd.prog (Builtin.append_ #[30, 30] ty #[.slice p n c, .slice (some ⟨r, 0, none⟩) 1 1]) w1 K := by
  refine sT.app1 h.o.row h.ext.size (vs := tcl t) rfl (by simp [tcl, Sx.one]) (le_maxLen (by omega)) (by omega) fun p' c'' w' hr hx hM => hK p' c'' w' ?_
  obtain ⟨g1, g2, g3⟩ := h.grow h.o hx
  refine ⟨g1, g2, g3, h.fr, h.off, ⟨by simpa using hr, h.o.moved h.lt (fun b hb => blk_lt (h.kn b hb).1) hM⟩, ⟨h.m.row.keep hx h.ap.symm, h.m.off⟩, hM.apart h.ap fun a ha => (h.m.row.at ha).2⟩
theorem Sq.appM (h : Sq w0 w L F0 F r g S B D N p c n ts q c' n' ms) (hn : n' ≤ 1000000) {v : Int} {ty t' : TypeId} {K : Value → World → Prop}
    (hK : ∀ q' c'' w', Sq w0 w' L F0 F r g S B D N p c n ts q' c'' (n' + 1) (ms ++ [v]) → K (.slice q' (n' + 1) c'') w') :
    Sx.nw w (.cells #[.int .i64 v] t') fun r w1 => rn Tryd.prog (Builtin.append_ #[23, 23] ty #[.slice q n' c', .slice (some ⟨r, 0, none⟩) 1 1]) w1 K := by
  refine sI1.app1 h.m.row h.ext.size (vs := [.int .i64 v]) rfl (by simp [Sx.one]) (le_maxLen (by omega)) (by omega) fun q' c'' w' hr hx hM => hK q' c'' w' ?_
  obtain ⟨g1, g2, g3⟩ := h.grow h.m hx
  refine ⟨g1, g2, g3, h.fr, h.off, ⟨h.o.row.keep hx h.ap, h.o.off⟩, ⟨by simpa [iv] using hr, h.m.moved h.lt (fun b hb => blk_lt (h.kn b hb).1) hM⟩, (hM.apart h.ap.symm fun a ha => (h.o.row.at ha).2).symm⟩
end

/-- who is in the list is where its handle says -/
theorem list_at {n : Nat} {S : List Spot} (hG : Good n S) {m : Nat} {e : Ent} (he : (listS S)[m]? = some e) :
    ∃ i s, S[i]? = some s ∧ s.there = true ∧ s.e = e ∧ atI S e.h = some i ∧ e.rightE = 0 ∧ e.I ∧ ∀ g e', listS (S.set i ⟨g, true, e'⟩) = (listS S).set m e' := by
  obtain ⟨i, s, h1, h2, rfl, h4⟩ := listS_at he
  obtain ⟨h5, h6, h7, h8⟩ := hG i s h1
  exact ⟨i, s, h1, h2, rfl, hG.at h1 h2, (h8 h2).1, (h8 h2).2.2.2, h4⟩
theorem list_right {n : Nat} {S : List Spot} (hG : Good n S) : ∀ e ∈ listS S, e.rightE = 0 := fun e he => by
  obtain ⟨m, s, hs, ht, rfl⟩ := listS_mem he
  exact ((hG m s hs).2.2.2 ht).1
theorem get_of {n : Nat} {S : List Spot} (hG : Good n S) {m : Nat} {e : Ent} (he : (listS S)[m]? = some e) : getE S e.h = e ∧ getC S e.h = 0 := by
  obtain ⟨i, s, h1, h2, h3, h4, _⟩ := list_at hG he
  unfold getE getC
  rw [h4]
  simp only [h1]
  exact ⟨h3, rfl⟩
end Go.Proofs.YtamobmjfdiecbaaDoor

/- PhU: physics.Step, whole. Conditions: those of each theorem, on its arguments. -/
namespace Go.Proofs.YtamobmjfdiecbaaDoor
open Go Go.Sx Go.Fp
attribute [local irreducible] jn lv ld st nw asI asB asP asS asY asM asF asA asT lp rn ru rq cl dw dr bnd bn2 nz nn hd hr so eqW
attribute [local irreducible] callOk

theorem Sq.drop {w0 w : World} {L : List (Nat × List Value × TypeId)} {F0 F : Nat → Prop} {r g : Nat} {S : List Spot} {B : List (Int × Bx)} {D : List ((Int × Int) × List Int)} {N : Nat} {p q : Option Addr} {c n c' n' : Nat} {ts : List (Int × Int)} {ms : List Int}
    (h : Sq w0 w L F0 F r g S B D N p c n ts q c' n' ms) : Sq w0 w L F0 F r g S B D N p c n ts none 0 0 [] :=
  ⟨h.ext, h.kn, h.wd, h.fr, h.off, h.o, ⟨RowN.nil _ _ _ _, fun a ha => by cases ha⟩, (Apart.none _).symm⟩
theorem Sq.mono {w0 w : World} {L : List (Nat × List Value × TypeId)} {F0 F : Nat → Prop} {r g : Nat} {S : List Spot} {B : List (Int × Bx)} {D : List ((Int × Int) × List Int)} {N : Nat} {p q : Option Addr} {c n c' n' : Nat} {ts : List (Int × Int)} {ms : List Int}
    (h : Sq w0 w L F0 F r g S B D N p c n ts q c' n' ms) {M : Nat} (hM : N ≤ M) : Sq w0 w L F0 F r g S B D M p c n ts q c' n' ms :=
  ⟨h.ext, h.kn, h.wd.mono hM, h.fr, h.off, h.o, h.m, h.ap⟩
theorem Sq.ax {w0 w : World} {L : List (Nat × List Value × TypeId)} {F0 F : Nat → Prop} {r g : Nat} {S : List Spot} {B : List (Int × Bx)} {D : List ((Int × Int) × List Int)} {N : Nat} {p q : Option Addr} {c n c' n' : Nat} {ts : List (Int × Int)} {ms : List Int}
    (h : Sq w0 w L F0 F r g S B D N p c n ts q c' n' ms) (hA : Ax w0) (h0 : ¬ wF F0 r 0) : Ax w := hA.ext h.ext h0

theorem turn1_eq {m : Nat} {s : Tn} {e : Ent} (he : s.L[m]? = some e) (k : Bool) :
    turn1 m s k = if (turnE s.L e k).2 ≠ 0 ∧ (turnE s.L e k).2 ∉ s.met then ⟨s.L.set m (turnE s.L e k).1, s.t ++ [(e.h, (turnE s.L e k).2)], s.met ++ [(turnE s.L e k).2]⟩ else ⟨s.L.set m (turnE s.L e k).1, s.t, s.met⟩ := by
  unfold turn1
  rw [he]

set_option maxHeartbeats 4000000 in
theorem step_k {w : World} {F : Nat → Prop} {r g n0 : Nat} {S : List Spot} {B : List (Int × Bx)} {D : List ((Int × Int) × List Int)} {N : Nat} (hA : Ax w) (h : Wd w F r g S B D N) (hF0 : ¬ wF F r 0) (hG : Good n0 S) (hLi : Lies S B D) (hB : (B.map (·.1)).Nodup) (hN : N ≤ 500000000000) {K : Value → World → Prop}
    (hK : ∀ p c w' F' S' B' D', Wd w' F' r g S' B' D' (N + 131072) → Ext (wF F r) w w' → (∀ k, F' k → F k ∨ w.heap.size ≤ k) → Good n0 S' → Lies S' B' D' → (B'.map (·.1)).Nodup → listS S' = (stepV (listS S)).L →
      RowN w' w.heap.size 47 2 p c (stepV (listS S)).t.length ((stepV (listS S)).t.flatMap tcl) → (∀ a, p = some a → ¬ wF F' r a.block) → K (.slice p (stepV (listS S)).t.length c) w') :
    cl Tryd.prog 11 #[.pointer (some ⟨r, 0, none⟩)] w K := by
  have hll := listS_len S
  rw [h.ws.len] at hll
  apply F11_calls
  unfold F11
  refine list_k h.ws fun p3 c5 w2 hx2 hr3 => asS_i rfl ?_
  have hrd := hr3.reads
  have hp3 : ∀ a, p3 = some a → w.heap.size ≤ a.block ∧ a.block < w2.heap.size := fun a ha => hr3.at ha
  have h2 := h.ext hx2 fun _ _ h => h
  have hA2 := hA.no hx2
  have hlt : ∀ k, wF F r k → k < w.heap.size := by
    rintro k (hk | rfl)
    · exact h.f_lt k hk
    · exact h.r_lt
  have hw0 := blk_lt h.ws.blk
  generalize hL : listS S = L0 at *
  refine lp_mk (fun s : (Option Addr × Nat × Nat) × Nat => [.slice s.1.1 s.1.2.1 s.1.2.2, .int .i64 (s.2 : Int)])
    (fun m s w' => m = L0.length - s.2 ∧ s.2 ≤ L0.length ∧ ∃ F' S' B' D', Sq w2 w' [] F F' r g S' B' D' (N + 2048 * s.2) s.1.1 s.1.2.2 s.1.2.1 (stepN L0 s.2).t none 0 0 [] ∧ s.1.2.1 = (stepN L0 s.2).t.length ∧ Good n0 S' ∧ Lies S' B' D' ∧ (B'.map (·.1)).Nodup ∧ listS S' = (stepN L0 s.2).L) L0.length ((none, 0, 0), 0) rfl
    ⟨rfl, Nat.zero_le _, F, S, B, D, ⟨Ext.refl _ _, by simp, h2, fun k hk => .inl hk, by simp, ⟨RowN.nil _ _ _ _, fun a ha => by cases ha⟩, ⟨RowN.nil _ _ _ _, fun a ha => by cases ha⟩, Apart.none _⟩, rfl, hG, hLi, hB, hL⟩ ?_
  rintro _ ⟨⟨p, nn, c⟩, i⟩ w7 ⟨rfl, hi, F1, S1, B1, D1, hS, hnn, hG1, hL1, hB1, hl1⟩ J hJ
  simp only at hi hS hnn hl1 hJ ⊢
  have ht1 := stepN_t (L := L0) i
  refine asS_i rfl (asI_i rfl (cond_split (fun hc => ?_) (fun hc => ?_)))
  · have hil : i < L0.length := by
      have := of_decide_eq_true hc
      omega
    have ei : IntKind.wrap .i64 ((i : Int) + 1) = ((i + 1 : Nat) : Int) := by rw [wr64 (by omega) (by omega)]; omega
    have hLi0 : L0[i]? = some L0[i] := List.getElem?_eq_getElem hil
    generalize L0[i] = e0 at hLi0
    rw [ei]
    -- who is there now
    have hh := stepN_h L0 i
    have hlen := stepN_len L0 i
    obtain ⟨e, he⟩ : ∃ e, (stepN L0 i).L[i]? = some e := ⟨_, List.getElem?_eq_getElem (by omega)⟩
    have heh : e.h = e0.h := by
      have a1 : ((stepN L0 i).L.map (·.h))[i]? = some e.h := by rw [List.getElem?_map, he]; rfl
      rw [hh, List.getElem?_map, hLi0] at a1
      simpa using a1.symm
    have hrd7 : Reads w7 p3 (L0.flatMap Ent.cells) := hrd.ext hS.ext fun a ha hk => by
      have := hp3 a ha
      have := hlt _ hk
      omega
    refine Reads.atN (f := Ent.cells) Ent.cells_length hrd7 rfl hLi0 (by decide) fun a1 _ hca => ?_
    rw [Int.toNat_natCast]
    refine ld8c hca ?_
    refine hS.nw (cs := Ent.zero.cells) fun r30 w31 hS => ?_
    refine hS.st8 rfl e0 fun w39 hS => ?_
    have kcell : ∀ {w' : World} {e : Ent}, w'.heap[r30]? = some (.cells e.cells.toArray 40 (0, 0)) → ∀ k v, e.cells[k]? = some v → w'.cell? ⟨r30, k, none⟩ = some v := fun hb k v hv => by
      rw [blk_cell hb]
      simpa using hv
    refine ld_mk (kcell (hS.kn _ List.mem_cons_self).1 0 _ rfl) (asI_i rfl ?_)
    have hl1e : (listS S1)[i]? = some e := by rw [hl1]; exact he
    have hgo := get_of hG1 hl1e
    rw [heh] at hgo
    refine get_k hS.wd.ws fun w43 hx43 => ?_
    rw [hgo.1, hgo.2]
    replace hS := hS.to hx43
    refine asT_i (l := [e.v, .int .i64 0]) rfl rfl (asI8 ?_)
    refine asI_i rfl (asI_i rfl (asI_i rfl (asI_i rfl (asI_i rfl (asI_i rfl (asI_i rfl (asI_i rfl (asI_i rfl ?_))))))))
    refine hS.st8 rfl e fun w62 hS => ?_
    have hr30 : r30 ≠ 0 := fun e0 => by
      have := (hS.kn _ List.mem_cons_self).2
      have := hx2.size
      simp only at *
      omega
    clear hca hl1e hgo
    refine lp_mk (fun s : ((Option Addr × Nat × Nat) × (Option Addr × Nat × Nat)) × Nat => [.slice s.1.1.1 s.1.1.2.1 s.1.1.2.2, .slice s.1.2.1 s.1.2.2.1 s.1.2.2.2, .int .i64 (s.2 : Int)])
      (fun m s w' => m = 2 - s.2 ∧ s.2 ≤ 2 ∧ ∃ F' S' B' D' e', Sq w2 w' [(r30, e'.cells, 40)] F F' r g S' B' D' (N + 2048 * i + 1024 * s.2) s.1.1.1 s.1.1.2.2 s.1.1.2.1 (turnN i ⟨(stepN L0 i).L, (stepN L0 i).t, []⟩ s.2).t s.1.2.1 s.1.2.2.2 s.1.2.2.1 (turnN i ⟨(stepN L0 i).L, (stepN L0 i).t, []⟩ s.2).met ∧
        s.1.1.2.1 = (turnN i ⟨(stepN L0 i).L, (stepN L0 i).t, []⟩ s.2).t.length ∧ s.1.2.2.1 = (turnN i ⟨(stepN L0 i).L, (stepN L0 i).t, []⟩ s.2).met.length ∧ Good n0 S' ∧ Lies S' B' D' ∧ (B'.map (·.1)).Nodup ∧ listS S' = (turnN i ⟨(stepN L0 i).L, (stepN L0 i).t, []⟩ s.2).L ∧ (turnN i ⟨(stepN L0 i).L, (stepN L0 i).t, []⟩ s.2).L[i]? = some e') 2 (((p, nn, c), (none, 0, 0)), 0) rfl
      ⟨rfl, Nat.zero_le _, F1, S1, B1, D1, e, hS, hnn, rfl, hG1, hL1, hB1, hl1, he⟩ ?_
    clear hS hG1 hL1 hB1 hl1 hnn he heh hrd7
    rintro _ ⟨⟨⟨p, nn, c⟩, ⟨q, n', c'⟩⟩, k⟩ w64 ⟨rfl, hk, F1, S1, B1, D1, e, hS, hnn, hn', hG1, hL1, hB1, hl1, he⟩ J2 hJ2
    simp only at hk hS hnn hn' hl1 he hJ2 ⊢
    have htt := turnN_t (m := i) (s := ⟨(stepN L0 i).L, (stepN L0 i).t, []⟩) k
    obtain ⟨s, hs⟩ : ∃ s, turnN i ⟨(stepN L0 i).L, (stepN L0 i).t, []⟩ k = s := ⟨_, rfl⟩
    have hsuc : turnN i ⟨(stepN L0 i).L, (stepN L0 i).t, []⟩ (k + 1) = turn1 i s (k == 1) := by rw [← hs]; rfl
    have hend : k = 2 → s = stepN L0 (i + 1) := fun e2 => by rw [← hs, e2]; rfl
    rw [hs] at hS hnn hn' hl1 he htt
    have hlts : s.t.length ≤ 1000 ∧ s.met.length ≤ 1000 := by
      simp only [List.length_nil] at htt
      omega
    refine asS_i rfl (asS_i rfl (asI_i rfl (cond_split (fun hc => ?_) (fun hc => ?_))))
    · have hk2 : k < 2 := by
        have := of_decide_eq_true hc
        omega
      have ek : IntKind.wrap .i64 ((k : Int) + 1) = ((k + 1 : Nat) : Int) := by rw [wr64 (by omega) (by omega)]; omega
      have ekI : ((k : Nat) : Int) = kI (k == 1) := by
        have : k = 0 ∨ k = 1 := by omega
        rcases this with rfl | rfl <;> rfl
      rw [ek]
      have ht1e := turn1_eq he (k == 1)
      have heS : (listS S1)[i]? = some e := by rw [hl1]; exact he
      have hlR := list_right hG1
      obtain ⟨i1, s1, hs1, hth1, hse1, hat1, heR, heI, hset1⟩ := list_at hG1 heS
      have hisl := (List.getElem?_eq_some_iff.1 he).1
      refine jn_of (fun t w' => ∃ p n c q n' c', t = [.slice p n c, .slice q n' c'] ∧ ∃ F' S' B' D', Sq w2 w' [(r30, (turnE s.L e (k == 1)).1.cells, 40)] F F' r g S' B' D' (N + 2048 * i + 1024 * (k + 1)) p c n (turn1 i s (k == 1)).t q c' n' (turn1 i s (k == 1)).met ∧
          n = (turn1 i s (k == 1)).t.length ∧ n' = (turn1 i s (k == 1)).met.length ∧ Good n0 S' ∧ Lies S' B' D' ∧ (B'.map (·.1)).Nodup ∧ listS S' = (turn1 i s (k == 1)).L) ?_ ?_
      · rintro _ w18 ⟨p, n, c, q, n', c', rfl, F', S', B', D', g1, g2, g3, g4, g5, g6, g7⟩
        refine asS_i rfl (asS_i rfl (hJ2 (2 - (k + 1)) (((p, n, c), (q, n', c')), k + 1) w18 (by omega) ⟨rfl, by omega, F', S', B', D', (turnE s.L e (k == 1)).1, ?_⟩))
        simp only
        rw [hsuc]
        refine ⟨g1, g2, g3, g4, g5, g6, g7, ?_⟩
        rw [ht1e]
        split
        · exact List.getElem?_set_self hisl
        · exact List.getElem?_set_self hisl
      · intro J3 hJ3
        refine lv_i ?_
        rw [ekI]
        refine turn_k (hS.ax hA2 hF0) hS.wd.ws (hS.kn _ List.mem_cons_self).1 hr30 heR hlR (k == 1) fun w78 hb78 hx78 => asI_i rfl (lv_i ?_)
        rw [hl1] at hb78 ⊢
        replace hS := hS.onl (cs' := (turnE s.L e (k == 1)).1.cells) (by simp) hb78 hx78
        have hTR := turnE_right (L := s.L) (k := k == 1) heR
        have hTI := turnE_I (L := s.L) (k := k == 1) heI
        have hTh := turnE_h s.L e (k == 1)
        generalize turnE s.L e (k == 1) = T at *
        refine ld_mk (kcell hb78 0 _ rfl) (asI_i rfl (ld8c (e := T.1) (rd8 hb78) ?_))
        have hse0 : setE S1 T.1.h T.1 = 0 := by
          unfold setE
          rw [hTh, hat1, if_pos (by rfl)]
          exact hTR
        refine set_k hS.wd (by omega) (hh := T.1.h) (e := T.1) (fun w' _ hne => absurd hse0 hne) fun w100 F2 i2 s2 _ _ hat2 _ _ hs2 ht2 he2 hw hx hF _ => asI_i rfl ?_
        rw [hTh, hat1] at hat2
        cases hat2
        rw [hs1] at hs2
        cases hs2
        have hG2 := hG1.setE hs1 hth1 hTR hTI he2
        have hL2 := hL1.move hB1 hS.wd.nd hs1 hth1 hTR T.1.h
        have hB2 := nd_move (s := wside) (id := (i1 : Int)) (b := T.1.box) hB1
        have hl2 := hset1 s1.gen T.1
        rw [hth1] at hG2 hL2 hw
        have eT : ({ T.1 with h := T.1.h } : Ent) = T.1 := rfl
        rw [eT] at hG2 hL2 hw
        rw [hl1] at hl2
        replace hS := hS.step hw hx hF
        generalize S1.set i1 ⟨s1.gen, true, T.1⟩ = S2 at *
        refine jn_of (fun t w' => t = [.bool (decide (T.2 ≠ 0 ∧ T.2 ∉ s.met))] ∧ w' = w100) ?_ ?_
        · rintro _ w103 ⟨rfl, rfl⟩
          refine asB_i rfl (cond_split (fun hcc => ?_) (fun hcc => ?_))
          · have hcc' := of_decide_eq_true hcc
            rw [if_pos hcc'] at ht1e
            rw [ht1e] at hJ3
            refine hS.appM (by omega) fun q2 c2 w112 hS => asS_i rfl ?_
            refine ld_mk (kcell (hS.kn _ List.mem_cons_self).1 0 _ rfl) (asI_i rfl ?_)
            rw [hTh]
            refine hS.appO (t := (e.h, T.2)) (by omega) fun p2 c3 w121 hS => asS_i rfl (hJ3 _ _ ⟨p2, _, c3, q2, _, c2, rfl, F2, S2, _, _, hS.mono (by omega), ?_, ?_, hG2, hL2, hB2, hl2⟩)
            · simp [hnn]
            · simp [hn']
          · have hcc' := of_decide_eq_false hcc
            rw [if_neg hcc'] at ht1e
            rw [ht1e] at hJ3
            exact hJ3 _ _ ⟨p, nn, c, q, n', c', rfl, F2, S2, _, _, hS.mono (by omega), hnn, hn', hG2, hL2, hB2, hl2⟩
        · intro J4 hJ4
          refine cond_split (fun h0 => ?_) (fun h0 => hJ4 _ _ ⟨?_, rfl⟩)
          · have h0' : T.2 ≠ 0 := by simpa using h0
            refine contains_k hS.m.row.reads hn'.symm (by omega) (asB_i rfl (hJ4 _ _ ⟨?_, rfl⟩))
            by_cases hm : T.2 ∈ s.met
            · rw [decide_eq_true hm, decide_eq_false (fun h => h.2 hm)]; rfl
            · rw [decide_eq_false hm, decide_eq_true (show T.2 ≠ 0 ∧ T.2 ∉ s.met from ⟨h0', hm⟩)]; rfl
          · have h0' : T.2 = 0 := by simpa using h0
            rw [decide_eq_false (fun h => h.1 h0')]
    · have hk2 : k = 2 := by
        have := of_decide_eq_false hc
        omega
      rw [hend hk2] at hS hnn hl1
      refine hJ (L0.length - (i + 1)) ((p, nn, c), i + 1) w64 (by omega) ⟨rfl, hil, F1, S1, B1, D1, ?_, hnn, hG1, hL1, hB1, hl1⟩
      have := hS.tail.drop.mono (M := N + 2048 * (i + 1)) (by omega)
      exact this
  · have hil : i = L0.length := by
      have := of_decide_eq_false hc
      omega
    subst hil
    have e1 : stepV L0 = stepN L0 L0.length := rfl
    rw [e1] at hK
    rw [hnn]
    refine hK p c w7 F1 S1 B1 D1 (hS.wd.mono (by omega)) (((Ext.of_no hx2)).trans hS.ext) (fun k hk => ?_) hG1 hL1 hB1 hl1 ?_ fun a ha => (hS.o.off a ha).1
    · rcases hS.fr k hk with h' | h'
      · exact .inl h'
      · have := hx2.size
        exact .inr (by omega)
    · rw [← hnn]
      exact hS.o.row.mono hx2.size
end Go.Proofs.YtamobmjfdiecbaaDoor

/- WoX: a world's clone. Conditions: those of each theorem, on its arguments. -/
namespace Go.Proofs.YtamobmjfdiecbaaDoor
open Go Go.Sx Go.Fp
attribute [local irreducible] jn lv ld st nw asI asB asP asS asY asM asF asA asT lp rn ru rq cl dw dr bnd bn2 nz nn hd hr so eqW
attribute [local irreducible] callOk

theorem stC {r : Nat} {t : TypeId} {A : Addr} : ∀ {vs old pre : List Value} {i : Nat} {w : World} {K : World → Prop}, (∀ k, Addr.add A (i + k) = ⟨r, pre.length + k, none⟩) → w.heap[r]? = some (.cells (pre ++ old).toArray t (0, 0)) → vs.length = old.length → (∀ u ∈ vs, Sx.one u = true) →
    (∀ w', w'.heap[r]? = some (.cells (pre ++ vs).toArray t (0, 0)) → Ext (onl r) w w' → w'.heap.size = w.heap.size → K w') → stCells A vs i w K
  | [], old, pre, i, w, K, _, hb, hl, _, hK => by
    have : old = [] := List.eq_nil_of_length_eq_zero hl.symm
    subst this
    exact hK w hb (Ext.refl _ _) rfl
  | v :: vs, [], pre, i, w, K, _, _, hl, _, _ => by simp at hl
  | v :: vs, o :: old, pre, i, w, K, hA, hb, hl, h1, hK => by
    have h0 := hA 0
    simp only [Nat.add_zero] at h0
    unfold stCells
    rw [h0]
    refine st_blk hb (k := pre.length) (by simp) (h1 v List.mem_cons_self) fun w1 hb1 hx1 hz1 => ?_
    have e : (pre ++ o :: old).toArray.setIfInBounds pre.length v = ((pre ++ [v]) ++ old).toArray := by simp
    rw [e] at hb1
    refine stC (pre := pre ++ [v]) (fun k => ?_) hb1 (by simpa using hl) (fun u hu => h1 u (List.mem_cons_of_mem _ hu)) fun w2 hb2 hx2 hz2 => hK w2 ?_ (hx1.trans hx2) (by omega)
    · rw [Nat.add_assoc, hA (1 + k)]
      congr 1
      simp
      omega
    · rw [hb2]
      simp

/-- the boxes of those below a place -/
structure LiesU (S : List Spot) (n : Nat) (B : List (Int × Bx)) (D : List ((Int × Int) × List Int)) : Prop where
  cons : Cons wside B D
  to : ∀ (j : Nat) s, j < n → S[j]? = some s → s.there = true → aget B (j : Int) = some s.e.box
  of : ∀ x b, aget B x = some b → ∃ (j : Nat) (s : Spot), x = (j : Int) ∧ j < n ∧ S[j]? = some s ∧ s.there = true ∧ s.e.box = b
  nd : (B.map (·.1)).Nodup

theorem LiesU.zero (S : List Spot) : LiesU S 0 [] [] := ⟨Cons.nil _, fun j s h => absurd h (by omega), fun x b h => by simp [aget, afind] at h, by simp⟩
theorem LiesU.skip {S : List Spot} {i : Nat} {B : List (Int × Bx)} {D : List ((Int × Int) × List Int)} (h : LiesU S i B D) {s : Spot} (hs : S[i]? = some s) (ht : s.there = false) : LiesU S (i + 1) B D := by
  refine ⟨h.cons, fun j t hj hjt htt => ?_, fun x b hx => ?_, h.nd⟩
  · by_cases hji : j = i
    · subst hji
      rw [hs] at hjt
      cases hjt
      rw [ht] at htt
      cases htt
    · exact h.to j t (by omega) hjt htt
  · obtain ⟨j, t, h1, h2, h3⟩ := h.of x b hx
    exact ⟨j, t, h1, by omega, h3⟩
theorem LiesU.put {S : List Spot} {i : Nat} {B : List (Int × Bx)} {D : List ((Int × Int) × List Int)} (h : LiesU S i B D) {s : Spot} (hs : S[i]? = some s) (ht : s.there = true) (he : s.e.rightE = 0) : LiesU S (i + 1) (gputB wside B (i : Int) s.e.box) (gputD wside B D (i : Int) s.e.box) := by
  have hE : gputE wside B (i : Int) s.e.box = 0 := by
    unfold gputE
    rw [if_neg (by omega), if_neg, box_cells he]
    intro hsome
    obtain ⟨b, hb⟩ := Option.isSome_iff_exists.1 hsome
    obtain ⟨j, t, h1, h2, _⟩ := h.of _ b hb
    omega
  refine ⟨h.cons.put _ _, fun j t hj hjt htt => ?_, fun x b hx => ?_, nd_put h.nd⟩
  · rw [get_put]
    by_cases hji : j = i
    · subst hji
      rw [hs] at hjt
      cases hjt
      rw [if_pos ⟨hE, rfl⟩]
    · rw [if_neg (fun hh => hji (by have := hh.2; omega))]
      exact h.to j t (by omega) hjt htt
  · rw [get_put] at hx
    split at hx
    · rename_i hh
      cases hx
      exact ⟨i, s, hh.2, by omega, hs, ht, rfl⟩
    · obtain ⟨j, t, h1, h2, h3⟩ := h.of x b hx
      exact ⟨j, t, h1, by omega, h3⟩
theorem LiesU.all {S : List Spot} (hl : S.length = 64) {B : List (Int × Bx)} {D : List ((Int × Int) × List Int)} (h : LiesU S 64 B D) : Lies S B D := by
  refine ⟨h.cons, fun j s hs ht => h.to j s (by have := (List.getElem?_eq_some_iff.1 hs).1; omega) hs ht, fun x b hx => ?_⟩
  obtain ⟨j, t, h1, _, h3⟩ := h.of x b hx
  exact ⟨j, t, h1, h3⟩
end Go.Proofs.YtamobmjfdiecbaaDoor

/- WoY: a world's clone: the walk. Conditions: those of each theorem, on its arguments. -/
namespace Go.Proofs.YtamobmjfdiecbaaDoor
open Go Go.Sx Go.Fp
attribute [local irreducible] jn lv ld st nw asI asB asP asS asY asM asF asA asT lp rn ru rq cl dw dr bnd bn2 nz nn hd hr so eqW
attribute [local irreducible] callOk

theorem flat_one {S : List Spot} : ∀ u ∈ S.flatMap Spot.cells, Sx.one u = true := by
  intro u hu
  obtain ⟨s, _, hu⟩ := List.mem_flatMap.1 hu
  simp only [Spot.cells, Ent.cells, List.cons_append, List.nil_append, List.mem_cons, List.not_mem_nil, or_false] at hu
  rcases hu with rfl | rfl | rfl | rfl | rfl | rfl | rfl | rfl | rfl | rfl <;> rfl

theorem hold_ws {w : World} {r g : Nat} {S : List Spot} (hw : WS w r g S) : Hold Tryd.prog w (factsOf (Addr.add ⟨r, 0, none⟩ 1) 0 (S.flatMap Spot.cells)) := by
  refine hold_of _ 0 fun j v hj => ?_
  rw [Nat.zero_add, add_mk, add_mk, blk_cell hw.blk]
  unfold wc
  rw [List.getElem?_toArray, Nat.zero_add, Nat.add_comm 1, List.getElem?_cons_succ]
  exact hj

/-- a box into a world's grid, past the world's own call -/
theorem Wd.put {w : World} {F : Nat → Prop} {r g : Nat} {S : List Spot} {B : List (Int × Bx)} {D : List ((Int × Int) × List Int)} {N : Nat} (h : Wd w F r g S B D N) (hN : N ≤ 549755813888) {id : Int} {b : Bx} {K : Value → World → Prop}
    (hK : ∀ w' F', Wd w' F' r g S (gputB wside B id b) (gputD wside B D id b) (N + 1024) → Ext F w w' → (∀ k, F' k → F k ∨ w.heap.size ≤ k) → K (.int .i64 (gputE wside B id b)) w') :
    cl Tryd.prog 35 #[.pointer (some ⟨g, 0, none⟩), .int .i64 id, b.v] w K := by
  obtain ⟨mb, mc, C, bb, kb, bc, kc, hg, rfl⟩ := h.gr
  have hbd := h.bd
  refine gPut_k hg (fun x => by have := hbd x; omega) fun w' F' C' bb' kb' bc' kc' hg' hp hx hF _ => hK w' F' ?_ hx hF
  refine ⟨h.ws.ext hx h.nr, ⟨mb, mc, C', bb', kb', bc', kc', hg', hp⟩, fun hk => ?_, fun x => Nat.le_trans (gputD_len x) (by have := hbd x; omega), h.gen⟩
  rcases hF r hk with hk | hk
  · exact h.nr hk
  · have := h.r_lt
    omega

set_option maxHeartbeats 4000000 in
theorem clone_k {w : World} {F : Nat → Prop} {r g : Nat} {S : List Spot} {B : List (Int × Bx)} {D : List ((Int × Int) × List Int)} {N n : Nat} (h : Wd w F r g S B D N) (hG : Good n S) {K : Value → World → Prop}
    (hK : ∀ w' F' r' g' B' D', Wd w' F' r' g' S B' D' (1024 * 64) → Lies S B' D' → (B'.map (·.1)).Nodup → Ext no w w' → (∀ k, F' k → w.heap.size ≤ k) → w.heap.size ≤ r' → K (.pointer (some ⟨r', 0, none⟩)) w') :
    cl Tryd.prog 19 #[.pointer (some ⟨r, 0, none⟩)] w K := by
  have h64 := h.ws.len
  have hl := fl_lenN (f := Spot.cells) Spot.cells_length S
  have hgen := h.gen
  apply F19_calls
  unfold F19
  refine wnew_k fun w1 F1 r1 g1 hw1 hx1 hF1 hr1 => asP_i rfl ?_
  have hs1 := (h.ext hx1 fun _ _ h => h).ws
  refine dr_i ⟨S.flatMap Spot.cells, by rw [hl, h64], hold_ws hs1, ?_⟩
  refine dr_i (cond_t (by rw [hl, h64]; rfl) ?_)
  have hb1 := hw1.ws.blk
  unfold wc at hb1
  have hz : (List.replicate 64 Spot.zero).flatMap Spot.cells = (List.replicate 64 Spot.zero).flatMap Spot.cells := rfl
  have hlz := fl_lenN (f := Spot.cells) Spot.cells_length (List.replicate 64 Spot.zero)
  refine stC (pre := [.pointer (some ⟨g1, 0, none⟩)]) (old := (List.replicate 64 Spot.zero).flatMap Spot.cells) (fun k => ?_) hb1 (by rw [hl, hlz, h64]; simp) flat_one fun w2 hb2 hx2 hz2 => ?_
  · rw [add_mk, add_mk]
    congr 1
    simp
  have hF1r : ∀ k, F1 k → k ≠ r1 := fun k hk e => hw1.nr (e ▸ hk)
  have hW2 : Wd w2 F1 r1 g1 S [] [] 0 := by
    obtain ⟨mb, mc, C, bb, kb, bc, kc, hg, hp⟩ := hw1.gr
    exact ⟨⟨hb2, h64⟩, ⟨mb, mc, C, bb, kb, bc, kc, hg.ext hx2 fun k hk e => hF1r k hk e, hp⟩, hw1.nr, hw1.bd, hgen⟩
  have hx02 : Ext no w w2 := hx1.then hx2 fun k hk e => by
    have : k = r1 := e
    omega
  refine dr_i ⟨S.flatMap Spot.cells, by rw [hl, h64], hold_ws hW2.ws, ?_⟩
  refine lp_mk (fun i : Nat => [.int .i64 (i : Int)]) (fun m i w' => m = 64 - i ∧ i ≤ 64 ∧ Ext no w w' ∧ ∃ F' B' D', Wd w' F' r1 g1 S B' D' (1024 * i) ∧ LiesU S i B' D' ∧ ∀ k, F' k → w.heap.size ≤ k) 64 0 rfl
    ⟨rfl, Nat.zero_le _, hx02, F1, [], [], hW2, LiesU.zero S, hF1⟩ ?_
  rintro _ i w3 ⟨rfl, hi, hx3, F', B', D', hW, hU, hF⟩ J hJ
  refine asI_i rfl (cond_split (fun hc => ?_) (fun hc => ?_))
  · have hil : i < 64 := by
      have := of_decide_eq_true hc
      omega
    have ei : IntKind.wrap .i64 ((i : Int) + 1) = ((i + 1 : Nat) : Int) := by rw [wr64 (by omega) (by omega)]; omega
    have hs : S[i]? = some S[i] := List.getElem?_eq_getElem (by omega)
    generalize S[i] = s at hs
    rw [ei, Int.toNat_natCast, extract_spot hs]
    refine jn_of (fun _ w' => Ext no w w' ∧ ∃ F' B' D', Wd w' F' r1 g1 S B' D' (1024 * (i + 1)) ∧ LiesU S (i + 1) B' D' ∧ ∀ k, F' k → w.heap.size ≤ k) ?_ ?_
    · rintro _ w4 ⟨hx4, h4⟩
      exact hJ (64 - (i + 1)) (i + 1) w4 (by omega) ⟨rfl, by omega, hx4, h4⟩
    · intro J2 hJ2
      refine bnd_mk (by omega) (by omega) (asA_i (l := s.cells) rfl rfl (asI_i rfl (asB_i rfl (asI_i rfl (asI_i rfl (asI_i rfl (asI_i rfl (asI_i rfl (asI_i rfl (asI_i rfl (asI_i rfl ?_)))))))))))
      refine (St.start w3).nw (cs := [.int .i64 0, .bool false, .int .i64 0, .int .i64 0, .int .i64 0, .int .i64 0, .int .i64 0, .int .i64 0, .int .i64 0, .int .i64 0]) fun r28 w4 hZ => lv_i ?_
      refine hZ.st0 0 rfl rfl rfl fun w7 hZ => hZ.st 0 rfl rfl rfl fun w8 hZ => hZ.st 0 rfl rfl rfl fun w9 hZ => hZ.st 0 rfl rfl rfl fun w10 hZ => hZ.st 0 rfl rfl rfl fun w11 hZ => ?_
      refine hZ.st 0 rfl rfl rfl fun w12 hZ => hZ.st 0 rfl rfl rfl fun w13 hZ => hZ.st 0 rfl rfl rfl fun w14 hZ => hZ.st 0 rfl rfl rfl fun w15 hZ => hZ.st 0 rfl rfl rfl fun w16 hZ => ?_
      replace hZ : St w3 w16 [(r28, s.cells, 67)] := hZ
      have rd : ∀ {w' : World}, Ext no w16 w' → ∀ k v, s.cells[k]? = some v → w'.cell? ⟨r28, k, none⟩ = some v := fun hx k v hv => by
        rw [blk_cell ((hZ.to hx).kn _ List.mem_cons_self).1]
        simpa using hv
      have hx16 := hx3.trans hZ.ext
      refine ld_mk (by rw [add_mk]; exact rd (Ext.refl _ _) 1 _ rfl) (asB_i rfl (cond_split (fun ht => ?_) (fun ht => ?_)))
      · refine dw_mk ?_
        have hxd := Ext.drew w16
        have hWd := (hW.ext hZ.ext fun _ _ h => h).ext hxd fun _ _ h => h
        have hxx := hx16.trans hxd
        refine dr_i (ld_mk hWd.ws.cell0 (asP_i rfl ?_))
        refine ld_mk (by rw [add_mk, add_mk]; exact rd hxd 3 _ rfl) (asI_i rfl (ld_mk (by rw [add_mk, add_mk, add_mk]; exact rd hxd 4 _ rfl) (asI_i rfl (ld_mk (by rw [add_mk, add_mk, add_mk]; exact rd hxd 5 _ rfl) (asI_i rfl ?_)))))
        have he := ((hG i s hs).2.2.2 ht).1
        refine hWd.put (by omega) (b := s.e.box) fun w17 F17 hW17 hx17 hF17 => asI_i rfl (hJ2 _ _ ⟨?_, F17, _, _, ?_, hU.put hs ht he, fun k hk => ?_⟩)
        · exact hxx.then hx17 fun k hk hkF => by
            have := hF k hkF
            omega
        · rw [show 1024 * (i + 1) = 1024 * i + 1024 from by omega]
          exact hW17
        · rcases hF17 k hk with hk | hk
          · exact hF k hk
          · have := hxx.size
            omega
      · exact hJ2 _ _ ⟨hx16, F', B', D', (hW.ext hZ.ext fun _ _ h => h).mono (by omega), hU.skip hs ht, hF⟩
  · have hi64 : i = 64 := by
      have := of_decide_eq_false hc
      omega
    subst hi64
    exact hK w3 F' r1 g1 B' D' hW (hU.all h64) hU.nd hx3 hF hr1
end Go.Proofs.YtamobmjfdiecbaaDoor

/- WoZ: a world and the document's own beside blocks of one's own. Conditions: those of each theorem, on its arguments. -/
namespace Go.Proofs.YtamobmjfdiecbaaDoor
open Go Go.Sx Go.Fp
attribute [local irreducible] jn lv ld st nw asI asB asP asS asY asM asF asA asT lp rn ru rq cl dw dr bnd bn2 nz nn hd hr so eqW
attribute [local irreducible] callOk

/-- the code's world with places S, the document's with places T -/
structure W2 (W w : World) (L : List (Nat × List Value × TypeId)) (r g : Nat) (S : List Spot) (B : List (Int × Bx)) (D : List ((Int × Int) × List Int)) (N : Nat) (x : Nat) (T : List Spot) : Prop where
  st : St W w L
  gr : ∃ F, Wd w F r g S B D N ∧ XW w x T ∧ ¬ wF F r x ∧ ∀ k, (wF F r k ∨ k = x) → W.heap.size ≤ k ∧ ∀ b ∈ L, b.1 ≠ k

section
variable {W w : World} {L : List (Nat × List Value × TypeId)} {r g x : Nat} {S T : List Spot} {B : List (Int × Bx)} {D : List ((Int × Int) × List Int)} {N : Nat}

theorem W2.to (h : W2 W w L r g S B D N x T) {w' : World} (hx : Ext no w w') : W2 W w' L r g S B D N x T := by
  obtain ⟨F, h1, h2, h3, h4⟩ := h.gr
  exact ⟨h.st.to hx, F, h1.ext hx fun _ _ h => h, h2.ext hx fun h => h, h3, h4⟩
theorem W2.mono (h : W2 W w L r g S B D N x T) {M : Nat} (hM : N ≤ M) : W2 W w L r g S B D M x T := by
  obtain ⟨F, h1, h2, h3, h4⟩ := h.gr
  exact ⟨h.st, F, h1.mono hM, h2, h3, h4⟩
theorem W2.step1 {F : Nat → Prop} (hs : St W w L) (h1 : Wd w F r g S B D N) (h2 : XW w x T) (h3 : ¬ wF F r x) (h4 : ∀ k, (wF F r k ∨ k = x) → W.heap.size ≤ k ∧ ∀ b ∈ L, b.1 ≠ k)
    {w' : World} {F' : Nat → Prop} {S' : List Spot} {B' : List (Int × Bx)} {D' : List ((Int × Int) × List Int)} {N' : Nat} (hw : Wd w' F' r g S' B' D' N') (hx : Ext (wF F r) w w') (hF : ∀ k, F' k → F k ∨ w.heap.size ≤ k) : W2 W w' L r g S' B' D' N' x T := by
  have hxl := blk_lt h2.blk
  refine ⟨hs.toX hx (fun k hk => (h4 k (.inl hk)).1) (fun b hb hk => (h4 _ (.inl hk)).2 b hb rfl), F', hw, h2.ext hx h3, ?_, ?_⟩
  · rintro (hk | hk)
    · rcases hF _ hk with hk | hk
      · exact h3 (.inl hk)
      · omega
    · exact h3 (.inr hk)
  · rintro k ((hk | hk) | hk)
    · rcases hF _ hk with hk | hk
      · exact h4 k (.inl (.inl hk))
      · have := hs.ext.size
        refine ⟨by omega, fun b hb => ?_⟩
        have := blk_lt (hs.kn b hb).1
        omega
    · exact h4 k (.inl (.inr hk))
    · exact h4 k (.inr hk)
theorem W2.step2 {F : Nat → Prop} (hs : St W w L) (h1 : Wd w F r g S B D N) (h3 : ¬ wF F r x) (h4 : ∀ k, (wF F r k ∨ k = x) → W.heap.size ≤ k ∧ ∀ b ∈ L, b.1 ≠ k)
    {w' : World} {T' : List Spot} (hw : XW w' x T') (hx : Ext (onl x) w w') : W2 W w' L r g S B D N x T' := by
  refine ⟨hs.toX hx (fun k hk => (h4 k (.inr hk)).1) (fun b hb hk => (h4 _ (.inr hk)).2 b hb rfl), F, h1.ext hx fun k hk e => ?_, hw, h3, h4⟩
  have e' : k = x := e
  rw [e'] at hk
  exact h3 hk

theorem W2.spawn (h : W2 W w L r g S B D N x T) (hN : N ≤ 549755813888) {e : Ent} {K : Value → World → Prop}
    (hbad : ∀ w', W2 W w' L r g S B D N x T → e.rightE ≠ 0 → K (.tuple #[.int .i64 0, .int .i64 e.rightE]) w')
    (hfull : ∀ w', W2 W w' L r g S B D N x T → e.rightE = 0 → (∀ (j : Nat) s, S[j]? = some s → free s = false) → K (.tuple #[.int .i64 0, .int .i64 2]) w')
    (hok : ∀ w' i s, e.rightE = 0 → IsFree S i s → W2 W w' L r g (S.set i (spn s i e)) (gputB wside B i e.box) (gputD wside B D i e.box) (N + 1024) x T → K (.tuple #[.int .i64 ((s.gen + 1) * 64 + (i : Int)), .int .i64 0]) w') :
    cl Tryd.prog 22 #[.pointer (some ⟨r, 0, none⟩), e.v] w K := by
  obtain ⟨F, h1, h2, h3, h4⟩ := h.gr
  exact spawn_k h1 hN (fun w' hx he => hbad w' (h.to hx) he) (fun w' hx he hf => hfull w' (h.to hx) he hf) fun w' F' i s he hf hw hx hG _ => hok w' i s he hf (W2.step1 h.st h1 h2 h3 h4 hw hx hG)
theorem W2.kill (h : W2 W w L r g S B D N x T) (hN : N ≤ 549755813888) {hh : Int} {K : Value → World → Prop}
    (hnone : atI S hh = none → K (.int .i64 190) w)
    (hok : ∀ w' i s, atI S hh = some i → S[i]? = some s → s.there = true → s.e.h = hh → W2 W w' L r g (S.set i ⟨s.gen, false, s.e⟩) (gdropB B i) (gdropD wside B D i) N x T → K (.int .i64 0) w') :
    cl Tryd.prog 24 #[.pointer (some ⟨r, 0, none⟩), .int .i64 hh] w K := by
  obtain ⟨F, h1, h2, h3, h4⟩ := h.gr
  exact kill_k h1 hN hnone fun w' i s a1 a2 a3 a4 a5 a6 hw hx => hok w' i s a1 a4 a5 a6 (W2.step1 h.st h1 h2 h3 h4 hw hx fun k hk => .inl hk)
theorem W2.set (h : W2 W w L r g S B D N x T) (hN : N ≤ 549755813888) {hh : Int} {e : Ent} {K : Value → World → Prop}
    (hbad : ∀ w', W2 W w' L r g S B D N x T → setE S hh e ≠ 0 → K (.int .i64 (setE S hh e)) w')
    (hok : ∀ w' i s, setE S hh e = 0 → e.rightE = 0 → atI S hh = some i → S[i]? = some s → s.there = true → s.e.h = hh → W2 W w' L r g (S.set i ⟨s.gen, s.there, { e with h := hh }⟩) (gmoveB wside B i e.box) (gmoveD wside B D i e.box) (N + 1024) x T → K (.int .i64 0) w') :
    cl Tryd.prog 26 #[.pointer (some ⟨r, 0, none⟩), .int .i64 hh, e.v] w K := by
  obtain ⟨F, h1, h2, h3, h4⟩ := h.gr
  exact set_k h1 hN (fun w' hx he => hbad w' (h.to hx) he) fun w' F' i s b0 b1 a1 a2 a3 a4 a5 a6 hw hx hG _ => hok w' i s b0 b1 a1 a4 a5 a6 (W2.step1 h.st h1 h2 h3 h4 hw hx hG)
theorem W2.rspawn (h : W2 W w L r g S B D N x T) {n : Nat} (hG : Good n T) (hn : n ≤ 1000000) {e : Ent} {K : Value → World → Prop}
    (hbad : ∀ w', W2 W w' L r g S B D N x T → e.rightE ≠ 0 → K (.tuple #[.int .i64 0, .int .i64 e.rightE]) w')
    (hfull : ∀ w', W2 W w' L r g S B D N x T → e.rightE = 0 → (∀ (j : Nat) s, T[j]? = some s → free s = false) → K (.tuple #[.int .i64 0, .int .i64 2]) w')
    (hok : ∀ w' i s, e.rightE = 0 → IsFree T i s → W2 W w' L r g S B D N x (T.set i (spn s i e)) → K (.tuple #[.int .i64 ((s.gen + 1) * 64 + (i : Int)), .int .i64 0]) w') :
    cl Tryd.prog 23 #[.pointer (some ⟨x, 0, none⟩), e.v] w K := by
  obtain ⟨F, h1, h2, h3, h4⟩ := h.gr
  exact spawn19_k h2 hG hn (fun w' hx he => hbad w' (h.to hx) he) (fun w' hx he hf => hfull w' (h.to hx) he hf) fun w' i s he hf hw hx => hok w' i s he hf (W2.step2 h.st h1 h3 h4 hw hx)
theorem W2.rkill (h : W2 W w L r g S B D N x T) {n : Nat} (hG : Good n T) {hh : Int} {K : Value → World → Prop}
    (hnone : atI T hh = none → K (.int .i64 190) w)
    (hok : ∀ w' i s, atI T hh = some i → T[i]? = some s → W2 W w' L r g S B D N x (T.set i ⟨s.gen, false, s.e⟩) → K (.int .i64 0) w') :
    cl Tryd.prog 25 #[.pointer (some ⟨x, 0, none⟩), .int .i64 hh] w K := by
  obtain ⟨F, h1, h2, h3, h4⟩ := h.gr
  exact kill19_k h2 hG hnone fun w' i s a1 a2 hw hx => hok w' i s a1 a2 (W2.step2 h.st h1 h3 h4 hw hx)
end
end Go.Proofs.YtamobmjfdiecbaaDoor

/- WoL3: the law WorldHandles comes out true for every input. Conditions: those of the law's arguments as they are read. -/
namespace Go.Proofs.YtamobmjfdiecbaaDoor
open Go Go.Sx Go.Fp
attribute [local irreducible] jn lv ld st nw asI asB asP asS asY asM asF asA asT lp rn ru rq cl dw dr bnd bn2 nz nn hd hr so eqW
attribute [local irreducible] callOk

structure Act where
  k : Int
  h : Int
  e : Ent
def Act.cells (a : Act) : List Value := .int .i64 a.k :: .int .i64 a.h :: a.e.cells
theorem Act.cells_length (a : Act) : a.cells.length = 10 := rfl

theorem acts_of : ∀ {R : List (List Value)}, (∀ c ∈ R, FitsAll [.int .i64, .int .i64, .int .i64, .int .i64, .int .i64, .int .i64, .int .i64, .int .i64, .int .i64, .int .i64] c) → ∃ es : List Act, R.flatten = es.flatMap Act.cells ∧ es.length = R.length ∧ ∀ a ∈ es, a.e.I
  | [], _ => ⟨[], rfl, rfl, by simp⟩
  | c :: R, h => by
    have hc := h c List.mem_cons_self
    obtain ⟨_, _, rfl, ⟨k, rfl, _⟩, hc⟩ := hc
    obtain ⟨_, _, rfl, ⟨hh, rfl, _⟩, hc⟩ := hc
    obtain ⟨e, rfl, he⟩ := ent_of hc
    obtain ⟨es, h1, h2, h3⟩ := acts_of (R := R) fun c hc => h c (List.mem_cons_of_mem _ hc)
    refine ⟨⟨k, hh, e⟩ :: es, by rw [List.flatten_cons, h1]; rfl, by simp [h2], fun x hx => ?_⟩
    rcases List.mem_cons.1 hx with rfl | hx
    · exact he
    · exact h3 x hx

theorem ld10c {w : World} {A : Addr} {a : Act} (hc : ∀ k, k < 10 → w.cell? (Addr.add A k) = a.cells[k]?) {K : Int → Int → Int → Int → Int → Int → Int → Int → Int → Int → Prop} (hK : K a.k a.h a.e.h a.e.x a.e.y a.e.r a.e.vx a.e.vy a.e.o a.e.t) :
    ld w A fun v1 => asI .i64 v1 fun x0 => ld w (Addr.add A 1) fun v2 => asI .i64 v2 fun x1 => ld w (Addr.add A 2) fun v3 => asI .i64 v3 fun x2 => ld w (Addr.add A 3) fun v4 => asI .i64 v4 fun x3 =>
      ld w (Addr.add A 4) fun v5 => asI .i64 v5 fun x4 => ld w (Addr.add A 5) fun v6 => asI .i64 v6 fun x5 => ld w (Addr.add A 6) fun v7 => asI .i64 v7 fun x6 => ld w (Addr.add A 7) fun v8 => asI .i64 v8 fun x7 =>
      ld w (Addr.add A 8) fun v9 => asI .i64 v9 fun x8 => ld w (Addr.add A 9) fun v10 => asI .i64 v10 fun x9 => K x0 x1 x2 x3 x4 x5 x6 x7 x8 x9 :=
  ld_mk (by have := hc 0 (by decide); rwa [Sx.add_zero'] at this) (asI_i rfl (ld_mk (hc 1 (by decide)) (asI_i rfl (ld_mk (hc 2 (by decide)) (asI_i rfl (ld_mk (hc 3 (by decide)) (asI_i rfl (ld_mk (hc 4 (by decide)) (asI_i rfl
    (ld_mk (hc 5 (by decide)) (asI_i rfl (ld_mk (hc 6 (by decide)) (asI_i rfl (ld_mk (hc 7 (by decide)) (asI_i rfl (ld_mk (hc 8 (by decide)) (asI_i rfl (ld_mk (hc 9 (by decide)) (asI_i rfl hK)))))))))))))))))))

structure Pq (W w : World) (L : List (Nat × List Value × TypeId)) (F : Nat → Prop) (r g : Nat) (S : List Spot) (B : List (Int × Bx)) (D : List ((Int × Int) × List Int)) (N : Nat) (p : Option Addr) (c : Nat) (G : List Int) (q : Option Addr) (c' : Nat) (Q : List Int) : Prop where
  pw : Pw W w L F r g S B D N
  gv : Pr W w L F r p c G
  dd : Pr W w L F r q c' Q
  ap : Apart p q

section
variable {W w : World} {L : List (Nat × List Value × TypeId)} {F : Nat → Prop} {r g : Nat} {S : List Spot} {B : List (Int × Bx)} {D : List ((Int × Int) × List Int)} {N : Nat} {p q : Option Addr} {c c' : Nat} {G Q : List Int}

theorem Pq.to (h : Pq W w L F r g S B D N p c G q c' Q) {w' : World} (hx : Ext no w w') : Pq W w' L F r g S B D N p c G q c' Q := ⟨h.pw.to hx, h.gv.to hx, h.dd.to hx, h.ap⟩
theorem Pq.tail {x : Nat × List Value × TypeId} (h : Pq W w (x :: L) F r g S B D N p c G q c' Q) : Pq W w L F r g S B D N p c G q c' Q := ⟨h.pw.tail, h.gv.tail, h.dd.tail, h.ap⟩
theorem Pq.mono (h : Pq W w L F r g S B D N p c G q c' Q) {M : Nat} (hM : N ≤ M) : Pq W w L F r g S B D M p c G q c' Q := ⟨⟨h.pw.st, h.pw.wd.mono hM, h.pw.fr⟩, h.gv, h.dd, h.ap⟩

theorem Pq.nw (h : Pq W w L F r g S B D N p c G q c' Q) {cs : List Value} {t : TypeId} {K : Nat → World → Prop} (hK : ∀ b w', Pq W w' ((b, cs, t) :: L) F r g S B D N p c G q c' Q → K b w') : nw w (.cells cs.toArray t) K := by
  have hx := Ext.alloc w (.cells cs.toArray t)
  have key : Pw W (w.alloc (.cells cs.toArray t)) ((w.heap.size, cs, t) :: L) F r g S B D N := by
    have key := h.pw.nw (cs := cs) (t := t) (K := fun b w' => b = w.heap.size → w' = w.alloc (.cells cs.toArray t) → Pw W w' ((b, cs, t) :: L) F r g S B D N) fun b w' hP _ _ => hP
    unfold Sx.nw at key
    exact key rfl rfl
  have hg := h.gv.cons (x := (w.heap.size, cs, t)) (Nat.le_refl _)
  have hd := h.dd.cons (x := (w.heap.size, cs, t)) (Nat.le_refl _)
  exact nw_mk (hK _ _ ⟨key, hg.to hx, hd.to hx, h.ap⟩)

theorem Pq.one {b j : Nat} {cs : List Value} {t : TypeId} (h : Pq W w ((b, cs, t) :: L) F r g S B D N p c G q c' Q) {v u : Value} {K : World → Prop} (hj : cs[j]? = some u) (h1 : Sx.one v = true) (hK : ∀ w', Pq W w' ((b, cs.set j v, t) :: L) F r g S B D N p c G q c' Q → K w') :
    Sx.st w ⟨b, j, none⟩ v K := by
  refine h.pw.st.stj 0 rfl hj h1 fun w' hs hx => hK w' ⟨⟨hs, h.pw.wd.ext hx fun k hk e => ?_, fun k hk => ⟨(h.pw.fr k hk).1, fun x hb => ?_⟩⟩, ?_, ?_, h.ap⟩
  · have e' : k = b := e
    exact (h.pw.fr k hk).2 (b, cs, t) List.mem_cons_self e'.symm
  · rcases List.mem_cons.1 hb with rfl | hb
    · exact (h.pw.fr k hk).2 (b, cs, t) List.mem_cons_self
    · exact (h.pw.fr k hk).2 x (List.mem_cons_of_mem _ hb)
  · exact (h.gv.onl ⟨_, List.mem_cons_self, rfl⟩ hx).cells rfl
  · exact (h.dd.onl ⟨_, List.mem_cons_self, rfl⟩ hx).cells rfl

theorem Pq.st8 {b : Nat} {cs : List Value} {t : TypeId} (h : Pq W w ((b, cs, t) :: L) F r g S B D N p c G q c' Q) (hc : cs.length = 8) (e : Ent) {K : World → Prop} (hK : ∀ w', Pq W w' ((b, e.cells, t) :: L) F r g S B D N p c G q c' Q → K w') :
    Sx.st w ⟨b, 0, none⟩ (.int .i64 e.h) fun w1 => Sx.st w1 (Addr.add ⟨b, 0, none⟩ 1) (.int .i64 e.x) fun w2 => Sx.st w2 (Addr.add ⟨b, 0, none⟩ 2) (.int .i64 e.y) fun w3 => Sx.st w3 (Addr.add ⟨b, 0, none⟩ 3) (.int .i64 e.r) fun w4 =>
      Sx.st w4 (Addr.add ⟨b, 0, none⟩ 4) (.int .i64 e.vx) fun w5 => Sx.st w5 (Addr.add ⟨b, 0, none⟩ 5) (.int .i64 e.vy) fun w6 => Sx.st w6 (Addr.add ⟨b, 0, none⟩ 6) (.int .i64 e.o) fun w7 => Sx.st w7 (Addr.add ⟨b, 0, none⟩ 7) (.int .i64 e.t) fun w8 => K w8 := by
  match cs, hc with
  | [a0, a1, a2, a3, a4, a5, a6, a7], _ =>
    simp only [add_mk, Nat.zero_add]
    exact h.one rfl rfl fun w1 h1 => h1.one rfl rfl fun w2 h2 => h2.one rfl rfl fun w3 h3 => h3.one rfl rfl fun w4 h4 => h4.one rfl rfl fun w5 h5 => h5.one rfl rfl fun w6 h6 => h6.one rfl rfl fun w7 h7 => h7.one rfl rfl fun w8 h8 => hK w8 h8

theorem Pq.st10 {b : Nat} {cs : List Value} {t : TypeId} (h : Pq W w ((b, cs, t) :: L) F r g S B D N p c G q c' Q) (hc : cs.length = 10) (a : Act) {K : World → Prop} (hK : ∀ w', Pq W w' ((b, a.cells, t) :: L) F r g S B D N p c G q c' Q → K w') :
    Sx.st w ⟨b, 0, none⟩ (.int .i64 a.k) fun w1 => Sx.st w1 (Addr.add ⟨b, 0, none⟩ 1) (.int .i64 a.h) fun w2 => Sx.st w2 (Addr.add ⟨b, 0, none⟩ 2) (.int .i64 a.e.h) fun w3 => Sx.st w3 (Addr.add ⟨b, 0, none⟩ 3) (.int .i64 a.e.x) fun w4 =>
      Sx.st w4 (Addr.add ⟨b, 0, none⟩ 4) (.int .i64 a.e.y) fun w5 => Sx.st w5 (Addr.add ⟨b, 0, none⟩ 5) (.int .i64 a.e.r) fun w6 => Sx.st w6 (Addr.add ⟨b, 0, none⟩ 6) (.int .i64 a.e.vx) fun w7 => Sx.st w7 (Addr.add ⟨b, 0, none⟩ 7) (.int .i64 a.e.vy) fun w8 =>
      Sx.st w8 (Addr.add ⟨b, 0, none⟩ 8) (.int .i64 a.e.o) fun w9 => Sx.st w9 (Addr.add ⟨b, 0, none⟩ 9) (.int .i64 a.e.t) fun w10 => K w10 := by
  match cs, hc with
  | [a0, a1, a2, a3, a4, a5, a6, a7, a8, a9], _ =>
    simp only [add_mk, Nat.zero_add]
    exact h.one rfl rfl fun w1 h1 => h1.one rfl rfl fun w2 h2 => h2.one rfl rfl fun w3 h3 => h3.one rfl rfl fun w4 h4 => h4.one rfl rfl fun w5 h5 => h5.one rfl rfl fun w6 h6 => h6.one rfl rfl fun w7 h7 => h7.one rfl rfl fun w8 h8 => h8.one rfl rfl fun w9 h9 => h9.one rfl rfl fun w10 h10 => hK w10 h10

theorem Pq.step (h : Pq W w L F r g S B D N p c G q c' Q) {w' : World} {F' : Nat → Prop} {S' : List Spot} {B' : List (Int × Bx)} {D' : List ((Int × Int) × List Int)} {N' : Nat} (hw : Wd w' F' r g S' B' D' N') (hx : Ext (wF F r) w w') (hG : ∀ k, F' k → F k ∨ w.heap.size ≤ k) : Pq W w' L F' r g S' B' D' N' p c G q c' Q :=
  ⟨h.pw.step hw hx hG, h.gv.step hx hG, h.dd.step hx hG, h.ap⟩

theorem Pq.spawn (h : Pq W w L F r g S B D N p c G q c' Q) (hN : N ≤ 549755813888) {e : Ent} {K : Value → World → Prop}
    (hno : ∀ w' x, Pq W w' L F r g S B D N p c G q c' Q → x ≠ 0 → K (.tuple #[.int .i64 0, .int .i64 x]) w')
    (hok : ∀ w' F' B' D' i s, e.rightE = 0 → IsFree S i s → Pq W w' L F' r g (S.set i (spn s i e)) B' D' (N + 1024) p c G q c' Q → K (.tuple #[.int .i64 ((s.gen + 1) * 64 + (i : Int)), .int .i64 0]) w') :
    cl Tryd.prog 22 #[.pointer (some ⟨r, 0, none⟩), e.v] w K :=
  spawn_k h.pw.wd hN (fun w' hx he => hno w' _ (h.to hx) he) (fun w' hx he hf => hno w' _ (h.to hx) (by decide)) fun w' F' i s he hf hw hx hG _ => hok w' F' _ _ i s he hf (h.step hw hx hG)

theorem Pq.kill (h : Pq W w L F r g S B D N p c G q c' Q) (hN : N ≤ 549755813888) {hh : Int} {K : Value → World → Prop}
    (hnone : atI S hh = none → K (.int .i64 190) w)
    (hok : ∀ w' B' D' i s, atI S hh = some i → i = hh.toNat % 64 → hh = hh.toNat → S[i]? = some s → s.there = true → s.e.h = hh → Pq W w' L F r g (S.set i ⟨s.gen, false, s.e⟩) B' D' N p c G q c' Q → K (.int .i64 0) w') :
    cl Tryd.prog 24 #[.pointer (some ⟨r, 0, none⟩), .int .i64 hh] w K :=
  kill_k h.pw.wd hN hnone fun w' i s h1 h2 h3 h4 h5 h6 hw hx => hok w' _ _ i s h1 h2 h3 h4 h5 h6 (h.step hw hx fun k hk => .inl hk)

theorem Pq.get (h : Pq W w L F r g S B D N p c G q c' Q) {hh : Int} {K : Value → World → Prop} (hK : ∀ w', Pq W w' L F r g S B D N p c G q c' Q → K (.tuple #[(getE S hh).v, .int .i64 (getC S hh)]) w') :
    cl Tryd.prog 15 #[.pointer (some ⟨r, 0, none⟩), .int .i64 hh] w K := get_k h.pw.wd.ws fun w' hx => hK w' (h.to hx)

theorem Pq.list (h : Pq W w L F r g S B D N p c G q c' Q) {K : Value → World → Prop}
    (hK : ∀ p0 c0 w', Pq W w' L F r g S B D N p c G q c' Q → K (.slice p0 (listS S).length c0) w') :
    cl Tryd.prog 10 #[.pointer (some ⟨r, 0, none⟩)] w K := list_k h.pw.wd.ws fun p0 c0 w' hx _ => hK p0 c0 w' (h.to hx)

/-- a whole number out of a row -/
theorem Pr.at (h : Pr W w L F r p c G) {i n : Nat} (hn : G.length = n) (hi : i < n) {K : Addr → Prop} (hK : ∀ a, w.cell? (Addr.add a (i * 1)) = some (.int .i64 (G.getD i 0)) → K a) : dr p fun a => bnd (i : Int) n (K a) := by
  have e : iv .i64 G = G.flatMap fun x => [.int .i64 x] := by
    clear h hn hK
    induction G with
    | nil => rfl
    | cons x G ih => rw [List.flatMap_cons, ← ih]; rfl
  have hr := h.row.reads
  rw [e] at hr
  have hx : G[i]? = some (G.getD i 0) := by
    rw [List.getD_eq_getElem?_getD, List.getElem?_eq_getElem (by omega)]
    rfl
  refine Reads.atN (f := fun x => [.int .i64 x]) (s := 1) (fun _ => rfl) hr hn hx (by decide) fun a _ hc => hK a ?_
  have := hc 0 (by decide)
  rw [Sx.add_zero'] at this
  exact this
end
end Go.Proofs.YtamobmjfdiecbaaDoor

/- WoZ2: acts on both worlds: spawn, kill, set. Conditions: those of each theorem, on its arguments. -/
namespace Go.Proofs.YtamobmjfdiecbaaDoor
open Go Go.Sx Go.Fp
attribute [local irreducible] jn lv ld st nw asI asB asP asS asY asM asF asA asT lp rn ru rq cl dw dr bnd bn2 nz nn hd hr so eqW
attribute [local irreducible] callOk

section
variable {W w : World} {L : List (Nat × List Value × TypeId)} {r g x : Nat} {S T : List Spot} {B : List (Int × Bx)} {D : List ((Int × Int) × List Int)} {N : Nat}
theorem W2.nw (h : W2 W w L r g S B D N x T) {cs : List Value} {t : TypeId} {K : Nat → World → Prop} (hK : ∀ b w', W2 W w' ((b, cs, t) :: L) r g S B D N x T → K b w') : nw w (.cells cs.toArray t) K := by
  obtain ⟨F, h1, h2, h3, h4⟩ := h.gr
  have hx := Ext.alloc w (.cells cs.toArray t)
  have hxl := blk_lt h2.blk
  refine nw_mk (hK _ _ ⟨h.st.alloc cs t, F, h1.ext hx fun _ _ h => h, h2.ext hx fun h => h, h3, fun k hk => ⟨(h4 k hk).1, fun b hb => ?_⟩⟩)
  rcases List.mem_cons.1 hb with rfl | hb
  · have : k < w.heap.size := by
      rcases hk with (hk | hk) | hk
      · exact h1.f_lt k hk
      · have := h1.r_lt
        omega
      · omega
    simp only
    omega
  · exact (h4 k hk).2 b hb
theorem W2.tail {y : Nat × List Value × TypeId} (h : W2 W w (y :: L) r g S B D N x T) : W2 W w L r g S B D N x T := by
  obtain ⟨F, h1, h2, h3, h4⟩ := h.gr
  exact ⟨h.st.tail, F, h1, h2, h3, fun k hk => ⟨(h4 k hk).1, fun b hb => (h4 k hk).2 b (List.mem_cons_of_mem _ hb)⟩⟩
theorem W2.one {b j : Nat} {cs : List Value} {t : TypeId} (h : W2 W w ((b, cs, t) :: L) r g S B D N x T) {v u : Value} {K : World → Prop} (hj : cs[j]? = some u) (h1 : Sx.one v = true) (hK : ∀ w', W2 W w' ((b, cs.set j v, t) :: L) r g S B D N x T → K w') :
    Sx.st w ⟨b, j, none⟩ v K := by
  obtain ⟨F, g1, g2, g3, g4⟩ := h.gr
  refine h.st.stj 0 rfl hj h1 fun w' hs hx => hK w' ⟨hs, F, g1.ext hx fun k hk e => ?_, g2.ext hx fun e => ?_, g3, fun k hk => ⟨(g4 k hk).1, fun y hb => ?_⟩⟩
  · have e' : k = b := e
    exact (g4 k (.inl hk)).2 (b, cs, t) List.mem_cons_self e'.symm
  · have e' : x = b := e
    exact (g4 x (.inr rfl)).2 (b, cs, t) List.mem_cons_self e'.symm
  · rcases List.mem_cons.1 hb with rfl | hb
    · exact (g4 k hk).2 (b, cs, t) List.mem_cons_self
    · exact (g4 k hk).2 y (List.mem_cons_of_mem _ hb)
theorem W2.st8 {b : Nat} {cs : List Value} {t : TypeId} (h : W2 W w ((b, cs, t) :: L) r g S B D N x T) (hc : cs.length = 8) (e : Ent) {K : World → Prop} (hK : ∀ w', W2 W w' ((b, e.cells, t) :: L) r g S B D N x T → K w') :
    Sx.st w ⟨b, 0, none⟩ (.int .i64 e.h) fun w1 => Sx.st w1 (Addr.add ⟨b, 0, none⟩ 1) (.int .i64 e.x) fun w2 => Sx.st w2 (Addr.add ⟨b, 0, none⟩ 2) (.int .i64 e.y) fun w3 => Sx.st w3 (Addr.add ⟨b, 0, none⟩ 3) (.int .i64 e.r) fun w4 =>
      Sx.st w4 (Addr.add ⟨b, 0, none⟩ 4) (.int .i64 e.vx) fun w5 => Sx.st w5 (Addr.add ⟨b, 0, none⟩ 5) (.int .i64 e.vy) fun w6 => Sx.st w6 (Addr.add ⟨b, 0, none⟩ 6) (.int .i64 e.o) fun w7 => Sx.st w7 (Addr.add ⟨b, 0, none⟩ 7) (.int .i64 e.t) fun w8 => K w8 := by
  match cs, hc with
  | [a0, a1, a2, a3, a4, a5, a6, a7], _ =>
    simp only [add_mk, Nat.zero_add]
    exact h.one rfl rfl fun w1 h1 => h1.one rfl rfl fun w2 h2 => h2.one rfl rfl fun w3 h3 => h3.one rfl rfl fun w4 h4 => h4.one rfl rfl fun w5 h5 => h5.one rfl rfl fun w6 h6 => h6.one rfl rfl fun w7 h7 => h7.one rfl rfl fun w8 h8 => hK w8 h8
end

/-- Spawn on both, one after the other: the same answers, the same places -/
theorem both_spawn {W w : World} {r g : Nat} {S : List Spot} {B : List (Int × Bx)} {D : List ((Int × Int) × List Int)} {N x n : Nat} {L : List (Nat × List Value × TypeId)} (h : W2 W w L r g S B D N x S) (hG : Good n S) (hLi : Lies S B D) (hB : (B.map (·.1)).Nodup) (hN : N ≤ 549755813888) (hn : n ≤ 1000000) {e : Ent} (hI : e.I)
    {K : Value → World → Prop}
    (hK : ∀ (a c : Int) w1 S1 B1 D1 N1, W2 W w1 L r g S1 B1 D1 N1 x S → (∀ {w2 : World} {K2 : Value → World → Prop}, W2 W w2 L r g S1 B1 D1 N1 x S → (∀ w3, W2 W w3 L r g S1 B1 D1 N1 x S1 → Good (n + 1) S1 → Lies S1 B1 D1 → (B1.map (·.1)).Nodup → N1 ≤ N + 1024 → K2 (.tuple #[.int .i64 a, .int .i64 c]) w3) → cl Tryd.prog 23 #[.pointer (some ⟨x, 0, none⟩), e.v] w2 K2) → K (.tuple #[.int .i64 a, .int .i64 c]) w1) :
    cl Tryd.prog 22 #[.pointer (some ⟨r, 0, none⟩), e.v] w K := by
  refine h.spawn hN (fun w1 h1 he => ?_) (fun w1 h1 he hf => ?_) (fun w1 i s he hf h1 => ?_)
  · refine hK 0 e.rightE w1 S B D N h1 fun {w2} {K2} h2 hK2 => ?_
    exact h2.rspawn hG hn (fun w3 h3 _ => hK2 w3 h3 (hG.mono (by omega)) hLi hB (by omega)) (fun w3 _ h0 => absurd h0 he) (fun w3 i s h0 => absurd h0 he)
  · refine hK 0 2 w1 S B D N h1 fun {w2} {K2} h2 hK2 => ?_
    refine h2.rspawn hG hn (fun w3 _ h0 => absurd he h0) (fun w3 h3 _ _ => hK2 w3 h3 (hG.mono (by omega)) hLi hB (by omega)) (fun w3 i s _ hf' => ?_)
    have := hf _ _ hf'.1
    rw [hf'.2.1] at this
    cases this
  · refine hK _ 0 w1 _ _ _ _ h1 fun {w2} {K2} h2 hK2 => ?_
    refine h2.rspawn hG hn (fun w3 _ h0 => absurd he h0) (fun w3 _ _ hf' => ?_) (fun w3 i' s' _ hf' h3 => ?_)
    · have := hf' _ _ hf.1
      rw [hf.2.1] at this
      cases this
    · obtain ⟨rfl, rfl⟩ := hf'.unique hf
      exact hK2 w3 h3 (hG.spawn hn hf.1 he hI) (hLi.spawn hf he) (nd_put hB) (by omega)

theorem W2.ndB {W w : World} {r g : Nat} {S : List Spot} {B : List (Int × Bx)} {D : List ((Int × Int) × List Int)} {N x : Nat} {T : List Spot} {L : List (Nat × List Value × TypeId)} (h : W2 W w L r g S B D N x T) : (D.map (·.1)).Nodup := by
  obtain ⟨F, h1, _⟩ := h.gr
  exact h1.nd

/-- Kill on both -/
theorem both_kill {W w : World} {r g : Nat} {S : List Spot} {B : List (Int × Bx)} {D : List ((Int × Int) × List Int)} {N x n : Nat} {L : List (Nat × List Value × TypeId)} (h : W2 W w L r g S B D N x S) (hG : Good n S) (hLi : Lies S B D) (hB : (B.map (·.1)).Nodup) (hN : N ≤ 549755813888) {hh : Int}
    {K : Value → World → Prop}
    (hK : ∀ (c : Int) w1 S1 B1 D1, W2 W w1 L r g S1 B1 D1 N x S → (∀ {w2 : World} {K2 : Value → World → Prop}, W2 W w2 L r g S1 B1 D1 N x S → (∀ w3, W2 W w3 L r g S1 B1 D1 N x S1 → Good n S1 → Lies S1 B1 D1 → (B1.map (·.1)).Nodup → K2 (.int .i64 c) w3) → cl Tryd.prog 25 #[.pointer (some ⟨x, 0, none⟩), .int .i64 hh] w2 K2) → K (.int .i64 c) w1) :
    cl Tryd.prog 24 #[.pointer (some ⟨r, 0, none⟩), .int .i64 hh] w K := by
  have hD := h.ndB
  refine h.kill hN (fun hat => ?_) (fun w1 i s hat hs ht hx h1 => ?_)
  · refine hK 190 w S B D h fun {w2} {K2} h2 hK2 => ?_
    exact h2.rkill hG (fun _ => hK2 w2 h2 hG hLi hB) (fun w3 i s hat' => by rw [hat] at hat'; cases hat')
  · refine hK 0 w1 _ _ _ h1 fun {w2} {K2} h2 hK2 => ?_
    refine h2.rkill hG (fun hat' => by rw [hat] at hat'; cases hat') (fun w3 i' s' hat' hs' h3 => ?_)
    rw [hat] at hat'
    cases hat'
    rw [hs] at hs'
    cases hs'
    exact hK2 w3 h3 (hG.kill hs) (hLi.kill hB hD hs) (nd_drop hB)

end Go.Proofs.YtamobmjfdiecbaaDoor

/- PhV: worlds as the laws of physics make them: the program's and the document's, the same. Conditions: those of each theorem, on its arguments. -/
namespace Go.Proofs.YtamobmjfdiecbaaDoor
open Go Go.Sx Go.Fp
attribute [local irreducible] jn lv ld st nw asI asB asP asS asY asM asF asA asT lp rn ru rq cl dw dr bnd bn2 nz nn hd hr so eqW
attribute [local irreducible] callOk

def spawnL (e : Ent) : List Spot → Nat → List Spot
  | [], _ => []
  | s :: S, i => if free s = true then spn s i e :: S else s :: spawnL e S (i + 1)
def spawnS (S : List Spot) (e : Ent) : List Spot := if e.rightE = 0 then spawnL e S 0 else S
theorem spawnL_full {e : Ent} : ∀ {S : List Spot} {k : Nat}, (∀ (j : Nat) s, S[j]? = some s → free s = false) → spawnL e S k = S
  | [], _, _ => rfl
  | s :: S, k, h => by
    have h0 := h 0 s rfl
    unfold spawnL
    rw [h0, if_neg (by decide), spawnL_full fun j t ht => h (j + 1) t (by simpa using ht)]
theorem spawnL_free {e : Ent} : ∀ {S : List Spot} {i k : Nat} {s : Spot}, IsFree S i s → spawnL e S k = S.set i (spn s (i + k) e)
  | [], i, k, s, h => by have := h.1; simp at this
  | x :: S, 0, k, s, h => by
    have hx : x = s := by simpa using h.1
    subst hx
    unfold spawnL
    rw [if_pos h.2.1, Nat.zero_add]
    rfl
  | x :: S, i + 1, k, s, h => by
    have h0 := h.2.2 0 x (by omega) rfl
    unfold spawnL
    rw [h0, if_neg (by decide), spawnL_free (S := S) (i := i) (s := s) ⟨by simpa using h.1, h.2.1, fun j t hj ht => h.2.2 (j + 1) t (by omega) (by simpa using ht)⟩]
    rw [List.set_cons_succ, show i + (k + 1) = i + 1 + k from by omega]
def killS (S : List Spot) (h : Int) : List Spot :=
  match atI S h with
  | some i => match S[i]? with
    | some s => S.set i ⟨s.gen, false, s.e⟩
    | none => S
  | none => S
def kOf (x : Int) : Int := IntKind.wrap .i64 ((64 : Int) + (Go.bits .and .i64 (Int.fdiv x (2 ^ (min (Int.toNat (3 : Int)) 64))) (15 : Int)))
def kQ (x : Int) : Bool := Go.bits .and .i64 x (7 : Int) == (0 : Int)
def kd (ks : List Int) (i : Nat) : Bool := match ks[i]? with
  | some k => kQ k
  | none => false
def madeN (es : List Ent) (ks : List Int) : Nat → List Spot
  | 0 => List.replicate 64 Spot.zero
  | i + 1 => match es[i]? with
    | some e => if kd ks i = true then killS (spawnS (madeN es ks i) e) (kOf (ks.getD i 0)) else spawnS (madeN es ks i) e
    | none => madeN es ks i

section
variable {W w : World} {L : List (Nat × List Value × TypeId)} {r g x : Nat} {S : List Spot} {B : List (Int × Bx)} {D : List ((Int × Int) × List Int)} {N n : Nat}
/-- Spawn on both -/
theorem spawn2 (h : W2 W w L r g S B D N x S) (hG : Good n S) (hLi : Lies S B D) (hB : (B.map (·.1)).Nodup) (hN : N ≤ 549755813888) (hn : n ≤ 1000000) {e : Ent} (hI : e.I) {K : Value → World → Prop}
    (hK : ∀ (a c : Int) w1 B1 D1, W2 W w1 L r g (spawnS S e) B1 D1 (N + 1024) x S → Good (n + 1) (spawnS S e) → Lies (spawnS S e) B1 D1 → (B1.map (·.1)).Nodup →
      (∀ {w2 : World} {K2 : Value → World → Prop}, W2 W w2 L r g (spawnS S e) B1 D1 (N + 1024) x S → (∀ w3 (a c : Int), W2 W w3 L r g (spawnS S e) B1 D1 (N + 1024) x (spawnS S e) → K2 (.tuple #[.int .i64 a, .int .i64 c]) w3) → cl Tryd.prog 23 #[.pointer (some ⟨x, 0, none⟩), e.v] w2 K2) →
      K (.tuple #[.int .i64 a, .int .i64 c]) w1) :
    cl Tryd.prog 22 #[.pointer (some ⟨r, 0, none⟩), e.v] w K := by
  refine h.spawn hN (fun w1 h1 he => ?_) (fun w1 h1 he hf => ?_) (fun w1 i s he hf h1 => ?_)
  · have eS : spawnS S e = S := by unfold spawnS; rw [if_neg he]
    rw [eS] at hK
    refine hK _ _ w1 B D (h1.mono (by omega)) (hG.mono (by omega)) hLi hB fun {w2} {K2} h2 hK2 => ?_
    exact h2.rspawn hG hn (fun w3 h3 _ => hK2 w3 _ _ h3) (fun w3 _ h0 => absurd h0 he) (fun w3 i s h0 => absurd h0 he)
  · have eS : spawnS S e = S := by unfold spawnS; rw [if_pos he, spawnL_full hf]
    rw [eS] at hK
    refine hK _ _ w1 B D (h1.mono (by omega)) (hG.mono (by omega)) hLi hB fun {w2} {K2} h2 hK2 => ?_
    refine h2.rspawn hG hn (fun w3 _ h0 => absurd he h0) (fun w3 h3 _ _ => hK2 w3 _ _ h3) (fun w3 i s _ hf' => ?_)
    have := hf _ _ hf'.1
    rw [hf'.2.1] at this
    cases this
  · have eS : spawnS S e = S.set i (spn s i e) := by unfold spawnS; rw [if_pos he, spawnL_free hf, Nat.add_zero]
    rw [eS] at hK
    refine hK _ _ w1 _ _ h1 (hG.spawn hn hf.1 he hI) (hLi.spawn hf he) (nd_put hB) fun {w2} {K2} h2 hK2 => ?_
    refine h2.rspawn hG hn (fun w3 _ h0 => absurd he h0) (fun w3 _ _ hf' => ?_) (fun w3 i' s' _ hf' h3 => ?_)
    · have := hf' _ _ hf.1
      rw [hf.2.1] at this
      cases this
    · obtain ⟨rfl, rfl⟩ := hf'.unique hf
      exact hK2 w3 _ _ h3
/-- Kill on both -/
theorem kill2 (h : W2 W w L r g S B D N x S) (hG : Good n S) (hLi : Lies S B D) (hB : (B.map (·.1)).Nodup) (hN : N ≤ 549755813888) {hh : Int} {K : Value → World → Prop}
    (hK : ∀ (c : Int) w1 B1 D1, W2 W w1 L r g (killS S hh) B1 D1 N x S → Good n (killS S hh) → Lies (killS S hh) B1 D1 → (B1.map (·.1)).Nodup →
      (∀ {w2 : World} {K2 : Value → World → Prop}, W2 W w2 L r g (killS S hh) B1 D1 N x S → (∀ w3 (c : Int), W2 W w3 L r g (killS S hh) B1 D1 N x (killS S hh) → K2 (.int .i64 c) w3) → cl Tryd.prog 25 #[.pointer (some ⟨x, 0, none⟩), .int .i64 hh] w2 K2) → K (.int .i64 c) w1) :
    cl Tryd.prog 24 #[.pointer (some ⟨r, 0, none⟩), .int .i64 hh] w K := by
  have hD := h.ndB
  refine h.kill hN (fun hat => ?_) (fun w1 i s hat hs ht hx h1 => ?_)
  · have eS : killS S hh = S := by unfold killS; rw [hat]
    rw [eS] at hK
    refine hK _ w B D h hG hLi hB fun {w2} {K2} h2 hK2 => ?_
    exact h2.rkill hG (fun _ => hK2 w2 _ h2) (fun w3 i s hat' => by rw [hat] at hat'; cases hat')
  · have eS : killS S hh = S.set i ⟨s.gen, false, s.e⟩ := by unfold killS; rw [hat]; simp only [hs]
    rw [eS] at hK
    refine hK _ w1 _ _ h1 (hG.kill hs) (hLi.kill hB hD hs) (nd_drop hB) fun {w2} {K2} h2 hK2 => ?_
    refine h2.rkill hG (fun hat' => by rw [hat] at hat'; cases hat') (fun w3 i' s' hat' hs' h3 => ?_)
    rw [hat] at hat'
    cases hat'
    rw [hs] at hs'
    cases hs'
    exact hK2 w3 _ h3
end

theorem W2.ext {W w : World} {L : List (Nat × List Value × TypeId)} {r g x : Nat} {S T : List Spot} {B : List (Int × Bx)} {D : List ((Int × Int) × List Int)} {N : Nat} (h : W2 W w L r g S B D N x T) : Ext no W w := h.st.ext

set_option maxHeartbeats 2000000 in
set_option maxRecDepth 100000 in
theorem made_k {w : World} {l kl : Option Addr} {len cap kn kc : Nat} {es : List Ent} {ks : List Int} (R : Reads w l (es.flatMap Ent.cells)) (hl : es.length = len) (hI : ∀ e ∈ es, e.I) (Rk : Reads w kl (iv .i64 ks)) (hk : ks.length = kn) {K : Value → World → Prop}
    (hK : ∀ w' r g x B D, W2 w w' [] r g (madeN es ks (min len 40)) B D (1024 * 40) x (madeN es ks (min len 40)) → Good 40 (madeN es ks (min len 40)) → Lies (madeN es ks (min len 40)) B D → (B.map (·.1)).Nodup → K (.tuple #[.pointer (some ⟨r, 0, none⟩), .pointer (some ⟨x, 0, none⟩)]) w') :
    cl Tryd.prog 9 #[.slice l len cap, .slice kl kn kc] w K := by
  apply F9_calls
  unfold F9
  refine wnew_k fun w5 F r g hw hx5 hF hr => asP_i rfl (nw_mk ?_)
  have hxa := Ext.alloc w5 (.cells (xw (List.replicate 64 Spot.zero)).toArray 62)
  have z5 := hx5.size
  have hW2 : W2 w (w5.alloc (.cells (xw (List.replicate 64 Spot.zero)).toArray 62)) [] r g (List.replicate 64 Spot.zero) [] [] 0 w5.heap.size (List.replicate 64 Spot.zero) := by
    refine ⟨((St.start w).to hx5).to hxa, F, hw.ext hxa fun _ _ h => h, ⟨new_blk w5 _, by simp⟩, fun h => ?_, fun k hk => ⟨?_, by simp⟩⟩
    · rcases h with h | h
      · have := hw.f_lt _ h
        omega
      · have := hw.r_lt
        omega
    · rcases hk with (hk | hk) | hk
      · have := hF k hk
        omega
      · omega
      · omega
  have eW : (w5.alloc (.cells (xw (List.replicate 64 Spot.zero)).toArray 62)) = (w5.alloc (.cells (xw (List.replicate 64 Spot.zero)).toArray 62)) := rfl
  generalize w5.heap.size = x at hW2 ⊢
  refine lv_i ?_
  refine lp_mk (fun i : Nat => [.int .i64 (i : Int)]) (fun m i w' => m = len - i ∧ i ≤ len ∧ i ≤ 40 ∧ ∃ B D, W2 w w' [] r g (madeN es ks i) B D (1024 * i) x (madeN es ks i) ∧ Good i (madeN es ks i) ∧ Lies (madeN es ks i) B D ∧ (B.map (·.1)).Nodup) len 0 rfl
    ⟨rfl, Nat.zero_le _, Nat.zero_le _, [], [], hW2, Good.zero, Lies.zero, by simp⟩ ?_
  clear hW2 eW hxa z5 hw hx5 hF hr
  rintro _ i w8 ⟨rfl, hi, hi4, B, D, h, hG, hLi, hB⟩ J hJ
  refine asI_i rfl ?_
  refine jn_of (fun s w' => s = [.bool (decide (i < len ∧ i < 40))] ∧ w' = w8) ?_ ?_
  rotate_left
  · intro J2 hJ2
    refine cond_split (fun h1 => cond_split (fun h2 => hJ2 _ _ ⟨?_, rfl⟩) (fun h2 => hJ2 _ _ ⟨?_, rfl⟩)) (fun h1 => hJ2 _ _ ⟨?_, rfl⟩)
    · have := of_decide_eq_true h1
      have := of_decide_eq_true h2
      rw [decide_eq_true (show i < len ∧ i < 40 by omega)]
      rfl
    · have := of_decide_eq_false h2
      rw [decide_eq_false (show ¬ (i < len ∧ i < 40) by omega)]
    · have := of_decide_eq_false h1
      rw [decide_eq_false (show ¬ (i < len ∧ i < 40) by omega)]
  rintro _ w12 ⟨rfl, rfl⟩
  refine asB_i rfl (cond_split (fun hc => ?_) (fun hc => ?_))
  · obtain ⟨hil, hi40⟩ := of_decide_eq_true hc
    have ei : IntKind.wrap .i64 ((i : Int) + 1) = ((i + 1 : Nat) : Int) := by rw [wr64 (by omega) (by omega)]; omega
    have he : es[i]? = some es[i] := List.getElem?_eq_getElem (by omega)
    have hIe := hI _ (List.getElem_mem (by omega : i < es.length))
    generalize es[i] = e at he hIe
    have rd : ∀ {w' : World}, Ext no w w' → ∀ {K : Addr → Prop}, (∀ a', l = some a' → (∀ k, k < 8 → w'.cell? (Addr.add (Addr.add a' (i * 8)) k) = e.cells[k]?) → K a') → dr l fun a' => bnd (i : Int) len (K a') := fun hx K hK => Reads.atN (f := Ent.cells) Ent.cells_length (Reads.no hx R) hl he (by decide) hK
    have eM : madeN es ks (i + 1) = if kd ks i = true then killS (spawnS (madeN es ks i) e) (kOf (ks.getD i 0)) else spawnS (madeN es ks i) e := by
      show (match es[i]? with | some e => _ | none => _) = _
      rw [he]
    rw [Int.toNat_natCast, ei]
    refine jn_of (fun _ w' => ∃ B D, W2 w w' [] r g (madeN es ks (i + 1)) B D (1024 * (i + 1)) x (madeN es ks (i + 1)) ∧ Good (i + 1) (madeN es ks (i + 1)) ∧ Lies (madeN es ks (i + 1)) B D ∧ (B.map (·.1)).Nodup) ?_ ?_
    · rintro _ w16 ⟨B, D, h, hG, hLi, hB⟩
      exact lv_i (hJ (len - (i + 1)) (i + 1) w16 (by omega) ⟨rfl, by omega, by omega, B, D, h, hG, hLi, hB⟩)
    · intro J2 hJ2
      refine rd h.ext fun a1 _ hca => ld8c hca ?_
      refine spawn2 h hG hLi hB (by omega) (by omega) hIe fun a c w36 B1 D1 h hG1 hL1 hB1 hcall => ?_
      refine asT_i (l := [.int .i64 a, .int .i64 c]) rfl rfl (asI_i rfl (asI_i rfl ?_))
      refine rd h.ext fun a1 _ hca => ld8c hca ?_
      refine hcall h fun w58 a c h => ?_
      refine asT_i (l := [.int .i64 a, .int .i64 c]) rfl rfl (asI_i rfl (asI_i rfl ?_))
      generalize spawnS (madeN es ks i) e = S1 at *
      refine jn_of (fun s w' => s = [.bool (kd ks i)] ∧ w' = w58) ?_ ?_
      · rintro _ w63 ⟨rfl, rfl⟩
        refine asB_i rfl (cond_split (fun hkd => ?_) (fun hkd => ?_))
        · rw [if_pos hkd] at eM
          rw [eM] at hJ2
          obtain ⟨k, hki, hkq⟩ : ∃ k, ks[i]? = some k ∧ kQ k = true := by
            unfold kd at hkd
            cases hki : ks[i]? with
            | none => rw [hki] at hkd; cases hkd
            | some k => rw [hki] at hkd; exact ⟨k, rfl, hkd⟩
          have hgd : ks.getD i 0 = k := by rw [List.getD_eq_getElem?_getD, hki]; rfl
          rw [hgd] at hJ2
          have hiv : (iv .i64 ks)[i]? = some (.int .i64 k) := by simp [iv, hki]
          have rk : ∀ {w' : World}, Ext no w w' → ∀ {K : Int → Prop}, K k → dr kl fun a => bnd (i : Int) kn (ld w' (Addr.add a (i * 1)) fun v => asI .i64 v fun x => K x) := fun hx K hK => by
            have := (Reads.no hx Rk).at (i := (i : Int)) (v := .int .i64 k) (n := kn) (by omega) (by rw [Int.toNat_natCast]; exact hiv) (K := fun v => asI .i64 v fun x => K x) (asI_i rfl hK) (by rw [iv_length, hk]; exact Nat.le_refl _)
            rw [Int.toNat_natCast] at this
            exact this
          refine rk h.ext ?_
          refine kill2 h hG1 hL1 hB1 (by omega) (hh := kOf k) fun c w73 B2 D2 h hG2 hL2 hB2 hcall => asI_i rfl ?_
          refine rk h.ext ?_
          exact hcall h fun w79 c h => asI_i rfl (hJ2 _ _ ⟨B2, D2, h, hG2, hL2, hB2⟩)
        · rw [if_neg (by rw [hkd]; decide)] at eM
          rw [eM] at hJ2
          exact hJ2 _ _ ⟨B1, D1, h, hG1, hL1, hB1⟩
      · intro J3 hJ3
        refine cond_split (fun h1 => ?_) (fun h1 => hJ3 _ _ ⟨?_, rfl⟩)
        · have hikn : i < ks.length := by
            have := of_decide_eq_true h1
            omega
          have hki : ks[i]? = some ks[i] := List.getElem?_eq_getElem hikn
          have hiv : (iv .i64 ks)[i]? = some (.int .i64 ks[i]) := by simp [iv, hikn]
          have e1 := (Reads.no h.ext Rk).at (i := (i : Int)) (v := .int .i64 ks[i]) (n := kn) (by omega) (by rw [Int.toNat_natCast]; exact hiv) (K := fun v => asI .i64 v fun x => J3 [.bool (Go.bits .and .i64 x 7 == 0)] w58) (asI_i rfl (hJ3 _ _ ⟨?_, rfl⟩)) (by rw [iv_length, hk]; exact Nat.le_refl _)
          · rw [Int.toNat_natCast] at e1
            exact e1
          · unfold kd
            rw [hki]
            rfl
        · have : ¬ i < ks.length := by
            have := of_decide_eq_false h1
            omega
          unfold kd
          rw [List.getElem?_eq_none (by omega)]
  · have hc' := of_decide_eq_false hc
    have hm : min len 40 = i := by omega
    rw [hm] at hK
    exact hK _ r g x B D (h.mono (by omega)) (hG.mono hi4) hLi hB
end Go.Proofs.YtamobmjfdiecbaaDoor

/- PhB: the plain law of steps: nobody comes to stand within anybody, nobody goes farther than its way says, where nobody has a way nothing moves. No condition beyond each theorem's own. -/
namespace Go.Proofs.YtamobmjfdiecbaaDoor
open Go Go.Sx Go.Fp

theorem adiff_symm (p q : Int) : adiff p q = adiff q p := by
  rcases adiff_cases p q with ⟨e, _⟩ | ⟨e, _⟩ <;> rcases adiff_cases q p with ⟨e', _⟩ | ⟨e', _⟩ <;> rw [e, e'] <;> omega
theorem gap_symm (a b : Bx) (k : Bool) : gap a b k = gap b a k := by
  unfold gap
  rw [adiff_symm]
  omega
/-- two overlap -/
def Ov (a b : Bx) : Prop := gap a b false < 0 ∧ gap a b true < 0
instance (a b : Bx) : Decidable (Ov a b) := by unfold Ov; infer_instance
theorem Ov.symm {a b : Bx} (h : Ov a b) : Ov b a := ⟨by rw [gap_symm]; exact h.1, by rw [gap_symm]; exact h.2⟩
theorem ov_k {a b : Bx} (k : Bool) : Ov a b ↔ gap a b k < 0 ∧ gap a b (!k) < 0 := by
  cases k
  · exact Iff.rfl
  · exact ⟨fun h => ⟨h.2, h.1⟩, fun h => ⟨h.2, h.1⟩⟩
theorem meet_ov {a b : Bx} (ha : a.right = true) (hb : b.right = true) : (meetV a b).1 = decide (Ov a b) := by
  unfold meetV gapV
  rw [if_pos ⟨ha, hb⟩]
  simp only
  by_cases h1 : gap a b false < 0 <;> by_cases h2 : gap a b true < 0
  · rw [decide_eq_true h1, decide_eq_true h2, decide_eq_true (show Ov a b from ⟨h1, h2⟩)]; rfl
  · rw [decide_eq_true h1, decide_eq_false h2, decide_eq_false (fun h : Ov a b => h2 h.2)]; rfl
  · rw [decide_eq_false h1, decide_eq_true h2, decide_eq_false (fun h : Ov a b => h1 h.1)]; rfl
  · rw [decide_eq_false h1, decide_eq_false h2, decide_eq_false (fun h : Ov a b => h1 h.1)]; rfl

/-- who goes no farther than it is pushed comes to stand against nobody whom it did not meet before -/
theorem no_through_le {a o : Bx} {bs : List Bx} {k : Bool} {d w : Int} (ha : 1 ≤ a.r) (ho : 1 ≤ o.r) (hm : o ∈ bs) (hw : 0 ≤ w ∧ w ≤ (pushF (sgn d) a k bs 0 (mgn d, -1)).1) (hno : ¬ Ov a o) : ¬ Ov (a.moved k (sgn d * w)) o := by
  rw [ov_k k] at hno ⊢
  rintro ⟨h1, h2⟩
  have hblk := pushF_blk (sgn d) a k bs 0 (mgn d, -1) o hm
  rw [gap_moved'] at h2
  rw [gap_moved] at h1
  have hg : 0 ≤ gap a o k := by
    by_cases h : gap a o k < 0
    · exact absurd ⟨h, h2⟩ hno
    · omega
  have hga : gap a o k = adiff (a.at k) (o.at k) - a.r - o.r := rfl
  rw [hga] at hblk hg
  have hb : 0 < sgn d * (o.at k - a.at k) → w ≤ adiff (a.at k) (o.at k) - a.r - o.r := fun hs => Int.le_trans hw.2 (hblk ⟨hs, by rw [hga]; exact hg, h2⟩)
  generalize a.at k = p at *
  generalize o.at k = q at *
  rcases sgn_cases d with ⟨hs, _, _⟩ | ⟨hs, _, _⟩ <;> rw [hs] at hb h1
  · rcases adiff_cases p q with ⟨e, _⟩ | ⟨e, _⟩ <;> rw [e] at hg hb
    · have := hb (by omega)
      rcases adiff_cases (p + -1 * w) q with ⟨e', _⟩ | ⟨e', _⟩ <;> rw [e'] at h1 <;> omega
    · rcases adiff_cases (p + -1 * w) q with ⟨e', _⟩ | ⟨e', _⟩ <;> rw [e'] at h1 <;> omega
  · rcases adiff_cases p q with ⟨e, _⟩ | ⟨e, _⟩ <;> rw [e] at hg hb
    · rcases adiff_cases (p + 1 * w) q with ⟨e', _⟩ | ⟨e', _⟩ <;> rw [e'] at h1 <;> omega
    · have := hb (by omega)
      rcases adiff_cases (p + 1 * w) q with ⟨e', _⟩ | ⟨e', _⟩ <;> rw [e'] at h1 <;> omega

theorem at_rng {e : Ent} (h : e.rightE = 0) (k : Bool) : -4398046511104 ≤ e.box.at k ∧ e.box.at k ≤ 4398046511104 := by
  have h1 := (rightE_iff.1 h).1
  rw [boxOk_iff] at h1
  cases k
  · exact h1.1
  · exact h1.2.1
theorem vel_rng {e : Ent} (h : e.rightE = 0) (k : Bool) : -17179869184 ≤ e.vel k ∧ e.vel k ≤ 17179869184 := by
  have h1 := (rightE_iff.1 h).2
  rw [argOk_iff] at h1
  cases k
  · exact h1.1
  · exact h1.2.1
theorem r_rng {e : Ent} (h : e.rightE = 0) : 1 ≤ e.r ∧ e.r ≤ 17179869184 := by
  have h1 := (rightE_iff.1 h).1
  rw [boxOk_iff] at h1
  exact h1.2.2

/-- a turn, laid open: how far (w), whom it touches, what is left of its way -/
theorem turn_open {L : List Ent} {e : Ent} {k : Bool} (he : e.rightE = 0) (hL : ∀ o ∈ L, o.rightE = 0) :
    ∃ w v, (turnE L e k).1 = e.setk k (e.box.at k + sgn (e.vel k) * w) v ∧ 0 ≤ w ∧ w ≤ (pushF (sgn (e.vel k)) e.box k ((oth L e.h).map Ent.box) 0 (mgn (e.vel k), -1)).1 ∧ (v = 0 ∨ v = e.vel k) ∧
      ((turnE L e k).2 = 0 ∨ ∃ o ∈ oth L e.h, (turnE L e k).2 = o.h) := by
  have hP := pushV_ok (k := k) (rights_all hL e.h) (box_right he) (within_vel he k)
  have hrng := pushV_rng (k := k) (rights_all hL e.h) (box_right he) (within_vel he k)
  have hat := at_rng he k
  have hm := mgn_rng (within_vel he k)
  have g1 := pushF_le (sgn (e.vel k)) e.box k ((oth L e.h).map Ent.box) 0 (mgn (e.vel k), -1)
  have g2 := pushF_nn (s := sgn (e.vel k)) (a := e.box) (k := k) (bs := (oth L e.h).map Ent.box) (i := 0) (p := (mgn (e.vel k), -1)) hm.1
  have hv := vel_rng he k
  unfold turnE
  have eP : turnP L e k = pushV e.box (kI k) (e.vel k) ((oth L e.h).map Ent.box) := rfl
  rw [eP]
  rw [hP] at hrng ⊢
  simp only at g1 g2 hrng ⊢
  generalize (pushF (sgn (e.vel k)) e.box k ((oth L e.h).map Ent.box) 0 (mgn (e.vel k), -1)) = P at *
  by_cases hc : clp (e.box.at k + sgn (e.vel k) * P.1) = e.box.at k + sgn (e.vel k) * P.1
  · rw [if_neg (fun h => h hc)]
    by_cases hb : 0 ≤ P.2
    · rw [if_pos hb]
      refine ⟨P.1, 0, rfl, g2, Int.le_refl _, .inl rfl, .inr ?_⟩
      have hl : P.2.toNat < (oth L e.h).length := by
        have := hrng.2.2.2
        rw [List.length_map] at this
        omega
      refine ⟨(oth L e.h)[P.2.toNat], List.getElem_mem hl, ?_⟩
      simp [hl]
    · rw [if_neg hb]
      exact ⟨P.1, _, rfl, g2, Int.le_refl _, .inr rfl, .inl rfl⟩
  · rw [if_pos hc]
    rw [clp_iff] at hc ⊢
    rcases sgn_cases (e.vel k) with ⟨hs, _, hmg⟩ | ⟨hs, _, hmg⟩
    · rw [hs] at hc ⊢
      by_cases h1 : e.box.at k + -1 * P.1 < -4398046511104
      · rw [if_pos h1]
        refine ⟨e.box.at k + 4398046511104, 0, ?_, by omega, by omega, .inl rfl, .inl rfl⟩
        rw [show e.box.at k + -1 * (e.box.at k + 4398046511104) = -4398046511104 from by omega]
      · exact absurd (by rw [if_neg h1, if_neg (by omega)]) hc
    · rw [hs] at hc ⊢
      by_cases h1 : 4398046511104 < e.box.at k + 1 * P.1
      · rw [if_neg (by omega), if_pos h1]
        refine ⟨4398046511104 - e.box.at k, 0, ?_, by omega, by omega, .inl rfl, .inl rfl⟩
        rw [show e.box.at k + 1 * (4398046511104 - e.box.at k) = 4398046511104 from by omega]
      · exact absurd (by rw [if_neg (by omega), if_neg h1]) hc

theorem setk_box (e : Ent) (k : Bool) (c v : Int) : (e.setk k (e.box.at k + c) v).box = e.box.moved k c := by cases k <;> rfl

/-! ### nobody comes to stand within anybody -/
theorem mem_oth {L : List Ent} (hn : (L.map (·.h)).Nodup) {m j : Nat} {e o : Ent} (he : L[m]? = some e) (ho : L[j]? = some o) (hj : j ≠ m) : o ∈ oth L e.h := by
  unfold oth
  refine List.mem_filter.2 ⟨List.mem_of_getElem? ho, ?_⟩
  have h1 := (List.getElem?_eq_some_iff.1 he)
  have h2 := (List.getElem?_eq_some_iff.1 ho)
  have : o.h ≠ e.h := fun hh => by
    have hp := List.pairwise_iff_getElem.1 hn
    rcases Nat.lt_or_gt_of_ne hj with hlt | hlt
    · have := hp j m (by simpa using h2.1) (by simpa using h1.1) hlt
      simp only [List.getElem_map, h1.2, h2.2] at this
      exact this hh
    · have := hp m j (by simpa using h1.1) (by simpa using h2.1) hlt
      simp only [List.getElem_map, h1.2, h2.2] at this
      exact this hh.symm
  simpa using this

/-- what a row of turns keeps -/
structure Kp (L0 L : List Ent) : Prop where
  hs : L.map (·.h) = L0.map (·.h)
  rt : ∀ e ∈ L, e.rightE = 0
  ap : ∀ (i j : Nat) (a b a0 b0 : Ent), i ≠ j → L[i]? = some a → L[j]? = some b → L0[i]? = some a0 → L0[j]? = some b0 → Ov a.box b.box → Ov a0.box b0.box

theorem Kp.turn {L0 L : List Ent} (h : Kp L0 L) (hn : (L0.map (·.h)).Nodup) {m : Nat} {e : Ent} (he : L[m]? = some e) (k : Bool) : Kp L0 (L.set m (turnE L e k).1) := by
  have her := h.rt e (List.mem_of_getElem? he)
  have hml := (List.getElem?_eq_some_iff.1 he).1
  have hnL : (L.map (·.h)).Nodup := by rw [h.hs]; exact hn
  have hT := turnE_right (L := L) (k := k) her
  refine ⟨?_, fun x hx => ?_, ?_⟩
  · rw [← h.hs, List.map_set, turnE_h]
    refine List.ext_getElem? fun j => ?_
    by_cases hj : j = m
    · subst hj
      rw [List.getElem?_set_self (by simpa using hml), List.getElem?_map, he]
      rfl
    · rw [List.getElem?_set_ne (fun e => hj e.symm)]
  · rcases List.mem_or_eq_of_mem_set hx with hx | rfl
    · exact h.rt x hx
    · exact hT
  · obtain ⟨w, v, hE, hw0, hw1, _, _⟩ := turn_open (k := k) her h.rt
    have key : ∀ (j : Nat) (o a0 b0 : Ent), j ≠ m → L[j]? = some o → L0[m]? = some a0 → L0[j]? = some b0 → Ov (turnE L e k).1.box o.box → Ov a0.box b0.box := by
      intro j o a0 b0 hj ho ha0 hb0 hov
      have hmem := mem_oth hnL he ho hj
      have hor := h.rt o (List.mem_of_getElem? ho)
      rw [hE, setk_box] at hov
      by_cases hold : Ov e.box o.box
      · exact h.ap m j e o a0 b0 (fun e => hj e.symm) he ho ha0 hb0 hold
      · exact absurd hov (no_through_le (r_rng her).1 (r_rng hor).1 (List.mem_map.2 ⟨o, hmem, rfl⟩) ⟨hw0, hw1⟩ hold)
    intro i j a b a0 b0 hij ha hb ha0 hb0 hov
    by_cases him : i = m
    · subst him
      rw [List.getElem?_set_self hml] at ha
      rw [List.getElem?_set_ne hij] at hb
      cases ha
      exact key j b a0 b0 (fun e => hij e.symm) hb ha0 hb0 hov
    · rw [List.getElem?_set_ne (fun e => him e.symm)] at ha
      by_cases hjm : j = m
      · subst hjm
        rw [List.getElem?_set_self hml] at hb
        cases hb
        exact (key i a b0 a0 him ha hb0 ha0 hov.symm).symm
      · rw [List.getElem?_set_ne (fun e => hjm e.symm)] at hb
        exact h.ap i j a b a0 b0 hij ha hb ha0 hb0 hov
theorem Kp.turn1 {L0 : List Ent} {s : Tn} (h : Kp L0 s.L) (hn : (L0.map (·.h)).Nodup) (m : Nat) (k : Bool) : Kp L0 (turn1 m s k).L := by
  cases he : s.L[m]? with
  | none => unfold Go.Proofs.YtamobmjfdiecbaaDoor.turn1; rw [he]; exact h
  | some e =>
    unfold Go.Proofs.YtamobmjfdiecbaaDoor.turn1
    rw [he]
    simp only
    split <;> exact h.turn hn he k
theorem Kp.turnN {L0 : List Ent} {s : Tn} (h : Kp L0 s.L) (hn : (L0.map (·.h)).Nodup) (m : Nat) : ∀ k, Kp L0 (turnN m s k).L
  | 0 => h
  | k + 1 => (Kp.turnN h hn m k).turn1 hn m (k == 1)
theorem Kp.step {L0 : List Ent} (hr : ∀ e ∈ L0, e.rightE = 0) (hn : (L0.map (·.h)).Nodup) : ∀ m, Kp L0 (stepN L0 m).L
  | 0 => ⟨rfl, hr, fun i j a b a0 b0 _ ha hb ha0 hb0 h => by
      rw [show (stepN L0 0).L = L0 from rfl] at ha hb
      rw [ha] at ha0
      rw [hb] at hb0
      cases ha0
      cases hb0
      exact h⟩
  | m + 1 => Kp.turnN (s := ⟨(stepN L0 m).L, (stepN L0 m).t, []⟩) (Kp.step hr hn m) hn m 2

/-! ### where nobody has a way nothing moves -/
theorem pushF_none {s : Int} {a : Bx} {k : Bool} : ∀ {bs : List Bx} {i : Int} {p : Int × Int}, p.1 ≤ 0 → pushF s a k bs i p = p
  | [], _, _, _ => rfl
  | b :: bs, i, p, h => by
    simp only [pushF]
    have : stepP s a k b i p = p := by
      unfold stepP
      rw [if_neg]
      rintro ⟨_, h1, h2, _⟩
      omega
    rw [this]
    exact pushF_none h
theorem turn_still {L : List Ent} {e : Ent} {k : Bool} (he : e.rightE = 0) (hL : ∀ o ∈ L, o.rightE = 0) (hv : e.vel k = 0) : turnE L e k = (e, 0) := by
  have hP := pushV_ok (k := k) (rights_all hL e.h) (box_right he) (within_vel he k)
  have hF : pushF (sgn (e.vel k)) e.box k ((oth L e.h).map Ent.box) 0 (mgn (e.vel k), -1) = (mgn (e.vel k), -1) := pushF_none (by rw [hv]; decide)
  rw [hF, hv] at hP
  have eP : turnP L e k = pushV e.box (kI k) (e.vel k) ((oth L e.h).map Ent.box) := rfl
  rw [← hv] at hP
  have hP0 : (turnP L e k).1 = 0 ∧ (turnP L e k).2.1 = -1 := by
    rw [eP, hP, hv]
    exact ⟨rfl, rfl⟩
  unfold turnE
  rw [hP0.1, hP0.2, Int.add_zero, if_neg (fun h => h (clp_id (at_rng he k))), if_neg (by decide)]
  cases k <;> rfl
theorem turn1_still {m : Nat} {s : Tn} {k : Bool} (hL : ∀ o ∈ s.L, o.rightE = 0 ∧ o.vx = 0 ∧ o.vy = 0) : turn1 m s k = s := by
  unfold turn1
  cases he : s.L[m]? with
  | none => rfl
  | some e =>
    have hm := hL e (List.mem_of_getElem? he)
    have hv : e.vel k = 0 := by cases k; exact hm.2.1; exact hm.2.2
    simp only
    rw [turn_still hm.1 (fun o ho => (hL o ho).1) hv, if_neg (fun h => h.1 rfl)]
    have : s.L.set m e = s.L := by
      refine List.ext_getElem? fun j => ?_
      by_cases hj : j = m
      · subst hj
        rw [List.getElem?_set_self (List.getElem?_eq_some_iff.1 he).1, he]
      · rw [List.getElem?_set_ne (fun e => hj e.symm)]
    rw [this]
theorem turnN_still {m : Nat} {s : Tn} (hL : ∀ o ∈ s.L, o.rightE = 0 ∧ o.vx = 0 ∧ o.vy = 0) : ∀ k, turnN m s k = s
  | 0 => rfl
  | k + 1 => by
    show turn1 m (turnN m s k) (k == 1) = s
    rw [turnN_still hL k]
    exact turn1_still hL
theorem stepN_still {L : List Ent} (hL : ∀ o ∈ L, o.rightE = 0 ∧ o.vx = 0 ∧ o.vy = 0) : ∀ m, stepN L m = ⟨L, [], []⟩
  | 0 => rfl
  | m + 1 => by
    show turnN m ⟨(stepN L m).L, (stepN L m).t, []⟩ 2 = _
    rw [stepN_still hL m]
    exact turnN_still (s := ⟨L, [], []⟩) hL 2
end Go.Proofs.YtamobmjfdiecbaaDoor

/- PhF: where a box is free; the document's examples of steps come out (awake). Conditions: those of each theorem, on its arguments. -/
namespace Go.Proofs.YtamobmjfdiecbaaDoor
open Go Go.Sx Go.Fp
attribute [local irreducible] jn lv ld st nw asI asB asP asS asY asM asF asA asT lp rn ru rq cl dw dr bnd bn2 nz nn hd hr so eqW

theorem fpred_k {n id : Int} {a : Addr} {w : World} (hc : w.cell? a = some (.int .i64 id)) {K : Value → World → Prop} (hK : K (.bool (n != id)) w) : cl Tryd.prog 34 #[.int .i64 n, .pointer (some a)] w K := by
  apply F34_calls
  unfold F34
  exact dr_i (ld_mk hc (asI_i rfl hK))
theorem okF : callOk Tryd.prog 34 = true := by kernel_rfl
attribute [local irreducible] callOk

theorem contF_k {s : Option Addr} {n c : Nat} {xs : List Int} {id : Int} {a : Addr} {w : World} (hr : Reads w s (iv .i64 xs)) (hn : xs.length = n) (hb : n ≤ 1125899906842624) (hc : w.cell? a = some (.int .i64 id)) {K : Value → World → Prop}
    (hK : K (.bool (xs.any fun x => x != id)) w) : cl Tryd.prog 33 #[.slice s n c, .func (.func 34) #[] #[.pointer (some a)]] w K := by
  subst hn
  apply F33_calls
  unfold F33
  refine cl_mono (K := fun v w' => w' = w ∧ ∃ i : Int, v = .int .i64 i ∧ (0 ≤ i ↔ (xs.any fun x => x != id) = true)) ?_ ?_
  · apply F49_calls
    unfold F49
    refine lv_i (lp_mk (fun i : Nat => [.int .i64 (i : Int)]) (fun m i w' => w' = w ∧ m = xs.length - i ∧ i ≤ xs.length ∧ ∀ j x, j < i → xs[j]? = some x → x = id) xs.length 0 rfl ⟨rfl, rfl, Nat.zero_le _, by omega⟩ ?_)
    rintro _ i w ⟨rfl, rfl, hi, hall⟩ J hJ
    refine asI_i rfl (cond_split (fun h => ?_) (fun h => ?_))
    · have hil : i < xs.length := by
        have := of_decide_eq_true h
        omega
      refine lv_i (hr.at (i := (i : Int)) (by omega) (v := .int .i64 xs[i]) (by simp [iv, hil]) ?_ (by simp [iv]))
      refine asI_i rfl (cond_t okF ?_)
      show cl Tryd.prog 34 #[.int .i64 xs[i], .pointer (some a)] w _
      refine fpred_k hc (asB_i rfl (cond_split (fun h => lv_i ⟨rfl, _, rfl, ⟨fun _ => ?_, fun _ => by omega⟩⟩) (fun h => ?_)))
      · rw [List.any_eq_true]
        exact ⟨_, List.getElem_mem hil, h⟩
      · have ei : IntKind.wrap .i64 ((i : Int) + 1) = ((i + 1 : Nat) : Int) := by rw [wr64 (by omega) (by omega)]; omega
        rw [ei]
        refine hJ (xs.length - (i + 1)) (i + 1) w (by omega) ⟨rfl, rfl, hil, fun j x hj hx => ?_⟩
        by_cases hji : j = i
        · subst hji
          rw [List.getElem?_eq_getElem hil] at hx
          cases hx
          simpa using h
        · exact hall j x (by omega) hx
    · have hil : i = xs.length := by
        have := of_decide_eq_false h
        omega
      subst hil
      refine lv_i ⟨rfl, _, rfl, ⟨fun h => absurd h (by decide), fun h => ?_⟩⟩
      obtain ⟨x, hx, hne⟩ := List.any_eq_true.1 h
      obtain ⟨j, hj⟩ := List.getElem?_of_mem hx
      have := hall j x (List.getElem?_eq_some_iff.1 hj).1 hj
      simp [this] at hne
  · rintro _ _ ⟨rfl, i, rfl, hi⟩
    refine asI_i rfl ?_
    have e : decide (i ≥ (0 : Int)) = (xs.any fun x => x != id) := by
      cases h : (xs.any fun x => x != id) with
      | true => exact decide_eq_true (hi.2 h)
      | false => exact decide_eq_false fun h' => by rw [hi.1 h'] at h; cases h
    rw [e]
    exact hK

def freeV (S : List Spot) (b : Bx) (but : Int) : Bool := decide (b.rightE = 0) && !((outW S b).any fun x => x != but)

theorem near_of {w : World} {F : Nat → Prop} {r g : Nat} {S : List Spot} {B : List (Int × Bx)} {D : List ((Int × Int) × List Int)} {N : Nat} (h : Wd w F r g S B D N) (hLi : Lies S B D) (hN : N ≤ 1000000000) {b : Bx} {K : Value → World → Prop}
    (hK : ∀ p c w', Ext no w w' → Row w' w.heap.size 3 p c (iv .i64 (outW S b)) → K (.tuple #[.slice p (outW S b).length c, .int .i64 b.rightE]) w') :
    cl Tryd.prog 16 #[.pointer (some ⟨r, 0, none⟩), b.v] w K := by
  have h64 := h.ws.len
  have hml := metL_len (B := B) (b := b) h.bd (cellsL' wside b)
  have hcl := cells_len (s := wside) (b := b)
  have hmul : (cellsL' wside b).length * N ≤ 1024 * 1000000000 := Nat.mul_le_mul hcl hN
  exact wnear_k h hN (b := b) (hLi.key_lt h64) (fun hb0 => hLi.keys h64 hb0) (by omega) hK

theorem outW_len (S : List Spot) (b : Bx) : (outW S b).length ≤ 64 := by
  unfold outW
  split
  · rw [List.length_map]
    have := List.length_filter_le (pT S b) (List.range 64)
    simpa using this
  · simp
theorem free_k {w : World} {F : Nat → Prop} {r g : Nat} {S : List Spot} {B : List (Int × Bx)} {D : List ((Int × Int) × List Int)} {N : Nat} (h : Wd w F r g S B D N) (hLi : Lies S B D) (hN : N ≤ 1000000000) {b : Bx} {but : Int} {K : Value → World → Prop}
    (hK : ∀ w', Ext no w w' → K (.tuple #[.bool (freeV S b but), .int .i64 b.rightE]) w') :
    cl Tryd.prog 17 #[.pointer (some ⟨r, 0, none⟩), b.v, .int .i64 but] w K := by
  apply F17_calls
  unfold F17
  have hS := St.start w
  (refine St.nw hS ?_; clear hS; intro r1 _ hS)
  (refine St.nw hS ?_; clear hS; intro r3 _ hS)
  refine lv_i (hS.ld0 1 rfl rfl (asI_i rfl (hS.ld 1 rfl rfl (asI_i rfl (hS.ld 1 rfl rfl (asI_i rfl ?_))))))
  refine near_of (h.ext hS.ext fun _ _ h => h) hLi hN (b := b) fun p c w2 hx2 hr2 => asT_i rfl rfl (asS_i rfl (asI_i rfl (lv_i ?_)))
  replace hS := hS.to hx2
  refine jn_of (fun s w' => s = [.bool (freeV S b but), .int .i64 b.rightE] ∧ w' = w2) ?_ ?_
  · rintro _ w3 ⟨rfl, rfl⟩
    exact asB_i rfl (asI_i rfl (hK _ hS.ext))
  · intro J hJ
    refine cond_split (fun h0 => ?_) (fun h0 => lv_i (hJ _ _ ⟨?_, rfl⟩))
    · have h0' : b.rightE = 0 := by simpa using h0
      have := outW_len S b
      refine contF_k hr2.reads rfl (by omega) (hS.cell 0 (j := 0) rfl rfl) (asB_i rfl (lv_i (hJ _ _ ⟨?_, rfl⟩)))
      unfold freeV
      rw [decide_eq_true h0', Bool.true_and]
    · have h0' : ¬ b.rightE = 0 := by simpa using h0
      unfold freeV
      rw [decide_eq_false h0', Bool.false_and]
end Go.Proofs.YtamobmjfdiecbaaDoor

/- PhG: the document's examples of steps come out (awake); touches that are compared. Conditions: those of each theorem, on its arguments. -/
namespace Go.Proofs.YtamobmjfdiecbaaDoor
open Go Go.Sx Go.Fp
attribute [local irreducible] jn lv ld st nw asI asB asP asS asY asM asF asA asT lp rn ru rq cl dw dr bnd bn2 nz nn hd hr so eqW
attribute [local irreducible] callOk

theorem cTc : Tryd.prog.cellsOf 47 = 2 := by kernel_rfl
theorem litsT {a b : Int} (ha : I64 a) (hb : I64 b) : Tryd.prog.keyLits 4 47 (Value.agg #[.int .i64 a, .int .i64 b]).cells.toList = some [.int .i64 a, .int .i64 b] := by
  simp [Program.keyLits, Tryd.underlying47, Tryd.underlying3, cTc, cI, Value.cells, wfI ha, wfI hb]
set_option maxRecDepth 100000 in
theorem eqTch {a b : Int} (ha : I64 a) (hb : I64 b) {K : Bool → Prop} (hK : K true) : eqW Tryd.prog 47 (.agg #[.int .i64 a, .int .i64 b]) (.agg #[.int .i64 a, .int .i64 b]) K :=
  eqW_self (m := 4) (by kernel_rfl) (by kernel_rfl) (by decide) rfl (litsT ha hb) hK
theorem litsV {a b : Int} (ha : I64 a) (hb : I64 b) : Tryd.prog.keyLits 4 36 (Value.agg #[.int .i64 a, .int .i64 b]).cells.toList = some [.int .i64 a, .int .i64 b] := by
  simp [Program.keyLits, Tryd.underlying36, Tryd.underlying3, cV, cI, Value.cells, wfI ha, wfI hb]
set_option maxRecDepth 100000 in
theorem eqVec {a b : Int} (ha : I64 a) (hb : I64 b) {K : Bool → Prop} (hK : K true) : eqW Tryd.prog 36 (.agg #[.int .i64 a, .int .i64 b]) (.agg #[.int .i64 a, .int .i64 b]) K :=
  eqW_self (m := 4) (by kernel_rfl) (by kernel_rfl) (by decide) rfl (litsV ha hb) hK

def exA : Ent := ⟨0, 0, 0, 4294967296, 8589934592, 0, 0, 0⟩
def exB : Ent := ⟨0, 21474836480, 0, 4294967296, 0, 0, 0, 0⟩
def exS1 : List Spot := aS0.set 0 (spn Spot.zero 0 exA)
def exS2 : List Spot := exS1.set 1 (spn Spot.zero 1 exB)
def exL0 : List Ent := [⟨64, 0, 0, 4294967296, 8589934592, 0, 0, 0⟩, ⟨65, 21474836480, 0, 4294967296, 0, 0, 0, 0⟩]
def exL1 : List Ent := [⟨64, 8589934592, 0, 4294967296, 8589934592, 0, 0, 0⟩, ⟨65, 21474836480, 0, 4294967296, 0, 0, 0, 0⟩]
def exL2 : List Ent := [⟨64, 12884901888, 0, 4294967296, 0, 0, 0, 0⟩, ⟨65, 21474836480, 0, 4294967296, 0, 0, 0, 0⟩]
theorem exL_0 : listS exS2 = exL0 := by decide +kernel
theorem exL_1 : (stepV exL0).L = exL1 ∧ (stepV exL0).t = [] := by decide +kernel
theorem exL_2 : (stepV exL1).L = exL2 ∧ (stepV exL1).t = [(64, 65)] := by decide +kernel

def ex1 : Bx := ⟨0, 0, 4294967296⟩
def ex2 : Bx := ⟨12884901888, 0, 4294967296⟩
theorem ex1_free : ((exL2.filter (qM ex1)).map (·.h)) = [] := by decide +kernel
theorem ex2_not : ((exL2.filter (qM ex2)).map (·.h)) = [64] := by decide +kernel

/-- a block that stands there, beside the world -/
theorem Pw.addb {W w : World} {L : List (Nat × List Value × TypeId)} {F : Nat → Prop} {r g : Nat} {S : List Spot} {B : List (Int × Bx)} {D : List ((Int × Int) × List Int)} {N : Nat} (h : Pw W w L F r g S B D N) {q : Nat} {cs : List Value} {t : TypeId} (hb : w.heap[q]? = some (.cells cs.toArray t (0, 0))) (hq : W.heap.size ≤ q) (hw : ¬ wF F r q) (hn : ∀ b ∈ L, b.1 ≠ q) :
    Pw W w ((q, cs, t) :: L) F r g S B D N := by
  refine ⟨⟨h.st.ext, fun b hb' => ?_, List.Pairwise.cons (fun b hb' e => hn b hb' e.symm) h.st.nd⟩, h.wd, fun k hk => ⟨(h.fr k hk).1, fun b hb' => ?_⟩⟩
  · rcases List.mem_cons.1 hb' with rfl | hb'
    · exact ⟨hb, hq⟩
    · exact h.st.kn b hb'
  · rcases List.mem_cons.1 hb' with rfl | hb'
    · intro e
      have e' : q = k := e
      exact hw (by rw [e']; exact hk)
    · exact (h.fr k hk).2 b hb'

theorem Pw.pstep {W w : World} {L : List (Nat × List Value × TypeId)} {F : Nat → Prop} {r g n : Nat} {S : List Spot} {B : List (Int × Bx)} {D : List ((Int × Int) × List Int)} {N : Nat} (hP : Pw W w L F r g S B D N) (hA : Ax W) (hG : Good n S) (hLi : Lies S B D) (hB : (B.map (·.1)).Nodup) (hN : N ≤ 500000000000) {K : Value → World → Prop}
    (hK : ∀ p c w' F' S' B' D' LL, Pw W w' (LL ++ L) F' r g S' B' D' (N + 131072) → HoldsV LL p ((stepV (listS S)).t.flatMap tcl) → Good n S' → Lies S' B' D' → (B'.map (·.1)).Nodup → listS S' = (stepV (listS S)).L → Ext (wF F r) w w' → (∀ k, F' k → F k ∨ w.heap.size ≤ k) → (∀ b ∈ LL, w.heap.size ≤ b.1) →
      K (.slice p (stepV (listS S)).t.length c) w') :
    cl Tryd.prog 11 #[.pointer (some ⟨r, 0, none⟩)] w K := by
  have h0 : 0 < W.heap.size := Nat.lt_of_le_of_lt (Nat.zero_le _) (World.block_lt_of_cell? W _ hA.a0)
  refine step_k (hA.no hP.st.ext) hP.wd (fun h => ?_) hG hLi hB hN fun p c w' F' S' B' D' hw hx hF hG' hL' hB' hl hr ho => ?_
  · have := (hP.fr 0 h).1
    omega
  · have hP' := hP.step hw hx hF
    rcases hr.cases with ⟨rfl, _, _, h0⟩ | ⟨q, cur, rfl, hq, hb, _, _, _, ht⟩
    · exact hK none c w' F' S' B' D' [] hP' (fun _ _ => .inl h0) hG' hL' hB' hl hx hF (by simp)
    · refine hK _ c w' F' S' B' D' [(q, cur.toList, _)] (hP'.addb (by simpa using hb) (Nat.le_trans hP.st.ext.size hq) (ho _ rfl) fun b hb' => ?_) (fun w1 hw1 => .inr ⟨q, 0, rfl, fun i v hv => ?_⟩) hG' hL' hB' hl hx hF (by simpa using hq)
      · have := blk_lt (hP.st.kn b hb').1
        omega
      · have hb1 := hw1 _ List.mem_cons_self
        rw [blk_cell hb1, Nat.zero_add]
        rw [← ht, List.getElem?_take] at hv
        split at hv
        · simpa using hv
        · cases hv
theorem Pw.readsV {W w : World} {L LL : List (Nat × List Value × TypeId)} {F : Nat → Prop} {r g : Nat} {S : List Spot} {B : List (Int × Bx)} {D : List ((Int × Int) × List Int)} {N : Nat} {p : Option Addr} {vs : List Value} (h : Pw W w L F r g S B D N) (hH : HoldsV LL p vs) (hs : ∀ b ∈ LL, b ∈ L) : Reads w p vs := hH w fun b hb => (h.st.kn b (hs b hb)).1
theorem Pw.near {W w : World} {L : List (Nat × List Value × TypeId)} {F : Nat → Prop} {r g : Nat} {S : List Spot} {B : List (Int × Bx)} {D : List ((Int × Int) × List Int)} {N : Nat} (h : Pw W w L F r g S B D N) (hLi : Lies S B D) (hN : N ≤ 1000000000) {b : Bx} {but : Int} {K : Value → World → Prop}
    (hK : ∀ w', Pw W w' L F r g S B D N → K (.tuple #[.bool (freeV S b but), .int .i64 b.rightE]) w') :
    cl Tryd.prog 17 #[.pointer (some ⟨r, 0, none⟩), b.v, .int .i64 but] w K := free_k h.wd hLi hN fun w' hx => hK w' (h.to hx)

set_option maxHeartbeats 2000000 in
theorem awake20_k {w : World} (hA : Ax w) {K : Value → World → Prop} (hK : ∀ w', Ext no w w' → K (.bool true) w') : cl Tryd.prog 8 #[] w K := by
  apply F8_calls
  unfold F8
  refine wnew_k ?_
  intro w1 F r g hw hx1 hF hr
  refine asP_i rfl (cond_f rfl ?_)
  have hP := Pw.start (St.start w) hx1 hw hF hr
  have hA0 : exA.rightE = 0 := by decide
  have hB0 : exB.rightE = 0 := by decide
  have iA : exA.I := by unfold Ent.I I64 exA; decide
  have iB : exB.I := by unfold Ent.I I64 exB; decide
  have f0 : IsFree aS0 0 Spot.zero := ⟨rfl, rfl, fun j s hj => absurd hj (by omega)⟩
  refine hP.spawn (e := exA) (by decide) (fun w' _ he => absurd hA0 he) (fun w' _ _ hf => absurd (hf 0 _ f0.1) (by decide)) ?_
  intro w4 F4 i s _ hf hP
  obtain ⟨rfl, rfl⟩ := hf.unique f0
  refine asT_i (l := [.int .i64 64, .int .i64 0]) rfl rfl (asI_i rfl (asI_i rfl (lv_i (lv_i ?_))))
  have hG1 := Good.zero.spawn (by decide) f0.1 hA0 iA
  have hL1 := Lies.zero.spawn f0 hA0
  have hB1 := nd_put (s := wside) (id := ((0 : Nat) : Int)) (b := exA.box) (B := []) (by simp)
  replace hP : Pw w w4 _ F4 r g exS1 _ _ _ := hP
  have f1 : IsFree exS1 1 Spot.zero := ⟨rfl, rfl, fun j s hj hs => by
    have : j = 0 := by omega
    subst this
    cases hs
    rfl⟩
  refine hP.spawn (e := exB) (by decide) (fun w' _ he => absurd hB0 he) (fun w' _ _ hf => absurd (hf 1 _ f1.1) (by decide)) ?_
  intro w5 F5 i s _ hf hP
  obtain ⟨rfl, rfl⟩ := hf.unique f1
  refine asT_i (l := [.int .i64 65, .int .i64 0]) rfl rfl (asI_i rfl (asI_i rfl (lv_i (lv_i ?_))))
  have hG2 := hG1.spawn (by decide) f1.1 hB0 iB
  have hL2 := hL1.spawn f1 hB0
  have hB2 := nd_put (s := wside) (id := ((1 : Nat) : Int)) (b := exB.box) hB1
  replace hP : Pw w w5 _ F5 r g exS2 _ _ _ := hP
  replace hG2 : Good 2 exS2 := hG2
  replace hL2 : Lies exS2 _ _ := hL2
  refine hP.pstep hA hG2 hL2 hB2 (by decide) fun p c w6 F6 S6 B6 D6 L6 hP _ hG6 hL6 hB6 hl6 _ _ _ => ?_
  rw [exL_0] at hl6 ⊢
  rw [exL_1.1] at hl6
  rw [exL_1.2]
  refine asS_i rfl ?_
  refine hP.pstep hA hG6 hL6 hB6 (by decide) fun p c w7 F7 S7 B7 D7 L7 hP hH7 hG7 hL7 hB7 hl7 _ _ _ => ?_
  rw [hl6] at hl7 hH7 ⊢
  rw [exL_2.1] at hl7
  rw [exL_2.2] at hH7 ⊢
  refine asS_i rfl ?_
  have hg := get_of hG7 (m := 0) (e := ⟨64, 12884901888, 0, 4294967296, 0, 0, 0, 0⟩) (by rw [hl7]; rfl)
  refine hP.get fun w8 hP => ?_
  have hg1 : getE S7 64 = ⟨64, 12884901888, 0, 4294967296, 0, 0, 0, 0⟩ := hg.1
  have hg2 : getC S7 64 = 0 := hg.2
  rw [hg1, hg2]
  refine asT_i (l := [(⟨64, 12884901888, 0, 4294967296, 0, 0, 0, 0⟩ : Ent).v, .int .i64 0]) rfl rfl (asI8 ?_)
  refine asI_i rfl (asI_i rfl (asI_i rfl (asI_i rfl (asI_i rfl (asI_i rfl (asI_i rfl (asI_i rfl (asI_i rfl ?_))))))))
  refine hP.nw (cs := Ent.zero.cells) fun r41 w9 hP => ?_
  refine hP.st8 rfl ⟨64, 12884901888, 0, 4294967296, 0, 0, 0, 0⟩ fun w10 hP => lv_i ?_
  have hlen := hP.wd.ws.len
  have ef1 : freeV S7 ex1 64 = true := by
    unfold freeV
    rw [outW_eq hlen (b := ex1) (by decide), hl7, ex1_free]
    decide
  have ef2 : freeV S7 ex2 65 = false := by
    unfold freeV
    rw [outW_eq hlen (b := ex2) (by decide), hl7, ex2_not]
    decide
  have er1 : ex1.rightE = 0 := by decide
  have er2 : ex2.rightE = 0 := by decide
  refine hP.near hL7 (by decide) (b := ex1) (but := 64) fun w11 hP => ?_
  rw [ef1, er1]
  refine asT_i rfl rfl (asB_i rfl (asI_i rfl (lv_i ?_)))
  refine hP.near hL7 (by decide) (b := ex2) (but := 65) fun w12 hP => ?_
  rw [ef2, er2]
  refine asT_i rfl rfl (asB_i rfl (asI_i rfl (lv_i ?_)))
  refine jn_of (fun s w' => s = [.bool true] ∧ w' = w12) ?_ ?_
  · rintro _ w13 ⟨rfl, rfl⟩
    exact asB_i rfl (hK _ hP.st.ext)
  · intro J hJ
    have hR := hP.readsV hH7 (fun b hb => List.mem_cons_of_mem _ (List.mem_append_left _ hb))
    have hbk := (hP.st.kn _ List.mem_cons_self).1
    refine cond_t rfl (cond_t rfl (cond_t rfl (cond_t rfl ?_)))
    refine Reads.atN (f := tcl) (s := 2) (fun _ => rfl) (l := [((64 : Int), (65 : Int))]) hR rfl (i := 0) (x := (64, 65)) rfl (by decide) fun a67 _ hca => ?_
    have h0 := hca 0 (by decide)
    rw [Sx.add_zero'] at h0
    refine ld_mk h0 (asI_i rfl (ld_mk (hca 1 (by decide)) (asI_i rfl ?_)))
    refine eqTch (by unfold I64; decide) (by unfold I64; decide) (cond_t rfl (cond_t rfl ?_))
    have hc : ∀ k v, (⟨64, 12884901888, 0, 4294967296, 0, 0, 0, 0⟩ : Ent).cells[k]? = some v → w12.cell? ⟨r41, k, none⟩ = some v := fun k v hv => by
      rw [blk_cell hbk]
      simpa using hv
    refine ld_mk (by rw [add_mk]; exact hc 1 _ rfl) (asI_i rfl (cond_t rfl ?_))
    refine ld_mk (by rw [add_mk]; exact hc 4 _ rfl) (asI_i rfl (ld_mk (by rw [add_mk, add_mk]; exact hc 5 _ rfl) (asI_i rfl ?_)))
    refine eqVec (by unfold I64; decide) (by unfold I64; decide) (cond_t rfl (cond_t rfl (cond_t rfl (cond_t rfl (hJ _ _ ⟨rfl, rfl⟩)))))
end Go.Proofs.YtamobmjfdiecbaaDoor

/- PhL1: the law PhysicsApart comes out true for every input. Conditions: those of the law's arguments as they are read; the table of the axes as the program's text lays it. -/
namespace Go.Proofs.YtamobmjfdiecbaaDoor
open Go Go.Sx Go.Fp
attribute [local irreducible] jn lv ld st nw asI asB asP asS asY asM asF asA asT lp rn ru rq cl dw dr bnd bn2 nz nn hd hr so eqW
attribute [local irreducible] callOk

theorem andm (x : Int) {m : Nat} (hm : m < 9223372036854775808) : 0 ≤ Go.bits .and .i64 x (m : Int) ∧ Go.bits .and .i64 x (m : Int) ≤ m := by
  have h : ∀ a : Nat, a ≤ m → 0 ≤ IntKind.wrap .i64 (a : Int) ∧ IntKind.wrap .i64 (a : Int) ≤ m := fun a ha => by
    rw [wr64 (by omega) (by omega)]; omega
  simp only [Go.bits]
  refine h _ ?_
  rw [BitVec.toNat_and]
  refine Nat.le_trans Nat.and_le_right ?_
  rw [BitVec.toNat_ofInt]
  have : ((m : Int) % (2 ^ IntKind.i64.bits : Nat)) = (m : Int) := by
    simp only [IntKind.bits]
    omega
  rw [this]
  simp
theorem addA (A : Addr) (m n : Nat) : Addr.add (Addr.add A m) n = Addr.add A (m + n) := by
  by_cases hm : m = 0 <;> by_cases hn : n = 0 <;> simp [Addr.add, hm, hn, Nat.add_assoc]
theorem Pw.dropL {W w : World} {F : Nat → Prop} {r g : Nat} {S : List Spot} {B : List (Int × Bx)} {D : List ((Int × Int) × List Int)} {N : Nat} : ∀ {LL L : List (Nat × List Value × TypeId)}, Pw W w (LL ++ L) F r g S B D N → Pw W w L F r g S B D N
  | [], _, h => h
  | _ :: LL, _, h => Pw.dropL (LL := LL) h.tail
theorem Pw.mono {W w : World} {L : List (Nat × List Value × TypeId)} {F : Nat → Prop} {r g : Nat} {S : List Spot} {B : List (Int × Bx)} {D : List ((Int × Int) × List Int)} {N M : Nat} (h : Pw W w L F r g S B D N) (hM : N ≤ M) : Pw W w L F r g S B D M := ⟨h.st, h.wd.mono hM, h.fr⟩

/-- the laws' world -/
theorem made_pw {W w : World} (hx : Ext no W w) {l kl : Option Addr} {len cap kn kc : Nat} {es : List Ent} {ks : List Int} (R : Reads W l (es.flatMap Ent.cells)) (hl : es.length = len) (hI : ∀ e ∈ es, e.I) (Rk : Reads W kl (iv .i64 ks)) (hk : ks.length = kn) {K : Value → World → Prop}
    (hK : ∀ w' F r g x B D, Pw W w' [] F r g (madeN es ks (min len 40)) B D 40960 → Good 40 (madeN es ks (min len 40)) → Lies (madeN es ks (min len 40)) B D → (B.map (·.1)).Nodup → K (.tuple #[.pointer (some ⟨r, 0, none⟩), .pointer (some ⟨x, 0, none⟩)]) w') :
    cl Tryd.prog 9 #[.slice l len cap, .slice kl kn kc] w K := by
  refine made_k (Reads.no hx R) hl hI (Reads.no hx Rk) hk fun w' r g x B D h hG hL hB => ?_
  obtain ⟨F, h1, h2, h3, h4⟩ := h.gr
  refine hK w' F r g x B D ⟨((St.start W).to hx).to h.st.ext, h1, fun k hk => ⟨?_, by simp⟩⟩ hG hL hB
  have := (h4 k (.inl hk)).1
  have := hx.size
  omega

theorem hands_nd {n : Nat} {S : List Spot} (hG : Good n S) : ((listS S).map (·.h)).Nodup := by
  rw [List.nodup_iff_pairwise_ne, List.pairwise_map, List.pairwise_iff_getElem]
  intro i j hi hj hij he
  obtain ⟨i1, s1, h1, h2, h3, h4, _, _, h5⟩ := list_at hG (List.getElem?_eq_getElem hi)
  obtain ⟨j1, t1, g1, g2, g3, g4, _, _, g5⟩ := list_at hG (List.getElem?_eq_getElem hj)
  rw [he, g4] at h4
  cases h4
  have e1 := h5 0 ⟨1, 0, 0, 0, 0, 0, 0, 0⟩
  rw [g5 0 ⟨1, 0, 0, 0, 0, 0, 0, 0⟩] at e1
  have e2 := congrArg (fun l => l[i]?) e1
  rw [List.getElem?_set_self hi, List.getElem?_set_ne (by omega), List.getElem?_eq_getElem hi] at e2
  have e3 := Option.some.inj e2
  have h6 := (list_at hG (List.getElem?_eq_getElem hi))
  obtain ⟨_, _, _, _, _, _, hr, _⟩ := h6
  rw [e3] at hr
  revert hr
  decide

/-- three places of an entity: its box -/
theorem ld3 {w : World} {A : Addr} {e : Ent} (hc : ∀ k, k < 8 → w.cell? (Addr.add A k) = e.cells[k]?) {K : Int → Int → Int → Prop} (hK : K e.x e.y e.r) :
    ld w (Addr.add A 1) fun v1 => asI .i64 v1 fun x0 => ld w (Addr.add (Addr.add A 1) 1) fun v2 => asI .i64 v2 fun x1 => ld w (Addr.add (Addr.add A 1) 2) fun v3 => asI .i64 v3 fun x2 => K x0 x1 x2 :=
  ld_mk (hc 1 (by decide)) (asI_i rfl (ld_mk (by rw [addA]; exact hc 2 (by decide)) (asI_i rfl (ld_mk (by rw [addA]; exact hc 3 (by decide)) (asI_i rfl hK)))))

set_option maxHeartbeats 2000000 in
theorem physicsApart_law (W : World) (hA : Ax W) (a0 : Option Addr) (len0 cap0 : Nat) (z0 : List (List Value)) (R0 : Reads W a0 z0.flatten) (L0 : z0.length = len0) (F0 : ∀ c ∈ z0, FitsAll [.int .i64, .int .i64, .int .i64, .int .i64, .int .i64, .int .i64, .int .i64, .int .i64] c) (Y0 : len0 * 64 ≤ 140737488351232)
    (a1 : Option Addr) (len1 cap1 : Nat) (z1 : List Int) (Ra : Reads W a1 (iv .i64 z1)) (L1 : z1.length = len1) (_F1 : ∀ n ∈ z1, (Lit.int .i64 n).wf = true) (_Y1 : len1 * 8 ≤ 140737488351232) (steps : Int) (_ws : (Lit.int .i64 steps).wf = true) :
    cl Tryd.prog 3 #[.slice a0 len0 cap0, .slice a1 len1 cap1, .int .i64 steps] W fun v w' => v = .bool true ∧ Ext no W w' := by
  obtain ⟨es, hz, hl, hI⟩ := ents_of rfl F0
  rw [hz] at R0
  rw [L0] at hl
  clear hz L0 F0
  apply F3_calls
  unfold F3
  refine awake20_k hA fun w2 hx2 => asB_i rfl ?_
  refine made_pw hx2 R0 hl hI Ra L1 fun w5 F r g x B D hP hG hLi hB => asT_i rfl rfl (asP_i rfl (asP_i rfl ?_))
  generalize madeN es z1 (min len0 40) = S at *
  refine jn_of (fun t w' => t = [.bool false] ∧ w' = w5) ?_ ?_
  rotate_left
  · intro J hJ
    exact cond_f rfl (hJ _ _ ⟨rfl, rfl⟩)
  rintro _ w5 ⟨rfl, rfl⟩
  refine asB_i rfl (cond_f rfl (lv_i ?_))
  have h7 := andm steps (m := 7) (by decide)
  generalize Go.bits .and .i64 steps ((7 : Nat) : Int) = st at h7
  have e7 : Go.bits .and .i64 steps (7 : Int) = Go.bits .and .i64 steps ((7 : Nat) : Int) := rfl
  refine lp_mk (fun i : Nat => [.int .i64 (i : Int)]) (fun m i w' => m = 8 - i ∧ i ≤ 8 ∧ ∃ F S B D, Pw W w' [] F r g S B D (40960 + 131072 * i) ∧ Good 40 S ∧ Lies S B D ∧ (B.map (·.1)).Nodup) 8 0 rfl
    ⟨rfl, Nat.zero_le _, F, S, B, D, hP, hG, hLi, hB⟩ ?_
  clear hP hG hLi hB F S B D hx2
  rintro _ n w15 ⟨rfl, hn, F, S, B, D, hP, hG, hLi, hB⟩ J hJ
  have h7' := andm steps (m := 7) (by decide)
  refine asI_i rfl (cond_split (fun hc => ?_) (fun _ => ⟨rfl, hP.st.ext⟩))
  have hn8 : n < 8 := by
    have := of_decide_eq_true hc
    have : Go.bits .and .i64 steps (7 : Int) ≤ 7 := h7'.2
    omega
  have en : IntKind.wrap .i64 ((n : Int) + 1) = ((n + 1 : Nat) : Int) := by rw [wr64 (by omega) (by omega)]; omega
  refine hP.list fun p20 c22 w19 LL1 hP hH1 => asS_i rfl ?_
  refine hP.pstep hA hG hLi hB (by omega) fun p25 c27 w24 F2 S2 B2 D2 L3 hP _ hG2 hL2 hB2 hl2 _ _ _ => asS_i rfl ?_
  refine hP.list fun p30 c32 w29 LL4 hP hH4 => asS_i rfl ?_
  have hKp := Kp.step (list_right hG) (hands_nd hG) (listS S).length
  have hlen := stepN_len (listS S) (listS S).length
  have e1 : stepV (listS S) = stepN (listS S) (listS S).length := rfl
  rw [e1] at hl2
  rw [← hl2] at hKp hlen
  have hr1 := list_right hG
  have hr2 := list_right hG2
  have hll := listS_len S
  have h64 := hP.wd.ws.len
  have hll2 := listS_len S2
  refine cond_f (by rw [hlen]; simp) (lv_i ?_)
  have Ra' := hP.reads hH1 (fun b hb => List.mem_append_right _ (List.mem_append_right _ (List.mem_append_left _ hb)))
  have R4' := hP.reads hH4 (fun b hb => List.mem_append_left _ hb)
  have hPd : Pw W w29 [] F2 r g S2 B2 D2 (40960 + 131072 * n + 131072) := (hP.dropL.dropL.dropL)
  clear hP hl2 e1
  generalize listS S = X at *
  generalize hX' : listS S2 = X' at *
  refine lp_mk (fun i : Nat => [.int .i64 (i : Int)]) (fun m i w' => m = X.length - i ∧ i ≤ X.length ∧ Ext no w29 w') X.length 0 rfl ⟨rfl, Nat.zero_le _, Ext.refl _ _⟩ ?_
  rintro _ i w35 ⟨rfl, hi, hx35⟩ J2 hJ2
  refine asI_i rfl (cond_split (fun hci => ?_) (fun _ => ?_))
  · have hil : i < X.length := by
      have := of_decide_eq_true hci
      omega
    have ei : IntKind.wrap .i64 ((i : Int) + 1) = ((i + 1 : Nat) : Int) := by rw [wr64 (by omega) (by omega)]; omega
    refine lv_i ?_
    refine lp_mk (fun k : Nat => [.int .i64 (k : Int)]) (fun m k w' => m = i - k ∧ k ≤ i ∧ Ext no w29 w') i 0 rfl ⟨rfl, Nat.zero_le _, hx35⟩ ?_
    rintro _ k w40 ⟨rfl, hk, hx40⟩ J3 hJ3
    refine asI_i rfl (cond_split (fun hck => ?_) (fun _ => ?_))
    · have hki : k < i := by
        have := of_decide_eq_true hck
        omega
      have ek : IntKind.wrap .i64 ((k : Int) + 1) = ((k + 1 : Nat) : Int) := by rw [wr64 (by omega) (by omega)]; omega
      have hXi : X[i]? = some X[i] := List.getElem?_eq_getElem hil
      have hXk : X[k]? = some X[k] := List.getElem?_eq_getElem (by omega)
      have hYi : X'[i]? = some (X'[i]'(by omega)) := List.getElem?_eq_getElem (by omega)
      have hYk : X'[k]? = some (X'[k]'(by omega)) := List.getElem?_eq_getElem (by omega)
      have ri := box_right (hr1 _ (List.getElem_mem hil))
      have rk := box_right (hr1 _ (List.getElem_mem (by omega : k < X.length)))
      have ri' := box_right (hr2 _ (List.getElem_mem (by omega : i < X'.length)))
      have rk' := box_right (hr2 _ (List.getElem_mem (by omega : k < X'.length)))
      generalize X[i] = a at *
      generalize X[k] = b at *
      generalize X'[i]'(by omega) = a' at *
      generalize X'[k]'(by omega) = b' at *
      have hov := hKp.ap i k a' b' a b (by omega) hYi hYk hXi hXk
      refine dw_mk ?_
      have hxd := hx40.trans (Ext.drew w40)
      refine Reads.atN (f := Ent.cells) Ent.cells_length (Reads.no hxd Ra') rfl hXi (by decide) fun c1 _ hca => ?_
      rw [Int.toNat_natCast]
      refine ld3 hca ?_
      refine Reads.atN (f := Ent.cells) Ent.cells_length (Reads.no hxd Ra') rfl hXk (by decide) fun c2 _ hcb => ?_
      rw [Int.toNat_natCast]
      refine ld3 hcb ?_
      refine meet_k (a := a.box) (b := b.box) fun w59 hx59 => asT_i rfl rfl (asB_i rfl (asI_i rfl (lv_i (dw_mk ?_))))
      have hxe := (hxd.trans hx59).trans (Ext.drew w59)
      refine Reads.atN (f := Ent.cells) Ent.cells_length (Reads.no hxe R4') rfl hYi (by decide) fun c3 _ hcc => ?_
      refine ld3 hcc ?_
      refine Reads.atN (f := Ent.cells) Ent.cells_length (Reads.no hxe R4') rfl hYk (by decide) fun c4 _ hcd => ?_
      refine ld3 hcd ?_
      refine meet_k (a := a'.box) (b := b'.box) fun w80 hx80 => asT_i rfl rfl (asB_i rfl (asI_i rfl (lv_i ?_)))
      have hxf := hxe.trans hx80
      rw [show (meetV a.box b.box).1 = decide (Ov a.box b.box) from meet_ov ri rk, show (meetV a'.box b'.box).1 = decide (Ov a'.box b'.box) from meet_ov ri' rk']
      refine jn_of (fun t w' => t = [.bool false] ∧ w' = w80) ?_ ?_
      · rintro _ w86 ⟨rfl, rfl⟩
        refine asB_i rfl (cond_f rfl (lv_i ?_))
        rw [ek]
        exact hJ3 (i - (k + 1)) (k + 1) _ (by omega) ⟨rfl, by omega, hxf⟩
      · intro J4 hJ4
        refine cond_split (fun h => hJ4 _ _ ⟨?_, rfl⟩) (fun _ => hJ4 _ _ ⟨rfl, rfl⟩)
        rw [decide_eq_true (hov (of_decide_eq_true h))]
        rfl
    · refine lv_i ?_
      rw [ei]
      exact hJ2 (X.length - (i + 1)) (i + 1) w40 (by omega) ⟨rfl, by omega, hx40⟩
  · refine lv_i ?_
    rw [en]
    refine hJ (8 - (n + 1)) (n + 1) w35 (by omega) ⟨rfl, by omega, F2, S2, B2, D2, (hPd.to hx35).mono (by omega), hG2, hL2, hB2⟩
end Go.Proofs.YtamobmjfdiecbaaDoor

/- PhX: the listed table of axes, as the condition of the rows gives it: its two cells hold the two functions. Conditions: those of each theorem, on its arguments. -/
namespace Go.Proofs.YtamobmjfdiecbaaDoor
open Go Go.Sx Go.ChangeShapes Go.WideShapes Go.ChangeAt Go.RowKit

def laidL : List (String × DataW Unit) := [("tiltyard/physics.axes", Rows.laid_tiltyard_physics_axes)]
theorem gAxes : Tryd.prog.globalNamed "tiltyard/physics.axes" = some 0 := by kernel_rfl
theorem tAxes : (Tryd.prog.globals[0]?).map (·.type) = some 76 := by kernel_rfl
theorem cAxis : Tryd.prog.cellsOf 75 = 1 := by kernel_rfl
theorem cAxes : Tryd.prog.cellsOf 76 = 2 := by kernel_rfl
/-- the door's own heap meets the condition -/
theorem door_met (os : Os) (args : Array Value) : laidMetH Tryd.prog laidL ((World.doorLaid Tryd.prog 14 os).forCall (fun _ _ => 0) ⟨#[], args, []⟩).memory :=
  laidMetH_of_parts3 (fuel := 8) (laidMet_of_run' 8 (by kernel_rfl) (by kernel_rfl)) (by kernel_rfl) (by kernel_rfl)

def axN1 : List UInt8 := [116, 105, 108, 116, 121, 97, 114, 100, 47, 112, 104, 121, 115, 105, 99, 115, 46, 97, 120, 101, 115, 36, 49]
def axN2 : List UInt8 := [116, 105, 108, 116, 121, 97, 114, 100, 47, 112, 104, 121, 115, 105, 99, 115, 46, 97, 120, 101, 115, 36, 50]
set_option maxRecDepth 100000 in
theorem of_laid {W : World} (h : laidMetH Tryd.prog laidL W) : Ax W := by
  obtain ⟨g, t, cs, fuel, p, hg, ht, hv, hd⟩ := h.funcs (List.mem_singleton.2 rfl)
  obtain rfl := Option.some.inj (gAxes.symm.trans hg)
  obtain rfl := Option.some.inj (tAxes.symm.trans ht)
  have hd' : DataW.trod (funcToken Tryd.prog) Tryd.prog W 0 (fun _ => true) true fuel 76 cs.toList = some (.agg [.held axN1, .held axN2], p) := hd
  obtain ⟨xs, m, rfl, hx, hlen, hn2, hel⟩ := DataW.trod_array Tryd.underlying76 hd'
  have h0 := hel 0 (by decide)
  have h1 := hel 1 (by decide)
  rw [cAxis] at h0 h1
  rw [cAxes] at hlen
  simp only [Prod.mk.injEq, DataW.agg.injEq] at hx
  match xs, hn2, hx, h0, h1 with
  | [x0, x1], _, hx, h0, h1 =>
    obtain ⟨hx1, _⟩ := hx
    simp only [List.map_cons, List.map_nil, List.cons.injEq, and_true] at hx1
    obtain ⟨l⟩ := cs
    match l, hlen with
    | [c0, c1], _ =>
      have e0 : DataW.trod (funcToken Tryd.prog) Tryd.prog W 0 (fun _ => true) true m 75 [c0] = some (.held axN1, x0.2) := by
        rw [hx1.1]
        exact h0
      have e1 : DataW.trod (funcToken Tryd.prog) Tryd.prog W 0 (fun _ => true) true m 75 [c1] = some (.held axN2, x1.2) := by
        rw [hx1.2]
        exact h1
      obtain rfl := func_of_trod (f0 := 113) Tryd.underlying75 (by kernel_rfl) e0
      obtain rfl := func_of_trod (f0 := 114) Tryd.underlying75 (by kernel_rfl) e1
      exact ⟨by simpa using World.var?_cell hg hv 0, by simpa using World.var?_cell hg hv 1⟩
end Go.Proofs.YtamobmjfdiecbaaDoor

/- PhC: the plain law of steps: nobody goes farther than its way says, touches are of those that are there. No condition beyond each theorem's own. -/
namespace Go.Proofs.YtamobmjfdiecbaaDoor
open Go Go.Sx Go.Fp

def wayP (a b v : Int) : Prop := if 0 ≤ v then a ≤ b ∧ b ≤ a + v else b ≤ a ∧ a + v ≤ b
instance (a b v : Int) : Decidable (wayP a b v) := by unfold wayP; infer_instance
structure Wy (e f : Ent) : Prop where
  x : wayP e.x f.x e.vx
  y : wayP e.y f.y e.vy
  vx : f.vx = e.vx ∨ f.vx = 0
  vy : f.vy = e.vy ∨ f.vy = 0
  h : f.h = e.h
  r : f.r = e.r
  o : f.o = e.o
  t : f.t = e.t

theorem way_of {a v w : Int} (h0 : 0 ≤ w) (h1 : w ≤ mgn v) : wayP a (a + sgn v * w) v := by
  unfold wayP
  rcases sgn_cases v with ⟨hs, hv, hm⟩ | ⟨hs, hv, hm⟩
  · rw [hs, if_neg (by omega)]
    omega
  · rw [hs, if_pos hv]
    omega

theorem turn_two {L M : List Ent} {e : Ent} (he : e.rightE = 0) (hL : ∀ o ∈ L, o.rightE = 0) (hM : ∀ o ∈ M, o.rightE = 0) : Wy e (turnE M (turnE L e false).1 true).1 := by
  obtain ⟨w, v, h1, h2, h3, h4, _⟩ := turn_open (k := false) he hL
  have he1 := turnE_right (L := L) (k := false) he
  obtain ⟨w', v', g1, g2, g3, g4, _⟩ := turn_open (k := true) he1 hM
  have b1 := pushF_le (sgn (e.vel false)) e.box false ((oth L e.h).map Ent.box) 0 (mgn (e.vel false), -1)
  have b2 := pushF_le (sgn ((turnE L e false).1.vel true)) (turnE L e false).1.box true ((oth M (turnE L e false).1.h).map Ent.box) 0 (mgn ((turnE L e false).1.vel true), -1)
  simp only at b1 b2
  have hw := Int.le_trans g3 b2
  rw [g1]
  clear g1 g3 b2
  rw [h1] at hw g4 ⊢
  have e1 : (e.setk false (e.box.at false + sgn (e.vel false) * w) v).vel true = e.vy := rfl
  rw [e1] at g4 hw ⊢
  refine ⟨way_of h2 (Int.le_trans h3 b1), way_of (a := e.y) g2 hw, ?_, ?_, rfl, rfl, rfl, rfl⟩
  · rcases h4 with rfl | rfl
    · exact .inr rfl
    · exact .inl rfl
  · rcases g4 with rfl | rfl
    · exact .inr rfl
    · exact .inl rfl

theorem turn1_ne {m j : Nat} {s : Tn} {k : Bool} (hj : j ≠ m) : (turn1 m s k).L[j]? = s.L[j]? := by
  unfold turn1
  cases he : s.L[m]? with
  | none => rfl
  | some e =>
    simp only
    split <;> exact List.getElem?_set_ne (fun e => hj e.symm)
theorem turn1_at {m : Nat} {s : Tn} {k : Bool} {e : Ent} (he : s.L[m]? = some e) : (turn1 m s k).L[m]? = some (turnE s.L e k).1 := by
  have hl := (List.getElem?_eq_some_iff.1 he).1
  unfold turn1
  rw [he]
  simp only
  split <;> exact List.getElem?_set_self hl
theorem stepN_ne {L : List Ent} {m j : Nat} (hj : j ≠ m) : (stepN L (m + 1)).L[j]? = (stepN L m).L[j]? := by
  show (turn1 m (turn1 m ⟨(stepN L m).L, (stepN L m).t, []⟩ false) true).L[j]? = _
  rw [turn1_ne hj, turn1_ne hj]
theorem stepN_before {L : List Ent} {j : Nat} : ∀ {m : Nat}, m ≤ j → (stepN L m).L[j]? = L[j]?
  | 0, _ => rfl
  | m + 1, h => by rw [stepN_ne (by omega), stepN_before (by omega)]
theorem stepN_after {L : List Ent} {j : Nat} : ∀ {m : Nat}, j < m → (stepN L m).L[j]? = (stepN L (j + 1)).L[j]?
  | 0, h => absurd h (by omega)
  | m + 1, h => by
    by_cases hj : j = m
    · subst hj; rfl
    · rw [stepN_ne hj, stepN_after (by omega)]

theorem step_way {L : List Ent} (hr : ∀ e ∈ L, e.rightE = 0) (hn : (L.map (·.h)).Nodup) {j : Nat} {e f : Ent} (he : L[j]? = some e) (hf : (stepV L).L[j]? = some f) : Wy e f := by
  have hjl := (List.getElem?_eq_some_iff.1 he).1
  have e1 : (stepV L).L[j]? = (stepN L (j + 1)).L[j]? := stepN_after hjl
  rw [e1] at hf
  have hk := (Kp.step hr hn j).rt
  have h0 : (⟨(stepN L j).L, (stepN L j).t, []⟩ : Tn).L[j]? = some e := by rw [← he]; exact stepN_before (Nat.le_refl _)
  have h1 := turn1_at (k := false) h0
  have h2 := turn1_at (k := true) h1
  have e2 : (stepN L (j + 1)).L[j]? = (turn1 j (turn1 j ⟨(stepN L j).L, (stepN L j).t, []⟩ false) true).L[j]? := rfl
  rw [e2, h2] at hf
  have hf' := Option.some.inj hf
  rw [← hf']
  have hk1 := (Kp.turn1 (s := ⟨(stepN L j).L, (stepN L j).t, []⟩) (Kp.step hr hn j) hn j false).rt
  exact turn_two (hr e (List.mem_of_getElem? he)) hk hk1

/-! ### touches -/
def Tch (L0 : List Ent) (t : List (Int × Int)) : Prop := ∀ p ∈ t, p.1 ∈ L0.map (·.h) ∧ p.2 ∈ L0.map (·.h) ∧ p.1 ≠ p.2
theorem Tch.turn1 {L0 : List Ent} {s : Tn} (h : Tch L0 s.t) (hk : Kp L0 s.L) (m : Nat) (k : Bool) : Tch L0 (turn1 m s k).t := by
  unfold Go.Proofs.YtamobmjfdiecbaaDoor.turn1
  cases he : s.L[m]? with
  | none => exact h
  | some e =>
    simp only
    split
    · rename_i hc
      intro p hp
      rcases List.mem_append.1 hp with hp | hp
      · exact h p hp
      · rw [List.mem_singleton.1 hp]
        have hem := List.mem_of_getElem? he
        obtain ⟨_, _, _, _, _, _, h5⟩ := turn_open (k := k) (hk.rt e hem) hk.rt
        rcases h5 with h5 | ⟨o, ho, h5⟩
        · exact absurd h5 hc.1
        · obtain ⟨h6, h7⟩ := List.mem_filter.1 ho
          rw [← hk.hs]
          refine ⟨List.mem_map.2 ⟨e, hem, rfl⟩, List.mem_map.2 ⟨o, h6, h5.symm⟩, fun hh => ?_⟩
          simp only at hh
          rw [h5] at hh
          simp [hh] at h7
    · exact h
theorem Tch.turnN {L0 : List Ent} {s : Tn} (h : Tch L0 s.t) (hk : Kp L0 s.L) (hn : (L0.map (·.h)).Nodup) (m : Nat) : ∀ k, Tch L0 (turnN m s k).t
  | 0 => h
  | k + 1 => (Tch.turnN h hk hn m k).turn1 (hk.turnN hn m k) m (k == 1)
theorem Tch.step {L0 : List Ent} (hr : ∀ e ∈ L0, e.rightE = 0) (hn : (L0.map (·.h)).Nodup) : ∀ m, Tch L0 (stepN L0 m).t
  | 0 => fun p hp => by cases hp
  | m + 1 => Tch.turnN (s := ⟨(stepN L0 m).L, (stepN L0 m).t, []⟩) (Tch.step hr hn m) (Kp.step hr hn m) hn m 2
end Go.Proofs.YtamobmjfdiecbaaDoor

/- PhL2: the law PhysicsWays comes out true for every input. Conditions: those of the law's arguments as they are read; the table of the axes as the program's text lays it. -/
namespace Go.Proofs.YtamobmjfdiecbaaDoor
open Go Go.Sx Go.Fp
attribute [local irreducible] jn lv ld st nw asI asB asP asS asY asM asF asA asT lp rn ru rq cl dw dr bnd bn2 nz nn hd hr so eqW
attribute [local irreducible] callOk

theorem way_k {a b v : Int} (hb : -9223372036854775808 ≤ a + v ∧ a + v ≤ 9223372036854775807) {w : World} {K : Value → World → Prop} (hK : K (.bool (decide (wayP a b v))) w) : cl Tryd.prog 13 #[.int .i64 a, .int .i64 b, .int .i64 v] w K := by
  apply F13_calls
  unfold F13
  rw [wr64 hb.1 hb.2]
  refine cond_split (fun h => jn_mk ?_) (fun h => jn_mk ?_)
  · have h0 : 0 ≤ v := of_decide_eq_true h
    have e : wayP a b v ↔ a ≤ b ∧ b ≤ a + v := by unfold wayP; rw [if_pos h0]
    refine cond_split (fun h1 => asB_i rfl ?_) (fun h1 => asB_i rfl ?_)
    · have h1' : a ≤ b := of_decide_eq_true h1
      have : decide (b ≤ a + v) = decide (wayP a b v) := by
        by_cases h2 : b ≤ a + v
        · rw [decide_eq_true h2, decide_eq_true (e.2 ⟨h1', h2⟩)]
        · rw [decide_eq_false h2, decide_eq_false fun hh => h2 (e.1 hh).2]
      rw [this]
      exact hK
    · have h1' : ¬ a ≤ b := of_decide_eq_false h1
      rw [decide_eq_false fun hh => h1' (e.1 hh).1] at hK
      exact hK
  · have h0 : ¬ 0 ≤ v := of_decide_eq_false h
    have e : wayP a b v ↔ b ≤ a ∧ a + v ≤ b := by unfold wayP; rw [if_neg h0]
    refine cond_split (fun h1 => asB_i rfl ?_) (fun h1 => asB_i rfl ?_)
    · have h1' : b ≤ a := of_decide_eq_true h1
      have : decide (b ≥ a + v) = decide (wayP a b v) := by
        by_cases h2 : a + v ≤ b
        · rw [decide_eq_true (show b ≥ a + v from h2), decide_eq_true (e.2 ⟨h1', h2⟩)]
        · rw [decide_eq_false (show ¬ b ≥ a + v from h2), decide_eq_false fun hh => h2 (e.1 hh).2]
      rw [this]
      exact hK
    · have h1' : ¬ b ≤ a := of_decide_eq_false h1
      rw [decide_eq_false fun hh => h1' (e.1 hh).1] at hK
      exact hK
theorem slower_k {v now : Int} (h : now = v ∨ now = 0) {w : World} {K : Value → World → Prop} (hK : K (.bool true) w) : cl Tryd.prog 14 #[.int .i64 v, .int .i64 now] w K := by
  apply F14_calls
  unfold F14
  refine jn_mk (cond_split (fun _ => asB_i rfl hK) (fun h1 => asB_i rfl ?_))
  have : now = 0 := by
    rcases h with h | h
    · rw [h] at h1; simp at h1
    · exact h
  rw [this]
  exact hK

set_option maxHeartbeats 4000000 in
theorem physicsWays_law (W : World) (hA : Ax W) (a0 : Option Addr) (len0 cap0 : Nat) (z0 : List (List Value)) (R0 : Reads W a0 z0.flatten) (L0 : z0.length = len0) (F0 : ∀ c ∈ z0, FitsAll [.int .i64, .int .i64, .int .i64, .int .i64, .int .i64, .int .i64, .int .i64, .int .i64] c) (Y0 : len0 * 64 ≤ 140737488351232)
    (a1 : Option Addr) (len1 cap1 : Nat) (z1 : List Int) (Ra : Reads W a1 (iv .i64 z1)) (La : z1.length = len1) (_F1 : ∀ n ∈ z1, (Lit.int .i64 n).wf = true) (_Y1 : len1 * 8 ≤ 140737488351232) :
    cl Tryd.prog 4 #[.slice a0 len0 cap0, .slice a1 len1 cap1] W fun v w' => v = .bool true ∧ Ext no W w' := by
  obtain ⟨es, hz, hl, hI⟩ := ents_of rfl F0
  rw [hz] at R0
  rw [L0] at hl
  clear hz L0 F0
  apply F4_calls
  unfold F4
  refine awake20_k hA fun w2 hx2 => asB_i rfl ?_
  refine made_pw hx2 R0 hl hI Ra La fun w5 F r g x B D hP hG hLi hB => asT_i rfl rfl (asP_i rfl (asP_i rfl ?_))
  generalize madeN es z1 (min len0 40) = S at *
  refine jn_of (fun t w' => t = [.bool false] ∧ w' = w5) ?_ ?_
  rotate_left
  · intro J hJ
    exact cond_f rfl (hJ _ _ ⟨rfl, rfl⟩)
  rintro _ w5 ⟨rfl, rfl⟩
  refine asB_i rfl (cond_f rfl ?_)
  refine hP.list fun p15 c17 w14 LL1 hP hH1 => asS_i rfl ?_
  refine hP.pstep hA hG hLi hB (by omega) fun p20 c22 w19 F2 S2 B2 D2 L3 hP hH3 hG2 hL2 hB2 hl2 _ _ _ => asS_i rfl ?_
  refine hP.list fun p25 c27 w24 LL4 hP hH4 => asS_i rfl ?_
  have hlen := stepN_len (listS S) (listS S).length
  have hstep := fun j e f he hf => step_way (list_right hG) (hands_nd hG) (j := j) (e := e) (f := f) he hf
  have htch := Tch.step (list_right hG) (hands_nd hG) (listS S).length
  have hhs := stepN_h (listS S) (listS S).length
  have e1 : stepV (listS S) = stepN (listS S) (listS S).length := rfl
  have htl := stepN_t (L := listS S) (listS S).length
  rw [← hl2] at hstep
  rw [← e1] at hlen htch hhs htl
  rw [← hl2] at hlen hhs
  have hr1 := list_right hG
  have hr2 := list_right hG2
  have hll := listS_len S
  have h64 := hP.wd.ws.len
  have hll2 := listS_len S2
  generalize (stepV (listS S)).t = ts at *
  refine cond_f (by rw [hlen]; simp) (lv_i ?_)
  generalize hLT : LL4 ++ (L3 ++ (LL1 ++ [])) = LT at hP
  have m1 : ∀ b ∈ LL1, b ∈ LT := fun b hb => hLT ▸ List.mem_append_right _ (List.mem_append_right _ (List.mem_append_left _ hb))
  have m3 : ∀ b ∈ L3, b ∈ LT := fun b hb => hLT ▸ List.mem_append_right _ (List.mem_append_left _ hb)
  have m4 : ∀ b ∈ LL4, b ∈ LT := fun b hb => hLT ▸ List.mem_append_left _ hb
  have hgetS : ∀ hh, hh ∈ (listS S).map (·.h) → getC S2 hh = 0 := fun hh hm => by
    rw [← hhs] at hm
    obtain ⟨e, he, rfl⟩ := List.mem_map.1 hm
    obtain ⟨m, hm⟩ := List.getElem?_of_mem he
    exact (get_of hG2 hm).2
  clear hl2 hLT
  generalize listS S = X at *
  generalize hX' : listS S2 = X' at *
  refine lp_mk (fun i : Nat => [.int .i64 (i : Int)]) (fun m i w' => m = X.length - i ∧ i ≤ X.length ∧ Pw W w' LT F2 r g S2 B2 D2 (40960 + 131072)) X.length 0 rfl ⟨rfl, Nat.zero_le _, hP⟩ ?_
  clear hP
  rintro _ i w30 ⟨rfl, hi, hP⟩ J hJ
  refine asI_i rfl (cond_split (fun hci => ?_) (fun _ => ?_))
  · have hil : i < X.length := by
      have := of_decide_eq_true hci
      omega
    have ei : IntKind.wrap .i64 ((i : Int) + 1) = ((i + 1 : Nat) : Int) := by rw [wr64 (by omega) (by omega)]; omega
    have hXi : X[i]? = some X[i] := List.getElem?_eq_getElem hil
    have hYi : X'[i]? = some (X'[i]'(by omega)) := List.getElem?_eq_getElem (by omega)
    have ra := hr1 _ (List.getElem_mem hil)
    generalize X[i] = a at *
    generalize X'[i]'(by omega) = b at *
    have hw := hstep i a b hXi hYi
    have hax : -4398046511104 ≤ a.x ∧ a.x ≤ 4398046511104 := at_rng ra false
    have hay : -4398046511104 ≤ a.y ∧ a.y ≤ 4398046511104 := at_rng ra true
    have hvx : -17179869184 ≤ a.vx ∧ a.vx ≤ 17179869184 := vel_rng ra false
    have hvy : -17179869184 ≤ a.vy ∧ a.vy ≤ 17179869184 := vel_rng ra true
    refine Reads.atN (f := Ent.cells) Ent.cells_length (hP.reads hH1 m1) rfl hXi (by decide) fun c1 _ hca => ?_
    rw [Int.toNat_natCast]
    refine ld8c hca ?_
    refine hP.nw (cs := Ent.zero.cells) fun r50 w51 hP => ?_
    refine hP.st8 rfl a fun w59 hP => ?_
    refine Reads.atN (f := Ent.cells) Ent.cells_length (hP.reads hH4 fun b hb => List.mem_cons_of_mem _ (m4 b hb)) rfl hYi (by decide) fun c2 _ hcb => ?_
    refine ld8c hcb ?_
    refine hP.nw (cs := Ent.zero.cells) fun r77 w78 hP => ?_
    refine hP.st8 rfl b fun w86 hP => ?_
    have hS := hP.st
    refine hS.ld 1 rfl rfl (asI_i rfl (hS.ld 0 rfl rfl (asI_i rfl (hS.ld 1 rfl rfl (asI_i rfl ?_)))))
    refine way_k (by omega) (asB_i rfl ?_)
    rw [decide_eq_true hw.x]
    refine hS.ldd 1 rfl rfl (asI_i rfl (hS.ldd 0 rfl rfl (asI_i rfl (hS.ldd 1 rfl rfl (asI_i rfl ?_)))))
    refine way_k (by omega) (asB_i rfl ?_)
    rw [decide_eq_true hw.y]
    refine jn_of (fun t w' => t = [.bool true] ∧ w' = w86) ?_ ?_
    rotate_left
    · intro J2 hJ2
      refine hS.ld 1 rfl rfl (asI_i rfl (hS.ld 0 rfl rfl (asI_i rfl ?_)))
      refine slower_k hw.vx (asB_i rfl (cond_t rfl ?_))
      refine hS.ldd 1 rfl rfl (asI_i rfl (hS.ldd 0 rfl rfl (asI_i rfl ?_)))
      exact slower_k hw.vy (asB_i rfl (hJ2 _ _ ⟨rfl, rfl⟩))
    rintro _ w106 ⟨rfl, rfl⟩
    refine asB_i rfl ?_
    refine jn_of (fun t w' => t = [.bool false] ∧ w' = w106) ?_ ?_
    rotate_left
    · intro J2 hJ2
      refine cond_f rfl (cond_f rfl (cond_f rfl ?_))
      refine hS.ld0 1 rfl rfl (asI_i rfl (hS.ld0 0 rfl rfl (asI_i rfl (cond_f (by rw [hw.h]; simp) ?_))))
      refine hS.ldd 1 rfl rfl (asI_i rfl (hS.ldd 0 rfl rfl (asI_i rfl (cond_f (by rw [hw.r]; simp) ?_))))
      refine hS.ld 1 rfl rfl (asI_i rfl (hS.ld 0 rfl rfl (asI_i rfl (cond_f (by rw [hw.o]; simp) ?_))))
      refine hS.ld 1 rfl rfl (asI_i rfl (hS.ld 0 rfl rfl (asI_i rfl (hJ2 _ _ ⟨?_, rfl⟩))))
      rw [hw.t]
      simp
    rintro _ w124 ⟨rfl, rfl⟩
    refine asB_i rfl (cond_f rfl (lv_i ?_))
    rw [ei]
    exact hJ (X.length - (i + 1)) (i + 1) _ (by omega) ⟨rfl, by omega, hP.tail.tail⟩
  · refine lv_i ?_
    refine lp_mk (fun i : Nat => [.int .i64 (i : Int)]) (fun m i w' => m = ts.length - i ∧ i ≤ ts.length ∧ Pw W w' LT F2 r g S2 B2 D2 (40960 + 131072)) ts.length 0 rfl ⟨rfl, Nat.zero_le _, hP⟩ ?_
    clear hP
    rintro _ j w146 ⟨rfl, hj, hP⟩ J2 hJ2
    refine asI_i rfl (cond_split (fun hcj => ?_) (fun _ => ⟨rfl, hP.st.ext⟩))
    have hjl : j < ts.length := by
      have := of_decide_eq_true hcj
      omega
    have ej : IntKind.wrap .i64 ((j : Int) + 1) = ((j + 1 : Nat) : Int) := by rw [wr64 (by omega) (by omega)]; omega
    have htj : ts[j]? = some ts[j] := List.getElem?_eq_getElem hjl
    obtain ⟨t1, t2, t3⟩ := htch _ (List.getElem_mem hjl)
    generalize ts[j] = t at *
    have g1 := hgetS _ t1
    have g2 := hgetS _ t2
    have rdT : ∀ {w' : World} {L : List (Nat × List Value × TypeId)}, Pw W w' L F2 r g S2 B2 D2 (40960 + 131072) → (∀ b ∈ L3, b ∈ L) → ∀ {K : Addr → Prop}, (∀ a, w'.cell? (Addr.add a (j * 2)) = some (.int .i64 t.1) → w'.cell? (Addr.add (Addr.add a (j * 2)) 1) = some (.int .i64 t.2) → K a) → dr p20 fun a => bnd (j : Int) ts.length (K a) := fun {w'} {L} hP hm {K} hK =>
      Reads.atN (f := tcl) (s := 2) (fun _ => rfl) (hP.readsV hH3 hm) rfl htj (by decide) fun a _ hca => hK a (by have := hca 0 (by decide); rwa [Sx.add_zero'] at this) (hca 1 (by decide))
    rw [Int.toNat_natCast]
    refine rdT hP m3 fun a149 h0 _ => ld_mk h0 (asI_i rfl ?_)
    refine hP.get fun w153 hP => ?_
    rw [g1]
    generalize getE S2 t.1 = z1'
    refine asT_i (l := [z1'.v, .int .i64 0]) rfl rfl (asI8 ?_)
    refine asI_i rfl (asI_i rfl (asI_i rfl (asI_i rfl (asI_i rfl (asI_i rfl (asI_i rfl (asI_i rfl (asI_i rfl ?_))))))))
    refine hP.nw (cs := Ent.zero.cells) fun r165 w166 hP => hP.st8 rfl z1' fun w174 hP => lv_i ?_
    refine rdT hP (fun b hb => List.mem_cons_of_mem _ (m3 b hb)) fun a176 _ h1 => ld_mk h1 (asI_i rfl ?_)
    refine hP.get fun w180 hP => ?_
    rw [g2]
    generalize getE S2 t.2 = z2'
    refine asT_i (l := [z2'.v, .int .i64 0]) rfl rfl (asI8 ?_)
    refine asI_i rfl (asI_i rfl (asI_i rfl (asI_i rfl (asI_i rfl (asI_i rfl (asI_i rfl (asI_i rfl (asI_i rfl ?_))))))))
    refine hP.nw (cs := Ent.zero.cells) fun r192 w193 hP => hP.st8 rfl z2' fun w201 hP => lv_i ?_
    refine jn_of (fun t w' => t = [.bool false] ∧ Ext no w201 w') ?_ ?_
    · rintro _ w204 ⟨rfl, hx⟩
      refine asB_i rfl (cond_f rfl (lv_i ?_))
      rw [ej]
      exact hJ2 (ts.length - (j + 1)) (j + 1) _ (by omega) ⟨rfl, by omega, (hP.to hx).tail.tail⟩
    · intro J3 hJ3
      refine dw_mk (cond_f rfl (cond_f rfl ?_))
      have hPd := hP.to (Ext.drew w201)
      refine rdT hPd (fun b hb => List.mem_cons_of_mem _ (List.mem_cons_of_mem _ (m3 b hb))) fun a207 h0 _ => ld_mk h0 (asI_i rfl ?_)
      refine rdT hPd (fun b hb => List.mem_cons_of_mem _ (List.mem_cons_of_mem _ (m3 b hb))) fun a210 _ h1 => ld_mk h1 (asI_i rfl (hJ3 _ _ ⟨?_, Ext.drew w201⟩))
      rw [show (t.1 == t.2) = false from by simpa using t3]
end Go.Proofs.YtamobmjfdiecbaaDoor

/- PhH: a row of entities that grows beside blocks of one's own; the laws' worlds out of such a row. Conditions: those of each theorem, on its arguments. -/
namespace Go.Proofs.YtamobmjfdiecbaaDoor
open Go Go.Sx Go.Fp
attribute [local irreducible] jn lv ld st nw asI asB asP asS asY asM asF asA asT lp rn ru rq cl dw dr bnd bn2 nz nn hd hr so eqW
attribute [local irreducible] callOk

structure TE (W w : World) (L : List (Nat × List Value × TypeId)) (p : Option Addr) (n c : Nat) (ys : List Ent) : Prop where
  st : St W w L
  b : RowN w W.heap.size 40 8 p c n (ys.flatMap Ent.cells)
  off : ∀ x, p = some x → ∀ b ∈ L, b.1 ≠ x.block
section
variable {W w : World} {L : List (Nat × List Value × TypeId)} {p : Option Addr} {n c : Nat} {ys : List Ent}
theorem TE.len (h : TE W w L p n c ys) : ys.length = n := by
  have := h.b.len
  rw [fl_lenN (f := Ent.cells) Ent.cells_length] at this
  omega
theorem TE.to (h : TE W w L p n c ys) {w' : World} (hx : Ext no w w') : TE W w' L p n c ys := ⟨h.st.to hx, h.b.ext hx fun _ _ h => h, h.off⟩
theorem TE.tail {x : Nat × List Value × TypeId} (h : TE W w (x :: L) p n c ys) : TE W w L p n c ys := ⟨h.st.tail, h.b, fun x hx b hb => h.off x hx b (List.mem_cons_of_mem _ hb)⟩
theorem TE.nw (h : TE W w L p n c ys) {cs : List Value} {t : TypeId} {K : Nat → World → Prop} (hK : ∀ r w', TE W w' ((r, cs, t) :: L) p n c ys → K r w') : nw w (.cells cs.toArray t) K := by
  have hx := Ext.alloc w (.cells cs.toArray t)
  refine nw_mk (hK _ _ ⟨h.st.alloc cs t, h.b.ext hx fun _ _ h => h, fun x hx b hb => ?_⟩)
  rcases List.mem_cons.1 hb with rfl | hb
  · have := (h.b.at hx).2
    simp only
    omega
  · exact h.off x hx b hb
theorem TE.one {r j : Nat} {cs : List Value} {t : TypeId} (h : TE W w ((r, cs, t) :: L) p n c ys) {v u : Value} {K : World → Prop} (hj : cs[j]? = some u) (h1 : Sx.one v = true) (hK : ∀ w', TE W w' ((r, cs.set j v, t) :: L) p n c ys → K w') :
    Sx.st w ⟨r, j, none⟩ v K := by
  refine h.st.stj 0 rfl hj h1 fun w' hs hx => hK w' ⟨hs, h.b.ext hx fun a ha e => ?_, fun x hx b hb => ?_⟩
  · exact h.off a ha _ List.mem_cons_self (show r = a.block from Eq.symm e)
  · rcases List.mem_cons.1 hb with rfl | hb
    · exact h.off x hx (r, cs, t) List.mem_cons_self
    · exact h.off x hx b (List.mem_cons_of_mem _ hb)
theorem TE.st8 {r : Nat} {cs : List Value} {t : TypeId} (h : TE W w ((r, cs, t) :: L) p n c ys) (hc : cs.length = 8) (e : Ent) {K : World → Prop} (hK : ∀ w', TE W w' ((r, e.cells, t) :: L) p n c ys → K w') :
    Sx.st w ⟨r, 0, none⟩ (.int .i64 e.h) fun w1 => Sx.st w1 (Addr.add ⟨r, 0, none⟩ 1) (.int .i64 e.x) fun w2 => Sx.st w2 (Addr.add ⟨r, 0, none⟩ 2) (.int .i64 e.y) fun w3 => Sx.st w3 (Addr.add ⟨r, 0, none⟩ 3) (.int .i64 e.r) fun w4 =>
      Sx.st w4 (Addr.add ⟨r, 0, none⟩ 4) (.int .i64 e.vx) fun w5 => Sx.st w5 (Addr.add ⟨r, 0, none⟩ 5) (.int .i64 e.vy) fun w6 => Sx.st w6 (Addr.add ⟨r, 0, none⟩ 6) (.int .i64 e.o) fun w7 => Sx.st w7 (Addr.add ⟨r, 0, none⟩ 7) (.int .i64 e.t) fun w8 => K w8 := by
  match cs, hc with
  | [a0, a1, a2, a3, a4, a5, a6, a7], _ =>
    simp only [add_mk, Nat.zero_add]
    exact h.one rfl rfl fun w1 h1 => h1.one rfl rfl fun w2 h2 => h2.one rfl rfl fun w3 h3 => h3.one rfl rfl fun w4 h4 => h4.one rfl rfl fun w5 h5 => h5.one rfl rfl fun w6 h6 => h6.one rfl rfl fun w7 h7 => h7.one rfl rfl fun w8 h8 => hK w8 h8
theorem TE.ld8 {r : Nat} {e : Ent} {t : TypeId} (h : TE W w ((r, e.cells, t) :: L) p n c ys) {K : Int → Int → Int → Int → Int → Int → Int → Int → Prop} (hK : K e.h e.x e.y e.r e.vx e.vy e.o e.t) :
    ld w ⟨r, 0, none⟩ fun v1 => asI .i64 v1 fun x0 => ld w (Addr.add ⟨r, 0, none⟩ 1) fun v2 => asI .i64 v2 fun x1 => ld w (Addr.add ⟨r, 0, none⟩ 2) fun v3 => asI .i64 v3 fun x2 => ld w (Addr.add ⟨r, 0, none⟩ 3) fun v4 => asI .i64 v4 fun x3 =>
      ld w (Addr.add ⟨r, 0, none⟩ 4) fun v5 => asI .i64 v5 fun x4 => ld w (Addr.add ⟨r, 0, none⟩ 5) fun v6 => asI .i64 v6 fun x5 => ld w (Addr.add ⟨r, 0, none⟩ 6) fun v7 => asI .i64 v7 fun x6 => ld w (Addr.add ⟨r, 0, none⟩ 7) fun v8 => asI .i64 v8 fun x7 => K x0 x1 x2 x3 x4 x5 x6 x7 :=
  ld8c (e := e) (rd8 (h.st.kn _ List.mem_cons_self).1) hK
/-- an entity is appended, as the program writes it -/
theorem TE.app (h : TE W w L p n c ys) (hn : n ≤ 1000000) {e : Ent} {ty t' : TypeId} {K : Value → World → Prop}
    (hK : ∀ p' c'' w', TE W w' L p' (n + 1) c'' (ys ++ [e]) → K (.slice p' (n + 1) c'') w') :
    Sx.nw w (.cells #[.int .i64 e.h, .int .i64 e.x, .int .i64 e.y, .int .i64 e.r, .int .i64 e.vx, .int .i64 e.vy, .int .i64 e.o, .int .i64 e.t] t') fun r w1 => rn Tryd.prog (Builtin.append_ #[22, 22] ty #[.slice p n c, .slice (some ⟨r, 0, none⟩) 1 1]) w1 K := by
  refine sE.app1 h.b h.st.ext.size (vs := e.cells) rfl (by simp [Ent.cells, Sx.one]) (le_maxLen (by omega)) (by omega) fun p' c'' w' hr hx hM => hK p' c'' w' ?_
  have hb : ∀ k, blocks p k → W.heap.size ≤ k ∧ ∀ b ∈ L, b.1 ≠ k := fun k ⟨a, ha, hk⟩ => hk ▸ ⟨(h.b.at ha).1, h.off a ha⟩
  refine ⟨h.st.toM hx (fun k hk => (hb k hk).1) (fun b hb' hk => (hb _ hk).2 b hb' rfl), by simpa using hr, fun x hx' b hb' => ?_⟩
  rcases hM with rfl | hM
  · exact h.off x hx' b hb'
  · have := hM x hx'
    have := blk_lt (h.st.kn b hb').1
    omega
end

/-- a world out of a row, none killed -/
theorem made_pw2 {W w : World} {L : List (Nat × List Value × TypeId)} (hS : St W w L) {l : Option Addr} {len cap : Nat} {es : List Ent} (R : Reads w l (es.flatMap Ent.cells)) (hl : es.length = len) (hI : ∀ e ∈ es, e.I) {K : Value → World → Prop}
    (hK : ∀ w' F r g x B D, Pw W w' L F r g (madeN es [] (min len 40)) B D 40960 → Ext no w w' → (∀ k, wF F r k → w.heap.size ≤ k) → Good 40 (madeN es [] (min len 40)) → Lies (madeN es [] (min len 40)) B D → (B.map (·.1)).Nodup → K (.tuple #[.pointer (some ⟨r, 0, none⟩), .pointer (some ⟨x, 0, none⟩)]) w') :
    cl Tryd.prog 9 #[.slice l len cap, .slice none 0 0] w K := by
  refine made_k R hl hI (ks := []) (.inl rfl) rfl fun w' r g x B D h hG hL hB => ?_
  obtain ⟨F, h1, h2, h3, h4⟩ := h.gr
  have hx := h.st.ext
  refine hK w' F r g x B D ⟨hS.to hx, h1, fun k hk => ?_⟩ hx (fun k hk => (h4 k (.inl hk)).1) hG hL hB
  have h5 := (h4 k (.inl hk)).1
  have := hS.ext.size
  refine ⟨by omega, fun b hb => ?_⟩
  have := blk_lt (hS.kn b hb).1
  omega
end Go.Proofs.YtamobmjfdiecbaaDoor

/- PhL4: the law PhysicsStill comes out true for every input: where nobody has a way nothing moves. Conditions: those of the law's arguments as they are read; the table of the axes as the program's text lays it. -/
namespace Go.Proofs.YtamobmjfdiecbaaDoor
open Go Go.Sx Go.Fp
attribute [local irreducible] jn lv ld st nw asI asB asP asS asY asM asF asA asT lp rn ru rq cl dw dr bnd bn2 nz nn hd hr so eqW
attribute [local irreducible] callOk

/-- who stands in the places has a property that a handle does not change -/
def Ps (P : Ent → Prop) (S : List Spot) : Prop := ∀ s ∈ S, s.there = true → P s.e
theorem Ps.spawn {P : Ent → Prop} (hP : ∀ e h, P e → P { e with h := h }) {S : List Spot} (h : Ps P S) {e : Ent} (he : P e) : Ps P (spawnS S e) := by
  unfold spawnS
  split
  · have key : ∀ (S : List Spot) (k : Nat), Ps P S → Ps P (spawnL e S k) := by
      intro S
      induction S with
      | nil => intro k _ s hs; cases hs
      | cons x S ih =>
        intro k h s hs
        unfold spawnL at hs
        split at hs
        · rcases List.mem_cons.1 hs with rfl | hs
          · exact fun _ => hP _ _ he
          · exact h s (List.mem_cons_of_mem _ hs)
        · rcases List.mem_cons.1 hs with rfl | hs
          · exact h s List.mem_cons_self
          · exact ih (k + 1) (fun t ht => h t (List.mem_cons_of_mem _ ht)) s hs
    exact key S 0 h
  · exact h
theorem Ps.made {P : Ent → Prop} (hP : ∀ e h, P e → P { e with h := h }) {es : List Ent} (he : ∀ e ∈ es, P e) : ∀ i, Ps P (madeN es [] i)
  | 0 => fun s hs ht => by
    have := List.eq_of_mem_replicate hs
    rw [this] at ht
    cases ht
  | i + 1 => by
    show Ps P (match es[i]? with | some e => if kd [] i = true then killS (spawnS (madeN es [] i) e) (kOf (([] : List Int).getD i 0)) else spawnS (madeN es [] i) e | none => madeN es [] i)
    cases hx : es[i]? with
    | none => exact Ps.made hP he i
    | some e =>
      simp only
      have : kd [] i = false := by unfold kd; simp
      rw [this, if_neg (by decide)]
      exact (Ps.made hP he i).spawn hP (he e (List.mem_of_getElem? hx))
theorem Ps.list {P : Ent → Prop} {S : List Spot} (h : Ps P S) : ∀ e ∈ listS S, P e := fun e he => by
  obtain ⟨s, hs, rfl⟩ := List.mem_map.1 he
  obtain ⟨h1, h2⟩ := List.mem_filter.1 hs
  exact h s h1 h2

theorem hand_pos {n : Nat} {S : List Spot} (hG : Good n S) : ∀ e ∈ listS S, e.h ≠ 0 := fun e he => by
  obtain ⟨m, s, hs, ht, rfl⟩ := listS_mem he
  obtain ⟨h1, h2, h3, h4⟩ := hG m s hs
  obtain ⟨_, h5, h6, _⟩ := h4 ht
  omega
theorem free_zero {n : Nat} {S : List Spot} (hG : Good n S) (hl : S.length = 64) {b : Bx} (hb : b.rightE = 0) : freeV S b 0 = decide ((outW S b).length = 0) := by
  have hr : b.right = true := by
    unfold Bx.rightE at hb
    by_cases h : b.right = true
    · exact h
    · rw [if_neg h] at hb; cases hb
  unfold freeV
  rw [decide_eq_true hb, Bool.true_and, outW_eq hl hr]
  cases hx : (listS S).filter (qM b) with
  | nil => rfl
  | cons e l =>
    have he : e ∈ listS S := (List.mem_filter.1 (by rw [hx]; exact List.mem_cons_self)).1
    have := hand_pos hG e he
    simp [this]

set_option maxHeartbeats 2000000 in
theorem physicsStill_law (W : World) (hA : Ax W) (a0 : Option Addr) (len0 cap0 : Nat) (z0 : List (List Value)) (R0 : Reads W a0 z0.flatten) (L0 : z0.length = len0) (F0 : ∀ c ∈ z0, FitsAll [.int .i64, .int .i64, .int .i64, .int .i64, .int .i64, .int .i64, .int .i64, .int .i64] c) (Y0 : len0 * 64 ≤ 140737488351232)
    (z1 : List Value) (F1 : FitsAll [.int .i64, .int .i64, .int .i64] z1) :
    cl Tryd.prog 5 #[.slice a0 len0 cap0, .agg z1.toArray] W fun v w' => v = .bool true ∧ Ext no W w' := by
  obtain ⟨es, hz, hl, hI⟩ := ents_of rfl F0
  rw [hz] at R0
  rw [L0] at hl
  clear hz L0 F0
  obtain ⟨b, rfl, _⟩ := bx_of' F1
  apply F5_calls
  unfold F5
  have hS := St.start W
  (refine St.nw hS ?_; clear hS; intro r1 _ hS)
  refine awake20_k (hA.no hS.ext) fun w4 hx4 => asB_i rfl (lv_i ?_)
  replace hS := hS.to hx4
  refine lp_mk (fun s : (Option Addr × Nat × Nat) × Nat => [.slice s.1.1 s.1.2.1 s.1.2.2, .int .i64 (s.2 : Int)])
    (fun m s w' => m = len0 - s.2 ∧ s.2 ≤ len0 ∧ s.2 ≤ 60 ∧ ∃ ys, TE W w' [(r1, b.cells, 38)] s.1.1 s.1.2.1 s.1.2.2 ys ∧ s.1.2.1 = s.2 ∧ ∀ e ∈ ys, e.I ∧ e.vx = 0 ∧ e.vy = 0) len0 ((none, 0, 0), 0) rfl
    ⟨rfl, Nat.zero_le _, Nat.zero_le _, [], ⟨hS, RowN.nil _ _ _ _, fun _ h => by cases h⟩, rfl, by simp⟩ ?_
  clear hS
  rintro _ ⟨⟨p, nn, c⟩, i⟩ w8 ⟨rfl, hi, hi6, ys, hT, hnn, hys⟩ J hJ
  simp only at hi hi6 hT hnn hJ ⊢
  refine asS_i rfl (asI_i rfl ?_)
  refine jn_of (fun s w' => ∃ b, s = [.bool b] ∧ w' = w8 ∧ (b = true → i < len0 ∧ i < 60)) ?_ ?_
  rotate_left
  · intro J2 hJ2
    refine cond_split (fun h1 => hJ2 _ _ ⟨_, rfl, rfl, fun h2 => ?_⟩) (fun _ => hJ2 _ _ ⟨_, rfl, rfl, fun h => by cases h⟩)
    have := of_decide_eq_true h1
    have := of_decide_eq_true h2
    omega
  rintro _ w15 ⟨b0, rfl, rfl, hb⟩
  refine asB_i rfl (cond_split (fun h => ?_) (fun _ => ?_))
  · obtain ⟨hl1, hl2⟩ := hb h
    have he : es[i]? = some es[i] := List.getElem?_eq_getElem (by omega)
    have hIe := hI _ (List.getElem_mem (by omega : i < es.length))
    generalize es[i] = e at he hIe
    have ei : IntKind.wrap .i64 ((i : Int) + 1) = ((i + 1 : Nat) : Int) := by rw [wr64 (by omega) (by omega)]; omega
    refine Reads.atN (f := Ent.cells) Ent.cells_length (Reads.no hT.st.ext R0) hl he (by decide) fun a' _ hca => ?_
    rw [Int.toNat_natCast]
    refine ld8c hca ?_
    refine hT.nw (cs := Ent.zero.cells) fun r35 w36 hT => hT.st8 rfl e fun w44 hT => ?_
    have add4 : Addr.add (⟨r35, 0, none⟩ : Addr) 4 = ⟨r35, 4, none⟩ := by rw [add_mk]
    have add5 : Addr.add (⟨r35, 4, none⟩ : Addr) 1 = ⟨r35, 5, none⟩ := by rw [add_mk]
    rw [add4, add5]
    refine hT.one rfl rfl fun w45 hT => hT.one rfl rfl fun w46 hT => ?_
    rw [← add4]
    replace hT : TE W w46 [(r35, ({ e with vx := 0, vy := 0 } : Ent).cells, 40), (r1, b.cells, 38)] p nn c ys := hT
    refine hT.ld8 ?_
    refine hT.tail.app (e := { e with vx := 0, vy := 0 }) (by omega) fun p' c' w66 hT => asS_i rfl (lv_i ?_)
    rw [ei]
    refine hJ (len0 - (i + 1)) ((p', nn + 1, c'), i + 1) w66 (by omega) ⟨rfl, by omega, by omega, _, hT, by simp only; omega, fun x hx => ?_⟩
    rcases List.mem_append.1 hx with hx | hx
    · exact hys x hx
    · rw [List.mem_singleton.1 hx]
      obtain ⟨i0, i1, i2, i3, i4, i5, i6, i7⟩ := hIe
      exact ⟨⟨i0, i1, i2, i3, (by unfold I64; decide : I64 0), (by unfold I64; decide : I64 0), i6, i7⟩, rfl, rfl⟩
  · have hlen := hT.len
    refine made_pw2 hT.st hT.b.reads hlen (fun e he => (hys e he).1) fun w72 F r g x B D hP _ _ hG hLi hB => asT_i rfl rfl (asP_i rfl (asP_i rfl ?_))
    have hPs := (Ps.made (P := fun e => e.vx = 0 ∧ e.vy = 0) (fun e h he => he) (es := ys) (fun e he => (hys e he).2) (min nn 40)).list
    generalize madeN ys [] (min nn 40) = S at *
    refine jn_of (fun t w' => t = [.bool false] ∧ w' = w72) ?_ ?_
    rotate_left
    · intro J2 hJ2
      exact cond_f rfl (hJ2 _ _ ⟨rfl, rfl⟩)
    rintro _ w77 ⟨rfl, rfl⟩
    refine asB_i rfl (cond_f rfl ?_)
    have hst : stepV (listS S) = ⟨listS S, [], []⟩ := stepN_still (fun o ho => ⟨list_right hG o ho, hPs o ho⟩) _
    refine hP.list fun p82 c84 w81 LL1 hP hH1 => asS_i rfl ?_
    refine hP.pstep hA hG hLi hB (by omega) fun p87 c89 w86 F2 S2 B2 D2 L3 hP _ hG2 hL2 hB2 hl2 _ _ _ => asS_i rfl ?_
    rw [hst] at hl2 ⊢
    simp only at hl2
    have m1 : ∀ b' ∈ LL1, b' ∈ L3 ++ (LL1 ++ [(r1, b.cells, 38)]) := fun b hb => List.mem_append_right _ (List.mem_append_left _ hb)
    have mb : (r1, b.cells, 38) ∈ L3 ++ (LL1 ++ [(r1, b.cells, 38)]) := List.mem_append_right _ (List.mem_append_right _ List.mem_cons_self)
    generalize L3 ++ (LL1 ++ [(r1, b.cells, 38)]) = LT at hP m1 mb
    have h64 := hP.wd.ws.len
    have hcb : ∀ {w' : World}, Pw W w' LT F2 r g S2 B2 D2 (40960 + 131072) → ∀ {K : Int → Int → Int → Prop}, K b.x b.y b.r → ld w' ⟨r1, 0, none⟩ fun v => asI .i64 v fun x0 => ld w' (Addr.add ⟨r1, 0, none⟩ 1) fun v => asI .i64 v fun x1 => ld w' (Addr.add ⟨r1, 0, none⟩ 2) fun v => asI .i64 v fun x2 => K x0 x1 x2 := fun {w'} hP {K} hK => by
      have hb := (hP.st.kn _ mb).1
      have hc : ∀ k v, b.cells[k]? = some v → w'.cell? ⟨r1, k, none⟩ = some v := fun k v hv => by
        rw [blk_cell hb]
        simpa using hv
      exact ld_mk (hc 0 _ rfl) (asI_i rfl (ld_mk (by rw [add_mk]; exact hc 1 _ rfl) (asI_i rfl (ld_mk (by rw [add_mk]; exact hc 2 _ rfl) (asI_i rfl hK)))))
    refine hcb hP ?_
    refine near_of hP.wd hL2 (by omega) (b := b) fun p99 c101 w97 hx97 _ => asT_i rfl rfl (asS_i rfl (asI_i rfl (lv_i ?_)))
    replace hP := hP.to hx97
    refine hcb hP ?_
    refine hP.near hL2 (by omega) (b := b) (but := 0) fun w111 hP => asT_i rfl rfl (asB_i rfl (asI_i rfl (lv_i ?_)))
    refine list_k hP.wd.ws fun p118 c120 w117 hx117 hr117 => asS_i rfl ?_
    have hP7 := hP.to hx117
    have hR1 := hP7.reads hH1 m1
    have hll := listS_len S2
    rw [hl2] at hr117 hll ⊢
    refine rsame_k (fun e he => by
      obtain ⟨m, s, hs, ht, rfl⟩ := listS_mem he
      exact ((hG m s hs).2.2.2 ht).2.2.2) hR1 hr117.reads rfl rfl (by omega) fun w122 hx122 => asB_i rfl ?_
    have hX := (hP7.to hx122).st.ext
    refine jn_of (fun t w' => t = [.bool true] ∧ w' = w122) ?_ ?_
    · rintro _ w125 ⟨rfl, rfl⟩
      exact asB_i rfl ⟨rfl, hX⟩
    · intro J2 hJ2
      refine cond_t rfl (cond_t rfl (cond_t (by simp) (cond_split (fun h0 => hJ2 _ _ ⟨?_, rfl⟩) (fun h0 => hJ2 _ _ ⟨?_, rfl⟩))))
      · have h0' : b.rightE = 0 := by simpa using h0
        rw [free_zero hG2 h64 h0']
        congr 2
        by_cases hz : (outW S2 b).length = 0
        · rw [decide_eq_true hz, hz]; rfl
        · rw [decide_eq_false hz]
          have : ((((outW S2 b).length : Nat) : Int) == 0) = false := by
            have : (((outW S2 b).length : Nat) : Int) ≠ 0 := by omega
            simpa using this
          rw [this]
          rfl
      · have h0' : ¬ b.rightE = 0 := by simpa using h0
        unfold freeV
        rw [decide_eq_false h0']
        rfl
end Go.Proofs.YtamobmjfdiecbaaDoor
