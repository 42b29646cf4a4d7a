/- GrX: the plain law of the document's grid: sorted lists of numbers tell what the grid tells. Conditions: those of each theorem, on its arguments. -/
import Derived.Test.YtamobmjfdiecbaaGrV
namespace Go.Proofs.Ytamobmjfdiecbaa
open Go Go.Sx Go.Fp

def Sorted (A : List (Int × Bx)) : Prop := A.Pairwise fun y z => y.1 < z.1
theorem Sorted.nd {A : List (Int × Bx)} (h : Sorted A) : (A.map (·.1)).Nodup := by
  unfold List.Nodup
  rw [List.pairwise_map]
  exact h.imp fun {a b} h => by omega
theorem Sorted.lt {A : List (Int × Bx)} (h : Sorted A) {i j : Nat} {y z : Int × Bx} (hi : A[i]? = some y) (hj : A[j]? = some z) (hij : i < j) : y.1 < z.1 := by
  have hi' := List.getElem?_eq_some_iff.1 hi
  have hj' := List.getElem?_eq_some_iff.1 hj
  have := (List.pairwise_iff_getElem.1 h) i j hi'.1 hj'.1 hij
  rwa [hi'.2, hj'.2] at this

theorem isAt_iff {A : List (Int × Bx)} (h : Sorted A) (id : Int) : isAt A id = (aget A id).isSome := by
  rw [Bool.eq_iff_iff]
  constructor
  · intro hat
    obtain ⟨b, hb⟩ := isAt_get hat
    rw [← mem_keys]
    exact List.mem_map.2 ⟨_, List.mem_of_getElem? hb, rfl⟩
  · intro hs
    obtain ⟨b, hb⟩ := Option.isSome_iff_exists.1 hs
    obtain ⟨j, hj⟩ := List.getElem?_of_mem (aget_mem hb)
    have hjl := (List.getElem?_eq_some_iff.1 hj).1
    have h1 : pos A id ≤ j := by
      refine Nat.le_of_not_lt fun hlt => ?_
      have := pos_lt hj hlt
      simp only at this
      omega
    have hpy : A[pos A id]? = some (A[pos A id]'(by omega)) := List.getElem?_eq_getElem (by omega)
    generalize (A[pos A id]'(by omega)) = y at hpy
    have h2 := pos_at hpy
    have : y.1 = id := by
      by_cases he : pos A id = j
      · rw [he, hj] at hpy
        cases hpy
        rfl
      · have := h.lt hpy hj (by omega)
        simp only at this
        omega
    unfold isAt
    rw [hpy]
    simpa using this

theorem aget_app {l1 l2 : List (Int × Bx)} {x : Int} : aget (l1 ++ l2) x = if (aget l1 x).isSome = true then aget l1 x else aget l2 x := by
  induction l1 with
  | nil => simp [aget_nil]
  | cons y l1 ih =>
    rw [List.cons_append, aget_cons, aget_cons]
    by_cases h : y.1 = x
    · rw [if_pos h, if_pos h]; simp
    · rw [if_neg h, if_neg h]; exact ih

theorem get_ins {A : List (Int × Bx)} {i : Nat} {id x : Int} {b : Bx} (hn : aget A id = none) : aget (insA A i id b) x = if x = id then some b else aget A x := by
  have e : aget A x = if (aget (A.take i) x).isSome = true then aget (A.take i) x else aget (A.drop i) x := by rw [← aget_app, List.take_append_drop]
  have e' : aget A id = if (aget (A.take i) id).isSome = true then aget (A.take i) id else aget (A.drop i) id := by rw [← aget_app, List.take_append_drop]
  unfold insA
  rw [aget_app, aget_cons, e]
  by_cases hx : x = id
  · subst hx
    rw [if_pos rfl, if_pos rfl]
    rw [hn] at e'
    split
    · rename_i hs
      rw [if_pos hs] at e'
      rw [← e'] at hs
      cases hs
    · rfl
  · have e3 : ¬ (id, b).1 = x := fun h => hx h.symm
    rw [if_neg hx, if_neg e3]

theorem sorted_ins {A : List (Int × Bx)} (h : Sorted A) {id : Int} {b : Bx} (hn : aget A id = none) : Sorted (insA A (pos A id) id b) := by
  have hd : ∀ y ∈ A.drop (pos A id), id < y.1 := by
    intro y hy
    obtain ⟨j, hj⟩ := List.getElem?_of_mem hy
    rw [List.getElem?_drop] at hj
    have hne : y.1 ≠ id := fun e => aget_none.1 hn y (List.mem_of_getElem? hj) e
    have hjl := (List.getElem?_eq_some_iff.1 hj).1
    have hpy : A[pos A id]? = some (A[pos A id]'(by omega)) := List.getElem?_eq_getElem (by omega)
    generalize (A[pos A id]'(by omega)) = z at hpy
    have h2 := pos_at hpy
    by_cases hj0 : j = 0
    · subst hj0
      rw [Nat.add_zero, hpy] at hj
      cases hj
      omega
    · have := h.lt hpy hj (by omega)
      omega
  unfold insA
  refine List.pairwise_append.2 ⟨h.sublist (List.take_sublist _ _), List.Pairwise.cons (fun y hy => hd y hy) (h.sublist (List.drop_sublist _ _)), fun y hy z hz => ?_⟩
  obtain ⟨j, hj⟩ := List.getElem?_of_mem hy
  rw [List.getElem?_take] at hj
  split at hj
  · rename_i hlt
    have h1 := pos_lt hj hlt
    rcases List.mem_cons.1 hz with rfl | hz
    · exact h1
    · have := hd z hz
      omega
  · cases hj

theorem get_set' {A : List (Int × Bx)} (h : Sorted A) {i : Nat} {id x : Int} {b b0 : Bx} (hi : A[i]? = some (id, b0)) : aget (A.set i (id, b)) x = if x = id then some b else aget A x := by
  induction A generalizing i with
  | nil => simp at hi
  | cons y A ih =>
    cases i with
    | zero =>
      have : y = (id, b0) := by simpa using hi
      subst this
      rw [List.set_cons_zero, aget_cons, aget_cons]
      by_cases hx : x = id
      · rw [if_pos hx.symm, if_pos hx]
      · rw [if_neg (fun e => hx e.symm), if_neg hx, if_neg (fun e => hx e.symm)]
    | succ i =>
      have hi' : A[i]? = some (id, b0) := by simpa using hi
      have hs := List.pairwise_cons.1 h
      have hy := hs.1 _ (List.mem_of_getElem? hi')
      rw [List.set_cons_succ, aget_cons, aget_cons, ih hs.2 hi']
      by_cases hx : y.1 = x
      · rw [if_pos hx, if_pos hx, if_neg (by simp only at hy; omega)]
      · rw [if_neg hx, if_neg hx]

theorem sorted_keys {A A' : List (Int × Bx)} (h : Sorted A) (he : A'.map (·.1) = A.map (·.1)) : Sorted A' := by
  have h1 : (A.map (·.1)).Pairwise (· < ·) := List.pairwise_map.2 h
  rw [← he] at h1
  exact List.pairwise_map.1 h1
theorem keys_set {A : List (Int × Bx)} {i : Nat} {id : Int} {b b0 : Bx} (hi : A[i]? = some (id, b0)) : (A.set i (id, b)).map (·.1) = A.map (·.1) := by
  apply List.ext_getElem?
  intro k
  simp only [List.getElem?_map]
  by_cases hk : i = k
  · subst hk
    rw [List.getElem?_set_self (List.getElem?_eq_some_iff.1 hi).1, hi]
    rfl
  · rw [List.getElem?_set_ne hk]

theorem get_rem {A : List (Int × Bx)} (h : Sorted A) {i : Nat} {id x : Int} {b0 : Bx} (hi : A[i]? = some (id, b0)) : aget (remA A i) x = if x = id then none else aget A x := by
  induction A generalizing i with
  | nil => simp at hi
  | cons y A ih =>
    have hs := List.pairwise_cons.1 h
    cases i with
    | zero =>
      have : y = (id, b0) := by simpa using hi
      subst this
      unfold remA
      simp only [List.take_zero, List.nil_append, Nat.zero_add, List.drop_succ_cons, List.drop_zero]
      rw [aget_cons]
      by_cases hx : x = id
      · subst hx
        rw [if_pos rfl, aget_none]
        intro z hz e
        have := hs.1 z hz
        simp only at this
        omega
      · rw [if_neg hx, if_neg (fun e => hx e.symm)]
    | succ i =>
      have hi' : A[i]? = some (id, b0) := by simpa using hi
      have hy := hs.1 _ (List.mem_of_getElem? hi')
      have e : remA (y :: A) (i + 1) = y :: remA A i := by unfold remA; simp
      rw [e, aget_cons, aget_cons, ih hs.2 hi']
      by_cases hx : y.1 = x
      · rw [if_pos hx, if_pos hx, if_neg (by simp only at hy; omega)]
      · rw [if_neg hx, if_neg hx]
theorem sorted_rem {A : List (Int × Bx)} (h : Sorted A) (i : Nat) : Sorted (remA A i) := by
  refine List.Pairwise.sublist ?_ h
  have h1 : (A.drop (i + 1)).Sublist (A.drop i) := by rw [← List.drop_drop]; exact List.drop_sublist _ _
  have h2 : (remA A i).Sublist (A.take i ++ A.drop i) := List.Sublist.append (List.Sublist.refl _) h1
  rwa [List.take_append_drop] at h2

/-- a grid and the document's list hold the same -/
structure Same (s : Int) (B : List (Int × Bx)) (D : List ((Int × Int) × List Int)) (A : List (Int × Bx)) : Prop where
  cons : Cons s B D
  sorted : Sorted A
  get : ∀ x, aget A x = aget B x

theorem Same.nil (s : Int) : Same s [] [] [] := ⟨Cons.nil s, List.Pairwise.nil, fun _ => rfl⟩
theorem Same.at {s : Int} {B : List (Int × Bx)} {D : List ((Int × Int) × List Int)} {A : List (Int × Bx)} (h : Same s B D A) (id : Int) : isAt A id = (aget B id).isSome := by rw [isAt_iff h.sorted, h.get]

theorem Same.putE {s : Int} {B : List (Int × Bx)} {D : List ((Int × Int) × List Int)} {A : List (Int × Bx)} (h : Same s B D A) (id : Int) (b : Bx) : rputE s A id b = gputE s B id b := by
  unfold rputE gputE
  rw [h.at]
theorem Same.put {s : Int} {B : List (Int × Bx)} {D : List ((Int × Int) × List Int)} {A : List (Int × Bx)} (h : Same s B D A) (id : Int) (b : Bx) : Same s (gputB s B id b) (gputD s B D id b) (rputA s A id b) := by
  refine ⟨h.cons.put id b, ?_, fun x => ?_⟩
  · unfold rputA
    split
    · rename_i h0
      refine sorted_ins h.sorted ?_
      unfold rputE at h0
      split at h0
      · cases h0
      · split at h0
        · cases h0
        · rename_i hat
          rw [isAt_iff h.sorted] at hat
          simpa using hat
    · exact h.sorted
  · rw [get_put, ← h.putE]
    unfold rputA
    by_cases h0 : rputE s A id b = 0
    · rw [if_pos h0]
      have hn : aget A id = none := by
        unfold rputE at h0
        split at h0
        · cases h0
        · split at h0
          · cases h0
          · rename_i hat
            rw [isAt_iff h.sorted] at hat
            simpa using hat
      rw [get_ins hn, h.get]
      by_cases hx : x = id
      · rw [if_pos hx, if_pos ⟨h0, hx⟩]
      · rw [if_neg hx, if_neg (fun hh => hx hh.2)]
    · rw [if_neg h0, if_neg (fun hh => h0 hh.1), h.get]

theorem Same.moveE {s : Int} {B : List (Int × Bx)} {D : List ((Int × Int) × List Int)} {A : List (Int × Bx)} (h : Same s B D A) (id : Int) (b : Bx) : rmoveE s A id b = gmoveE s B id b := by
  unfold rmoveE gmoveE
  rw [h.at]
theorem Same.move {s : Int} {B : List (Int × Bx)} {D : List ((Int × Int) × List Int)} {A : List (Int × Bx)} (h : Same s B D A) (hB : (B.map (·.1)).Nodup) (hD : (D.map (·.1)).Nodup) (id : Int) (b : Bx) : Same s (gmoveB s B id b) (gmoveD s B D id b) (rmoveA s A id b) := by
  have key : rmoveE s A id b = 0 → ∃ b0, A[pos A id]? = some (id, b0) := fun h0 => by
    unfold rmoveE at h0
    split at h0
    · rename_i hat
      exact isAt_get hat
    · cases h0
  refine ⟨h.cons.move hB hD id b, ?_, fun x => ?_⟩
  · unfold rmoveA
    split
    · rename_i h0
      obtain ⟨b0, hb0⟩ := key h0
      exact sorted_keys h.sorted (keys_set hb0)
    · exact h.sorted
  · rw [get_move hB, ← h.moveE]
    unfold rmoveA
    by_cases h0 : rmoveE s A id b = 0
    · obtain ⟨b0, hb0⟩ := key h0
      rw [if_pos h0, get_set' h.sorted hb0, h.get]
      by_cases hx : x = id
      · rw [if_pos hx, if_pos ⟨h0, hx⟩]
      · rw [if_neg hx, if_neg (fun hh => hx hh.2)]
    · rw [if_neg h0, if_neg (fun hh => h0 hh.1), h.get]

theorem Same.dropE {s : Int} {B : List (Int × Bx)} {D : List ((Int × Int) × List Int)} {A : List (Int × Bx)} (h : Same s B D A) (id : Int) : rdropE A id = gdropE B id := by
  unfold rdropE gdropE
  rw [h.at]
theorem Same.drop {s : Int} {B : List (Int × Bx)} {D : List ((Int × Int) × List Int)} {A : List (Int × Bx)} (h : Same s B D A) (hB : (B.map (·.1)).Nodup) (hD : (D.map (·.1)).Nodup) (id : Int) : Same s (gdropB B id) (gdropD s B D id) (rdropA A id) := by
  refine ⟨h.cons.drop hB hD id, ?_, fun x => ?_⟩
  · unfold rdropA
    split
    · exact sorted_rem h.sorted _
    · exact h.sorted
  · rw [get_drop hB]
    unfold rdropA
    by_cases h0 : rdropE A id = 0
    · have hat : isAt A id = true := by
        unfold rdropE at h0
        split at h0
        · rename_i hat; exact hat
        · cases h0
      obtain ⟨b0, hb0⟩ := isAt_get hat
      rw [if_pos h0, get_rem h.sorted hb0, h.get]
    · rw [if_neg h0, h.get]
      by_cases hx : x = id
      · subst hx
        rw [if_pos rfl]
        have hat : ¬ isAt A x = true := fun hat => h0 (by unfold rdropE; rw [if_pos hat])
        rw [h.at] at hat
        simpa using hat
      · rw [if_neg hx]

theorem Same.near {s : Int} {B : List (Int × Bx)} {D : List ((Int × Int) × List Int)} {A : List (Int × Bx)} (h : Same s B D A) (b : Bx) : gnearV s B D b = rnearV s A b := by
  unfold rnearV
  by_cases hb : cellsE s b = 0
  · rw [if_pos hb]
    have hso : ((A.filter fun y => (meetV y.2 b).1).map (·.1)).mergeSort leI = (A.filter fun y => (meetV y.2 b).1).map (·.1) := by
      refine List.mergeSort_of_pairwise ?_
      rw [List.pairwise_map]
      exact (List.Pairwise.filter _ h.sorted).imp fun {y z} hyz => by simp only [decide_eq_true_eq]; omega
    rw [← hso]
    unfold gnearV
    have hnd : ((A.filter fun y => (meetV y.2 b).1).map (·.1)).Nodup := h.sorted.nd.sublist ((List.filter_sublist).map _)
    refine Go.mergeSort_of_perm_i ((List.perm_ext_iff_of_nodup (nodup_metL _) hnd).2 fun x => ?_)
    rw [h.cons.near hb]
    constructor
    · rintro ⟨a, h1, h2⟩
      rw [← h.get] at h1
      exact List.mem_map.2 ⟨(x, a), List.mem_filter.2 ⟨aget_mem h1, h2⟩, rfl⟩
    · intro hx
      obtain ⟨y, hy, rfl⟩ := List.mem_map.1 hx
      obtain ⟨h1, h2⟩ := List.mem_filter.1 hy
      exact ⟨y.2, by rw [← h.get]; exact aget_of_mem h.sorted.nd h1, h2⟩
  · rw [if_neg hb]
    have : cellsL' s b = [] := by unfold cellsL'; rw [if_neg hb]
    unfold gnearV
    rw [this]
    simp [metL]

theorem Same.count {s : Int} {B : List (Int × Bx)} {D : List ((Int × Int) × List Int)} {A : List (Int × Bx)} (h : Same s B D A) (hB : (B.map (·.1)).Nodup) : B.length = A.length := by
  have := (same_perm hB h.sorted.nd fun x => by rw [mem_keys, mem_keys, h.get]).length_eq
  simpa using this
end Go.Proofs.Ytamobmjfdiecbaa
