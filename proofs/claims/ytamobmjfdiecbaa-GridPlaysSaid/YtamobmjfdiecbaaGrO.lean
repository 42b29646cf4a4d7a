/- GrO: the plain law of grids, on: boxes that are moved and dropped. Conditions: those of each theorem, on its arguments. -/
import Derived.Test.YtamobmjfdiecbaaGrM
namespace Go.Proofs.Ytamobmjfdiecbaa
open Go Go.Sx Go.Fp

theorem mem_less {ids : List Int} {id x : Int} : x ∈ less ids id ↔ x ∈ ids ∧ x ≠ id := by
  unfold less
  rw [List.mem_filter]
  simp

theorem mem_dropC {D : List ((Int × Int) × List Int)} (hn : (D.map (·.1)).Nodup) {c d : Int × Int} {id x : Int} : x ∈ (aget (dropC D c id) d).getD [] ↔ x ∈ (aget D d).getD [] ∧ ¬ (x = id ∧ d = c) := by
  unfold dropC
  split
  · rename_i h0
    rw [aget_adel (nodup_aset hn), aget_aset]
    by_cases hd : d = c
    · subst hd
      simp only [if_true, Option.getD_none, List.not_mem_nil, false_iff, not_and, and_true]
      intro h1 h2
      have : x ∈ less ((aget D d).getD []) id := mem_less.2 ⟨h1, h2⟩
      rw [h0] at this
      cases this
    · rw [if_neg hd, if_neg hd]
      simp [hd]
  · rw [aget_aset]
    by_cases hd : d = c
    · subst hd
      rw [if_pos rfl, Option.getD_some, mem_less]
      simp
    · rw [if_neg hd]
      simp [hd]

theorem mem_dropL {l : List (Int × Int)} {id x : Int} : ∀ {D : List ((Int × Int) × List Int)} (_ : (D.map (·.1)).Nodup) (d : Int × Int), x ∈ (aget (dropL D l id) d).getD [] ↔ x ∈ (aget D d).getD [] ∧ ¬ (x = id ∧ d ∈ l) := by
  induction l with
  | nil => intro D _ d; simp [dropL]
  | cons c l ih =>
    intro D hn d
    have e : dropL D (c :: l) id = dropL (dropC D c id) l id := rfl
    rw [e, ih (dropC_nd hn), mem_dropC hn]
    simp only [List.mem_cons]
    constructor
    · rintro ⟨⟨h1, h2⟩, h3⟩
      refine ⟨h1, ?_⟩
      rintro ⟨h4, h5 | h5⟩
      · exact h2 ⟨h4, h5⟩
      · exact h3 ⟨h4, h5⟩
    · rintro ⟨h1, h2⟩
      exact ⟨⟨h1, fun ⟨h4, h5⟩ => h2 ⟨h4, .inl h5⟩⟩, fun ⟨h4, h5⟩ => h2 ⟨h4, .inr h5⟩⟩

theorem dropL_nd {l : List (Int × Int)} {id : Int} : ∀ {D : List ((Int × Int) × List Int)} (_ : (D.map (·.1)).Nodup), ((dropL D l id).map (·.1)).Nodup := by
  induction l with
  | nil => exact fun h => h
  | cons c l ih => exact fun h => ih (dropC_nd h)

/-- the box is out, in the cells as well -/
theorem Cons.out {s : Int} {B : List (Int × Bx)} {D : List ((Int × Int) × List Int)} (h : Cons s B D) (hB : (B.map (·.1)).Nodup) (hD : (D.map (·.1)).Nodup) {id : Int} (his : (aget B id).isSome = true) :
    Cons s (adel B id) (dropL D (cellsL' s (boxAt B id)) id) := by
  obtain ⟨a, ha⟩ := Option.isSome_iff_exists.1 his
  have hb : boxAt B id = a := by unfold boxAt; rw [ha]; rfl
  refine ⟨fun c x => ?_, fun x b' hx => ?_⟩
  · rw [mem_dropL hD, h.cell, aget_adel hB, hb]
    by_cases hx : x = id
    · subst hx
      rw [if_pos rfl]
      constructor
      · rintro ⟨⟨b', h1, h2⟩, h3⟩
        rw [ha] at h1
        cases h1
        exact absurd ⟨rfl, h2⟩ h3
      · rintro ⟨_, h1, _⟩
        cases h1
    · rw [if_neg hx]
      simp [hx]
  · rw [aget_adel hB] at hx
    split at hx
    · cases hx
    · exact h.ok x b' hx

theorem Cons.inn {s : Int} {B : List (Int × Bx)} {D : List ((Int × Int) × List Int)} (h : Cons s B D) {id : Int} (hid : 0 ≤ id) (hn : aget B id = none) {b : Bx} (hb : cellsE s b = 0) : Cons s (aset B id b) (putL D (cellsL' s b) id) := by
  have hE : gputE s B id b = 0 := by unfold gputE; rw [if_neg (by omega), hn]; exact hb
  have := h.put id b
  unfold gputB gputD at this
  rwa [if_pos hE, if_pos hE] at this

theorem Cons.drop {s : Int} {B : List (Int × Bx)} {D : List ((Int × Int) × List Int)} (h : Cons s B D) (hB : (B.map (·.1)).Nodup) (hD : (D.map (·.1)).Nodup) (id : Int) : Cons s (gdropB B id) (gdropD s B D id) := by
  unfold gdropB gdropD gdropE
  by_cases hi : (aget B id).isSome = true
  · rw [if_pos hi, if_pos rfl, if_pos rfl]
    exact h.out hB hD hi
  · rw [if_neg hi, if_neg (by decide), if_neg (by decide)]
    exact h

theorem Cons.move {s : Int} {B : List (Int × Bx)} {D : List ((Int × Int) × List Int)} (h : Cons s B D) (hB : (B.map (·.1)).Nodup) (hD : (D.map (·.1)).Nodup) (id : Int) (b : Bx) : Cons s (gmoveB s B id b) (gmoveD s B D id b) := by
  unfold gmoveB gmoveD
  by_cases h0 : gmoveE s B id b = 0
  · rw [if_pos h0, if_pos h0]
    unfold gmoveE at h0
    split at h0
    · rename_i hi
      obtain ⟨a, ha⟩ := Option.isSome_iff_exists.1 hi
      exact (h.out hB hD hi).inn (h.ok id a ha).2 (by rw [aget_adel hB, if_pos rfl]) h0
    · cases h0
  · rw [if_neg h0, if_neg h0]
    exact h

/-! ### the numbers that are there -/
theorem nd_put {s : Int} {B : List (Int × Bx)} (h : (B.map (·.1)).Nodup) {id : Int} {b : Bx} : ((gputB s B id b).map (·.1)).Nodup := by
  unfold gputB
  split
  · exact nodup_aset h
  · exact h
theorem nd_move {s : Int} {B : List (Int × Bx)} (h : (B.map (·.1)).Nodup) {id : Int} {b : Bx} : ((gmoveB s B id b).map (·.1)).Nodup := by
  unfold gmoveB
  split
  · exact nodup_aset (nodup_adel h)
  · exact h
theorem nd_drop {B : List (Int × Bx)} (h : (B.map (·.1)).Nodup) {id : Int} : ((gdropB B id).map (·.1)).Nodup := by
  unfold gdropB
  split
  · exact nodup_adel h
  · exact h
theorem nd_putL {l : List (Int × Int)} {id : Int} : ∀ {D : List ((Int × Int) × List Int)} (_ : (D.map (·.1)).Nodup), ((putL D l id).map (·.1)).Nodup := by
  induction l with
  | nil => exact fun h => h
  | cons c l ih => exact fun h => ih (nodup_aset h)
theorem get_put {s : Int} {B : List (Int × Bx)} {id x : Int} {b : Bx} : aget (gputB s B id b) x = if gputE s B id b = 0 ∧ x = id then some b else aget B x := by
  unfold gputB
  by_cases h : gputE s B id b = 0
  · rw [if_pos h, aget_aset]
    simp [h]
  · rw [if_neg h, if_neg (fun hh => h hh.1)]
theorem get_move {s : Int} {B : List (Int × Bx)} (hB : (B.map (·.1)).Nodup) {id x : Int} {b : Bx} : aget (gmoveB s B id b) x = if gmoveE s B id b = 0 ∧ x = id then some b else aget B x := by
  unfold gmoveB
  by_cases h : gmoveE s B id b = 0
  · rw [if_pos h, aget_aset, aget_adel hB]
    by_cases hx : x = id <;> simp [h, hx]
  · rw [if_neg h, if_neg (fun hh => h hh.1)]
theorem get_drop {B : List (Int × Bx)} (hB : (B.map (·.1)).Nodup) {id x : Int} : aget (gdropB B id) x = if x = id then none else aget B x := by
  unfold gdropB gdropE
  by_cases hi : (aget B id).isSome = true
  · rw [if_pos hi, if_pos rfl, aget_adel hB]
  · rw [if_neg hi, if_neg (by decide)]
    by_cases hx : x = id
    · subst hx
      rw [if_pos rfl]
      simpa using hi
    · rw [if_neg hx]
theorem mem_keys {B : List (Int × Bx)} {x : Int} : x ∈ B.map (·.1) ↔ (aget B x).isSome = true := by
  constructor
  · intro h
    cases hg : aget B x with
    | some b => rfl
    | none =>
      obtain ⟨y, hy, e⟩ := List.mem_map.1 h
      exact absurd e (aget_none.1 hg y hy)
  · intro h
    obtain ⟨b, hb⟩ := Option.isSome_iff_exists.1 h
    exact List.mem_map.2 ⟨(x, b), aget_mem hb, rfl⟩

theorem aset_len {A : List (Int × Bool)} {a : Int} {b : Bool} : (aset A a b).length ≤ A.length + 1 := by
  have h := congrArg List.length (aset_keys (A := A) (a := a) (b := b))
  rw [List.length_map] at h
  rw [h]
  split
  · rw [List.length_map]; omega
  · rw [List.length_append, List.length_map]; simp
theorem metC_len {B : List (Int × Bx)} {b : Bx} : ∀ {ids : List Int} {A : List (Int × Bool)}, (metC B b ids A).length ≤ A.length + ids.length
  | [], A => by simp [metC]
  | id :: ids, A => by
    have e : metC B b (id :: ids) A = metC B b ids (if (meetV (boxAt B id) b).1 = true then aset A id true else A) := rfl
    rw [e]
    refine Nat.le_trans metC_len ?_
    rw [List.length_cons]
    split
    · have := aset_len (A := A) (a := id) (b := true)
      omega
    · omega
theorem metL_len {B : List (Int × Bx)} {D : List ((Int × Int) × List Int)} {b : Bx} {N : Nat} (hN : ∀ x, ((aget D x).getD []).length ≤ N) (l : List (Int × Int)) : (metL B D b l).length ≤ l.length * N := by
  have key : ∀ (l : List (Int × Int)) (A : List (Int × Bool)), (l.foldl (fun A c => metC B b ((aget D c).getD []) A) A).length ≤ A.length + l.length * N := by
    intro l
    induction l with
    | nil => intro A; simp
    | cons c l ih =>
      intro A
      rw [List.foldl_cons, List.length_cons, Nat.add_mul]
      have h1 := ih (metC B b ((aget D c).getD []) A)
      have h2 := metC_len (B := B) (b := b) (ids := (aget D c).getD []) (A := A)
      have h3 := hN c
      omega
  have := key l []
  simpa [metL] using this

/-- two grids that hold the same -/
theorem same_perm {α : Type} {A A' : List (Int × α)} (hn : (A.map (·.1)).Nodup) (hn' : (A'.map (·.1)).Nodup) (h : ∀ x, x ∈ A.map (·.1) ↔ x ∈ A'.map (·.1)) : (A.map (·.1)).Perm (A'.map (·.1)) :=
  (List.perm_ext_iff_of_nodup hn hn').2 h

theorem same_near {s : Int} {B B' : List (Int × Bx)} {D D' : List ((Int × Int) × List Int)} (h : Cons s B D) (h' : Cons s B' D') (hS : ∀ x, aget B x = aget B' x) (b : Bx) : gnearV s B D b = gnearV s B' D' b := by
  unfold gnearV
  by_cases hb : cellsE s b = 0
  · refine Go.mergeSort_of_perm_i (same_perm (nodup_metL _) (nodup_metL _) fun x => ?_)
    rw [h.near hb, h'.near hb, hS]
  · have : cellsL' s b = [] := by unfold cellsL'; rw [if_neg hb]
    rw [this]
    rfl
end Go.Proofs.Ytamobmjfdiecbaa
