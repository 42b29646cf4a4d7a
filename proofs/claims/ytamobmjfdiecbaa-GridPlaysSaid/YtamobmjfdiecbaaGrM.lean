/- GrM: the plain law of grids: what lies in the cells is what the boxes touch; who meets has a cell in common; Near finds just those that meet. Conditions: those of each theorem, on its arguments. -/
import Derived.Test.YtamobmjfdiecbaaGrA
namespace Go.Proofs.Ytamobmjfdiecbaa
open Go Go.Sx Go.Fp

theorem meet_iff {a b : Bx} : (meetV a b).1 = true ↔ (a.right = true ∧ b.right = true) ∧ gap a b false < 0 ∧ gap a b true < 0 := by
  unfold meetV gapV
  split
  · rename_i h
    simp [h]
  · rename_i h
    simp [h]

theorem meet_common {s : Int} {a b : Bx} (ha : cellsE s a = 0) (hb : cellsE s b = 0) (h : (meetV a b).1 = true) : ∃ c, c ∈ cellsL' s a ∧ c ∈ cellsL' s b := by
  obtain ⟨⟨ra, rb⟩, hx, hy⟩ := meet_iff.1 h
  obtain ⟨hs, _⟩ := cellsE_zero ha
  have hs1 : 1 ≤ s ∧ s ≤ 1099511627776 := by simpa [sideOk] using hs
  have a1 := right_iff.1 ra
  have b1 := right_iff.1 rb
  simp only [gap, adiff, Bx.at] at hx hy
  have mono : ∀ {x y : Int}, x ≤ y → x / s ≤ y / s := fun h => Int.ediv_le_ediv (by omega) h
  have X1 : a.x - a.r ≤ b.x + b.r - 1 := by revert hx; simp; omega
  have X2 : b.x - b.r ≤ a.x + a.r - 1 := by revert hx; simp; omega
  have Y1 : a.y - a.r ≤ b.y + b.r - 1 := by revert hy; simp; omega
  have Y2 : b.y - b.r ≤ a.y + a.r - 1 := by revert hy; simp; omega
  have m1 := mono X1
  have m2 := mono X2
  have m3 := mono Y1
  have m4 := mono Y2
  have la := span_le hs1.1 ra
  have lb := span_le hs1.1 rb
  simp only [spanOf] at la lb
  refine ⟨(max ((a.x - a.r) / s) ((b.x - b.r) / s), max ((a.y - a.r) / s) ((b.y - b.r) / s)), mem_cells.2 ⟨ha, ?_, ?_⟩, mem_cells.2 ⟨hb, ?_, ?_⟩⟩ <;> simp only [spanOf] <;> omega

theorem key_aset {A : List (Int × Bool)} {a x : Int} : x ∈ (aset A a true).map (·.1) ↔ x = a ∨ x ∈ A.map (·.1) := by
  rw [aset_keys]
  split
  · rename_i h
    constructor
    · exact .inr
    · rintro (rfl | h')
      · exact h
      · exact h'
  · simp only [List.mem_append, List.mem_singleton]
    exact Or.comm

theorem mem_metC {B : List (Int × Bx)} {b : Bx} {x : Int} : ∀ {ids : List Int} {A : List (Int × Bool)}, x ∈ (metC B b ids A).map (·.1) ↔ x ∈ A.map (·.1) ∨ (x ∈ ids ∧ (meetV (boxAt B x) b).1 = true)
  | [], A => by simp [metC]
  | id :: ids, A => by
    have e : metC B b (id :: ids) A = metC B b ids (if (meetV (boxAt B id) b).1 = true then aset A id true else A) := rfl
    rw [e, mem_metC]
    split
    · rename_i h
      rw [key_aset]
      constructor
      · rintro ((rfl | h1) | ⟨h1, h2⟩)
        · exact .inr ⟨List.mem_cons_self, h⟩
        · exact .inl h1
        · exact .inr ⟨List.mem_cons_of_mem _ h1, h2⟩
      · rintro (h1 | ⟨h1, h2⟩)
        · exact .inl (.inr h1)
        · rcases List.mem_cons.1 h1 with rfl | h1
          · exact .inl (.inl rfl)
          · exact .inr ⟨h1, h2⟩
    · rename_i h
      constructor
      · rintro (h1 | ⟨h1, h2⟩)
        · exact .inl h1
        · exact .inr ⟨List.mem_cons_of_mem _ h1, h2⟩
      · rintro (h1 | ⟨h1, h2⟩)
        · exact .inl h1
        · rcases List.mem_cons.1 h1 with rfl | h1
          · exact absurd h2 h
          · exact .inr ⟨h1, h2⟩

theorem mem_metL {B : List (Int × Bx)} {D : List ((Int × Int) × List Int)} {b : Bx} {l : List (Int × Int)} {x : Int} : x ∈ (metL B D b l).map (·.1) ↔ (∃ c ∈ l, x ∈ (aget D c).getD []) ∧ (meetV (boxAt B x) b).1 = true := by
  have key : ∀ (l : List (Int × Int)) (A : List (Int × Bool)), x ∈ (l.foldl (fun A c => metC B b ((aget D c).getD []) A) A).map (·.1) ↔ x ∈ A.map (·.1) ∨ ((∃ c ∈ l, x ∈ (aget D c).getD []) ∧ (meetV (boxAt B x) b).1 = true) := by
    intro l
    induction l with
    | nil => intro A; simp
    | cons c l ih =>
      intro A
      rw [List.foldl_cons, ih, mem_metC]
      constructor
      · rintro ((h | ⟨h1, h2⟩) | ⟨⟨d, h1, h2⟩, h3⟩)
        · exact .inl h
        · exact .inr ⟨⟨c, List.mem_cons_self, h1⟩, h2⟩
        · exact .inr ⟨⟨d, List.mem_cons_of_mem _ h1, h2⟩, h3⟩
      · rintro (h | ⟨⟨d, h1, h2⟩, h3⟩)
        · exact .inl (.inl h)
        · rcases List.mem_cons.1 h1 with rfl | h1
          · exact .inl (.inr ⟨h2, h3⟩)
          · exact .inr ⟨⟨d, h1, h2⟩, h3⟩
  have := key l []
  simpa [metL] using this

theorem mem_putL {l : List (Int × Int)} {id x : Int} : ∀ {D : List ((Int × Int) × List Int)} (c : Int × Int), x ∈ (aget (putL D l id) c).getD [] ↔ x ∈ (aget D c).getD [] ∨ (x = id ∧ c ∈ l) := by
  induction l with
  | nil => intro D c; simp [putL]
  | cons d l ih =>
    intro D c
    have e : putL D (d :: l) id = putL (addTo D d id) l id := rfl
    rw [e, ih]
    unfold addTo
    rw [aget_aset]
    by_cases h : c = d
    · subst h
      rw [if_pos rfl]
      simp only [Option.getD_some, List.mem_append, List.mem_cons, List.not_mem_nil, or_false, true_or, and_true]
      constructor
      · rintro ((h | h) | ⟨h, _⟩)
        · exact .inl h
        · exact .inr h
        · exact .inr h
      · rintro (h | h)
        · exact .inl (.inl h)
        · exact .inl (.inr h)
    · rw [if_neg h]
      simp only [List.mem_cons, h, false_or]

/-- what lies in the cells is what the boxes touch -/
structure Cons (s : Int) (B : List (Int × Bx)) (D : List ((Int × Int) × List Int)) : Prop where
  cell : ∀ (c : Int × Int) (x : Int), x ∈ (aget D c).getD [] ↔ ∃ b, aget B x = some b ∧ c ∈ cellsL' s b
  ok : ∀ x b, aget B x = some b → cellsE s b = 0 ∧ 0 ≤ x

theorem Cons.nil (s : Int) : Cons s [] [] := ⟨fun c x => by simp [aget, afind], fun x b h => by simp [aget, afind] at h⟩

theorem Cons.put {s : Int} {B : List (Int × Bx)} {D : List ((Int × Int) × List Int)} (h : Cons s B D) (id : Int) (b : Bx) : Cons s (gputB s B id b) (gputD s B D id b) := by
  unfold gputB gputD
  by_cases h0 : gputE s B id b = 0
  · rw [if_pos h0, if_pos h0]
    unfold gputE at h0
    split at h0
    · cases h0
    · rename_i hid
      split at h0
      · cases h0
      · rename_i hn
        have hn' : aget B id = none := by simpa using hn
        refine ⟨fun c x => ?_, fun x b' hx => ?_⟩
        · rw [mem_putL, h.cell, aget_aset]
          by_cases hx : x = id
          · subst hx
            rw [if_pos rfl, hn']
            constructor
            · rintro (⟨b', h1, _⟩ | ⟨_, h1⟩)
              · cases h1
              · exact ⟨b, rfl, h1⟩
            · rintro ⟨b', h1, h2⟩
              cases h1
              exact .inr ⟨rfl, h2⟩
          · rw [if_neg hx]
            simp [hx]
        · rw [aget_aset] at hx
          split at hx
          · rename_i he
            cases hx
            exact ⟨h0, by omega⟩
          · exact h.ok x b' hx
  · rw [if_neg h0, if_neg h0]
    exact h

/-- Near finds just those that meet -/
theorem Cons.near {s : Int} {B : List (Int × Bx)} {D : List ((Int × Int) × List Int)} (h : Cons s B D) {b : Bx} (hb : cellsE s b = 0) (x : Int) : x ∈ (metL B D b (cellsL' s b)).map (·.1) ↔ ∃ a, aget B x = some a ∧ (meetV a b).1 = true := by
  rw [mem_metL]
  constructor
  · rintro ⟨⟨c, _, h2⟩, h3⟩
    obtain ⟨a, h4, _⟩ := (h.cell c x).1 h2
    refine ⟨a, h4, ?_⟩
    have : boxAt B x = a := by unfold boxAt; rw [h4]; rfl
    rwa [this] at h3
  · rintro ⟨a, h1, h2⟩
    obtain ⟨c, h3, h4⟩ := meet_common (h.ok x a h1).1 hb h2
    refine ⟨⟨c, h4, (h.cell c x).2 ⟨a, h1, h3⟩⟩, ?_⟩
    have : boxAt B x = a := by unfold boxAt; rw [h1]; rfl
    rw [this]
    exact h2
end Go.Proofs.Ytamobmjfdiecbaa
