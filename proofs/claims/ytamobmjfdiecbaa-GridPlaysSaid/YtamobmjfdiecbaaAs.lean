/- As: lists of keys and values, plainly: what is there behind a change. No condition. -/
import Derived.Test.YtamobmjfdiecbaaMp
namespace Go.Sx
set_option linter.unusedSectionVars false

section
variable {α β γ : Type} [DecidableEq α]

theorem aget_cons {x : α × β} {A : List (α × β)} {a : α} : aget (x :: A) a = if x.1 = a then some x.2 else aget A a := by
  unfold aget
  rw [afind]
  split
  · rfl
  · rw [afind_shift]
    cases afind a A 0 <;> rfl

theorem aget_nil {a : α} : aget ([] : List (α × β)) a = none := rfl

theorem aget_mem {A : List (α × β)} {a : α} {b : β} (h : aget A a = some b) : (a, b) ∈ A := by
  induction A with
  | nil => cases h
  | cons x A ih =>
    rw [aget_cons] at h
    split at h
    · rename_i hx
      simp only [Option.some.injEq] at h
      subst h
      subst hx
      simp
    · exact List.mem_cons_of_mem _ (ih h)

theorem aget_none {A : List (α × β)} {a : α} : aget A a = none ↔ ∀ x ∈ A, x.1 ≠ a := by
  unfold aget
  rw [Option.map_eq_none_iff, afind_none]

theorem aget_of_mem {A : List (α × β)} (hn : (A.map (·.1)).Nodup) {a : α} {b : β} (h : (a, b) ∈ A) : aget A a = some b := by
  induction A with
  | nil => cases h
  | cons x A ih =>
    rw [aget_cons]
    simp only [List.map_cons, List.nodup_cons] at hn
    rcases List.mem_cons.1 h with rfl | h
    · simp
    · rw [if_neg, ih hn.2 h]
      intro e
      exact hn.1 (e ▸ List.mem_map.2 ⟨_, h, rfl⟩)

theorem aget_aset {A : List (α × β)} {a : α} {b : β} {c : α} : aget (aset A a b) c = if c = a then some b else aget A c := by
  induction A with
  | nil =>
    simp only [aset, aget_cons, aget_nil]
    by_cases h : a = c
    · simp [h]
    · simp [h, Ne.symm h]
  | cons x A ih =>
    unfold aset
    split
    · rename_i hx
      rw [aget_cons, aget_cons]
      by_cases h : c = a
      · simp [hx, h]
      · have : ¬ x.1 = c := by rw [hx]; exact fun e => h e.symm
        simp [this, h]
    · rename_i hx
      rw [aget_cons, aget_cons, ih]
      by_cases h : x.1 = c
      · have : ¬ c = a := by rw [← h]; exact hx
        simp [h, this]
      · simp [h]

theorem mem_aset {A : List (α × β)} (hn : (A.map (·.1)).Nodup) {a : α} {b : β} {x : α × β} (h : x ∈ aset A a b) : x = (a, b) ∨ (x ∈ A ∧ x.1 ≠ a) := by
  induction A with
  | nil =>
    simp only [aset, List.mem_singleton] at h
    exact .inl h
  | cons y A ih =>
    simp only [List.map_cons, List.nodup_cons] at hn
    unfold aset at h
    split at h
    · rename_i hy
      rcases List.mem_cons.1 h with rfl | h
      · exact .inl (by rw [hy])
      · refine .inr ⟨List.mem_cons_of_mem _ h, fun e => hn.1 ?_⟩
        rw [hy, ← e]
        exact List.mem_map.2 ⟨x, h, rfl⟩
    · rename_i hy
      rcases List.mem_cons.1 h with rfl | h
      · exact .inr ⟨by simp, hy⟩
      · rcases ih hn.2 h with h | ⟨h1, h2⟩
        · exact .inl h
        · exact .inr ⟨List.mem_cons_of_mem _ h1, h2⟩

theorem aset_keys {A : List (α × β)} {a : α} {b : β} : (aset A a b).map (·.1) = if a ∈ A.map (·.1) then A.map (·.1) else A.map (·.1) ++ [a] := by
  induction A with
  | nil => simp [aset]
  | cons x A ih =>
    unfold aset
    split
    · rename_i h
      simp [h]
    · rename_i h
      rw [List.map_cons, ih]
      have h' : ¬ a = x.1 := fun e => h e.symm
      simp only [List.map_cons, List.mem_cons, h', false_or]
      split <;> simp

theorem nodup_aset {A : List (α × β)} (hn : (A.map (·.1)).Nodup) {a : α} {b : β} : ((aset A a b).map (·.1)).Nodup := by
  rw [aset_keys]
  split
  · exact hn
  · rename_i h
    rw [List.nodup_append]
    refine ⟨hn, by simp, ?_⟩
    intro x hx y hy
    simp only [List.mem_singleton] at hy
    subst hy
    exact fun e => h (e ▸ hx)

theorem pairwise_aset {A : List (α × β)} {R : α × β → α × β → Prop} (hR : A.Pairwise R) (hn : (A.map (·.1)).Nodup) {a : α} {b : β} (h : ∀ x ∈ A, x.1 ≠ a → R x (a, b) ∧ R (a, b) x) : (aset A a b).Pairwise R := by
  induction A with
  | nil => simp [aset]
  | cons y A ih =>
    simp only [List.map_cons, List.nodup_cons] at hn
    rw [List.pairwise_cons] at hR
    unfold aset
    split
    · rename_i hy
      rw [List.pairwise_cons]
      refine ⟨fun x hx => ?_, hR.2⟩
      have hxa : x.1 ≠ a := fun e => hn.1 (by rw [hy, ← e]; exact List.mem_map.2 ⟨x, hx, rfl⟩)
      have := (h x (by simp [hx]) hxa).2
      rw [hy]
      exact this
    · rename_i hy
      rw [List.pairwise_cons]
      refine ⟨fun x hx => ?_, ih hR.2 hn.2 fun x hx => h x (by simp [hx])⟩
      rcases mem_aset hn.2 hx with rfl | ⟨hx, _⟩
      · exact (h y (by simp) hy).1
      · exact hR.1 x hx

theorem map_aset {f : β → γ} {A : List (α × β)} {a : α} {b : β} : (aset A a b).map (fun x => (x.1, f x.2)) = aset (A.map (fun x => (x.1, f x.2))) a (f b) := by
  induction A with
  | nil => rfl
  | cons x A ih =>
    simp only [aset, List.map_cons]
    split
    · simp
    · simp [ih]

theorem map_aget {f : β → γ} {A : List (α × β)} {a : α} : aget (A.map (fun x => (x.1, f x.2))) a = (aget A a).map f := by
  induction A with
  | nil => rfl
  | cons x A ih =>
    simp only [List.map_cons, aget_cons]
    split
    · rfl
    · exact ih

theorem map_adel {f : β → γ} {A : List (α × β)} {a : α} : (adel A a).map (fun x => (x.1, f x.2)) = adel (A.map (fun x => (x.1, f x.2))) a := by
  induction A with
  | nil => rfl
  | cons x A ih =>
    simp only [adel, List.map_cons]
    split
    · rfl
    · simp [ih]

theorem adel_sub (A : List (α × β)) (a : α) : (adel A a).Sublist A := by
  induction A with
  | nil => exact List.Sublist.refl _
  | cons x A ih =>
    unfold adel
    split
    · exact List.sublist_cons_self _ _
    · exact ih.cons_cons _

theorem mem_adel {A : List (α × β)} (hn : (A.map (·.1)).Nodup) {a : α} {x : α × β} : x ∈ adel A a ↔ x ∈ A ∧ x.1 ≠ a := by
  induction A with
  | nil => simp [adel]
  | cons y A ih =>
    simp only [List.map_cons, List.nodup_cons] at hn
    unfold adel
    split
    · rename_i hy
      constructor
      · intro h
        refine ⟨List.mem_cons_of_mem _ h, fun e => hn.1 ?_⟩
        rw [hy, ← e]
        exact List.mem_map.2 ⟨x, h, rfl⟩
      · rintro ⟨h, hne⟩
        rcases List.mem_cons.1 h with rfl | h
        · exact absurd hy hne
        · exact h
    · rename_i hy
      rw [List.mem_cons, ih hn.2, List.mem_cons]
      constructor
      · rintro (rfl | ⟨h1, h2⟩)
        · exact ⟨.inl rfl, hy⟩
        · exact ⟨.inr h1, h2⟩
      · rintro ⟨rfl | h1, h2⟩
        · exact .inl rfl
        · exact .inr ⟨h1, h2⟩

theorem nodup_adel {A : List (α × β)} (hn : (A.map (·.1)).Nodup) {a : α} : ((adel A a).map (·.1)).Nodup := hn.sublist ((adel_sub A a).map _)

theorem aget_adel {A : List (α × β)} (hn : (A.map (·.1)).Nodup) {a c : α} : aget (adel A a) c = if c = a then none else aget A c := by
  induction A with
  | nil => simp [adel, aget_nil]
  | cons x A ih =>
    simp only [List.map_cons, List.nodup_cons] at hn
    unfold adel
    split
    · rename_i hx
      rw [aget_cons]
      by_cases h : c = a
      · rw [if_pos h]
        rw [aget_none]
        intro y hy e
        exact hn.1 (by rw [hx, ← h, ← e]; exact List.mem_map.2 ⟨y, hy, rfl⟩)
      · have : ¬ x.1 = c := by rw [hx]; exact fun e => h e.symm
        simp [this, h]
    · rename_i hx
      rw [aget_cons, aget_cons, ih hn.2]
      by_cases h : x.1 = c
      · have : ¬ c = a := by rw [← h]; exact hx
        simp [h, this]
      · simp [h]
end
end Go.Sx
