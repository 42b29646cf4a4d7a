/- WoK: handles that are given and handles that are dead, in plain lists; rows of whole numbers beside a world. Conditions: those of each theorem, on its arguments. -/
import Derived.Test.YtamobmjfdiecbaaWoL2
namespace Go.Proofs.Ytamobmjfdiecbaa
open Go Go.Sx Go.Fp
attribute [local irreducible] jn lv ld st nw asI asB asP asS asY asM asF asA asT lp rn ru rq cl dw dr bnd bn2 nz nn hd hr so eqW
attribute [local irreducible] callOk

/-! ### plain -/
def Old (S : List Spot) (h : Int) : Prop := ∃ (i : Nat) (s : Spot), S[i]? = some s ∧ h.toNat % 64 = i ∧ 64 ≤ h ∧ h ≤ s.gen * 64 + (i : Int)

theorem set_cases {S : List Spot} {i : Nat} {s t : Spot} (hs : S[i]? = some s) (j : Nat) : (j = i ∧ (S.set i t)[j]? = some t) ∨ (j ≠ i ∧ (S.set i t)[j]? = S[j]?) := by
  by_cases hj : j = i
  · subst hj
    exact .inl ⟨rfl, List.getElem?_set_self (List.getElem?_eq_some_iff.1 hs).1⟩
  · exact .inr ⟨hj, List.getElem?_set_ne fun h => hj h.symm⟩

theorem Old.set {S : List Spot} {h : Int} (ho : Old S h) {i : Nat} {s t : Spot} (hs : S[i]? = some s) (hg : s.gen ≤ t.gen) : Old (S.set i t) h := by
  obtain ⟨j, u, hu, h1, h2, h3⟩ := ho
  rcases set_cases (t := t) hs j with ⟨rfl, e⟩ | ⟨_, e⟩
  · rw [hs] at hu
    cases hu
    exact ⟨j, t, e, h1, h2, by omega⟩
  · exact ⟨j, u, by rw [e, hu], h1, h2, h3⟩

theorem Old.new {n : Nat} {S : List Spot} (hG : Good n S) {i : Nat} {s : Spot} (hs : S[i]? = some s) (e : Ent) : Old (S.set i (spn s i e)) ((s.gen + 1) * 64 + (i : Int)) := by
  obtain ⟨h0, h1, h2, _⟩ := hG i s hs
  refine ⟨i, spn s i e, List.getElem?_set_self (List.getElem?_eq_some_iff.1 hs).1, by omega, by omega, ?_⟩
  show _ ≤ (s.gen + 1) * 64 + (i : Int)
  omega

theorem Old.ne {n : Nat} {S : List Spot} (hG : Good n S) {h : Int} (ho : Old S h) {i : Nat} {s : Spot} (hs : S[i]? = some s) : h ≠ (s.gen + 1) * 64 + (i : Int) := by
  obtain ⟨h0, h1, h2, _⟩ := hG i s hs
  obtain ⟨j, u, hu, h3, h4, h5⟩ := ho
  rintro rfl
  have : j = i := by omega
  subst this
  rw [hs] at hu
  cases hu
  omega

theorem atI_none {S : List Spot} {h : Int} (hn : atI S h = none) (h64 : 64 ≤ h) {s : Spot} (hs : S[h.toNat % 64]? = some s) : ¬ (s.there = true ∧ s.e.h = h) := by
  unfold atI at hn
  rw [if_neg (by omega), hs] at hn
  simp only at hn
  intro hc
  rw [if_pos hc] at hn
  cases hn
theorem none_atI {S : List Spot} {h : Int} (hn : ∀ s, S[h.toNat % 64]? = some s → ¬ (s.there = true ∧ s.e.h = h)) : atI S h = none := by
  unfold atI
  split
  · rfl
  · split
    · rename_i s hs
      rw [if_neg (hn s hs)]
    · rfl

theorem none_set {S : List Spot} {h : Int} (hn : atI S h = none) (h64 : 64 ≤ h) {i : Nat} {s t : Spot} (hs : S[i]? = some s) (ht : h.toNat % 64 = i → ¬ (t.there = true ∧ t.e.h = h)) : atI (S.set i t) h = none := by
  refine none_atI fun u hu => ?_
  rcases set_cases (t := t) hs (h.toNat % 64) with ⟨e1, e⟩ | ⟨_, e⟩
  · rw [e] at hu
    cases hu
    exact ht e1
  · rw [e] at hu
    exact atI_none hn h64 hu

theorem listS_set : ∀ {S : List Spot} {i : Nat} {s : Spot} (_ : S[i]? = some s) (t : Spot), (listS (S.set i t)).length + (if s.there = true then 1 else 0) = (listS S).length + (if t.there = true then 1 else 0)
  | [], _, _, h, _ => by simp at h
  | x :: S, 0, s, h, t => by
    have : x = s := by simpa using h
    subst this
    simp only [listS, List.set_cons_zero, List.filter_cons, List.length_map]
    by_cases h1 : x.there = true <;> by_cases h2 : t.there = true <;> simp [h1, h2] <;> omega
  | x :: S, i + 1, s, h, t => by
    have ih := listS_set (S := S) (i := i) (s := s) (by simpa using h) t
    simp only [listS, List.length_map] at ih
    simp only [listS, List.set_cons_succ, List.filter_cons, List.length_map]
    by_cases h1 : x.there = true <;> simp [h1] <;> omega

structure Inv (n : Nat) (S : List Spot) (G Q : List Int) : Prop where
  good : Good n S
  old : ∀ h ∈ G, Old S h
  dead : ∀ h ∈ Q, Old S h ∧ atI S h = none
  cnt : (listS S).length + Q.length = G.length
  cap : G.length ≤ n

theorem Inv.mono {n m : Nat} {S : List Spot} {G Q : List Int} (h : Inv n S G Q) (hm : n ≤ m) : Inv m S G Q := ⟨h.good.mono hm, h.old, h.dead, h.cnt, Nat.le_trans h.cap hm⟩

theorem Inv.spawn {n : Nat} (hn : n ≤ 1000000) {S : List Spot} {G Q : List Int} (h : Inv n S G Q) {i : Nat} {s : Spot} (hf : IsFree S i s) {e : Ent} (he : e.rightE = 0) (hI : e.I) :
    Inv (n + 1) (S.set i (spn s i e)) (G ++ [(s.gen + 1) * 64 + (i : Int)]) Q ∧ (s.gen + 1) * 64 + (i : Int) ∉ G := by
  have hs := hf.1
  have hg : s.gen ≤ (spn s i e).gen := by show s.gen ≤ s.gen + 1; omega
  have hth : s.there = false := by
    have := hf.2.1
    unfold free at this
    revert this
    cases s.there <;> simp
  refine ⟨⟨h.good.spawn hn hs he hI, fun x hx => ?_, fun x hx => ?_, ?_, by have := h.cap; simp; omega⟩, fun hm => (h.old _ hm).ne h.good hs rfl⟩
  · rcases List.mem_append.1 hx with hx | hx
    · exact (h.old x hx).set hs hg
    · rw [List.mem_singleton.1 hx]
      exact Old.new h.good hs e
  · obtain ⟨h1, h2⟩ := h.dead x hx
    refine ⟨h1.set hs hg, none_set h2 (by obtain ⟨_, _, _, _, h64, _⟩ := h1; exact h64) hs fun _ hc => ?_⟩
    exact h1.ne h.good hs hc.2.symm
  · have := listS_set hs (spn s i e)
    rw [hth, show (spn s i e).there = true from rfl] at this
    have h0 := h.cnt
    rw [List.length_append, List.length_singleton]
    simp at this
    omega

theorem Inv.kill {n : Nat} {S : List Spot} {G Q : List Int} (h : Inv n S G Q) {hh : Int} {i : Nat} {s : Spot} (hi : i = hh.toNat % 64) (hp : hh = hh.toNat) (hs : S[i]? = some s) (ht : s.there = true) (hx : s.e.h = hh) :
    Inv n (S.set i ⟨s.gen, false, s.e⟩) G (Q ++ [hh]) := by
  have hg : s.gen ≤ (⟨s.gen, false, s.e⟩ : Spot).gen := by simp
  obtain ⟨h0, h1, h2, h3⟩ := h.good i s hs
  obtain ⟨h4, h5, h6, h7⟩ := h3 ht
  have hold : Old S hh := ⟨i, s, hs, hi.symm, by omega, by omega⟩
  refine ⟨fun j t hj => ?_, fun x hx => (h.old x hx).set hs hg, fun x hx' => ?_, ?_, h.cap⟩
  · rcases set_cases (t := ⟨s.gen, false, s.e⟩) hs j with ⟨rfl, e⟩ | ⟨_, e⟩
    · rw [e] at hj
      cases hj
      exact ⟨h0, h1, h2, fun h => by cases h⟩
    · rw [e] at hj
      exact h.good j t hj
  · rcases List.mem_append.1 hx' with hx' | hx'
    · obtain ⟨h8, h9⟩ := h.dead x hx'
      refine ⟨h8.set hs hg, none_set h9 (by obtain ⟨_, _, _, _, h64, _⟩ := h8; exact h64) hs fun _ hc => ?_⟩
      cases hc.1
    · rw [List.mem_singleton.1 hx']
      refine ⟨hold.set hs hg, none_atI fun u hu => ?_⟩
      rw [← hi, List.getElem?_set_self (List.getElem?_eq_some_iff.1 hs).1] at hu
      cases hu
      rintro ⟨hc, _⟩
      cases hc
  · have := listS_set hs ⟨s.gen, false, s.e⟩
    rw [ht] at this
    have h0 := h.cnt
    rw [List.length_append, List.length_singleton]
    simp at this
    omega

/-! ### rows beside a world -/
structure Pr (W w : World) (L : List (Nat × List Value × TypeId)) (F : Nat → Prop) (r : Nat) (p : Option Addr) (c : Nat) (xs : List Int) : Prop where
  row : Row w W.heap.size 3 p c (iv .i64 xs)
  off : ∀ a, p = some a → ¬ wF F r a.block ∧ ∀ b ∈ L, b.1 ≠ a.block

section
variable {W w : World} {L : List (Nat × List Value × TypeId)} {F : Nat → Prop} {r g : Nat} {S : List Spot} {B : List (Int × Bx)} {D : List ((Int × Int) × List Int)} {N : Nat} {p q : Option Addr} {c c' : Nat} {xs ys : List Int}

theorem Pr.nil : Pr W w L F r none 0 [] := ⟨Row.nil _ _ _, fun a h => by cases h⟩
theorem Pr.to (h : Pr W w L F r p c xs) {w' : World} (hx : Ext no w w') : Pr W w' L F r p c xs := ⟨h.row.ext hx fun _ _ h => h, h.off⟩
theorem Pr.tail {x : Nat × List Value × TypeId} (h : Pr W w (x :: L) F r p c xs) : Pr W w L F r p c xs := ⟨h.row, fun a ha => ⟨(h.off a ha).1, fun b hb => (h.off a ha).2 b (List.mem_cons_of_mem _ hb)⟩⟩
theorem Pr.cells {x y : Nat × List Value × TypeId} (h : Pr W w (x :: L) F r p c xs) (e : x.1 = y.1) : Pr W w (y :: L) F r p c xs := ⟨h.row, fun a ha => ⟨(h.off a ha).1, fun b hb => by
  rcases List.mem_cons.1 hb with rfl | hb
  · exact e ▸ (h.off a ha).2 x List.mem_cons_self
  · exact (h.off a ha).2 b (List.mem_cons_of_mem _ hb)⟩⟩
theorem Pr.cons (h : Pr W w L F r p c xs) {x : Nat × List Value × TypeId} (hx : w.heap.size ≤ x.1) : Pr W w (x :: L) F r p c xs := ⟨h.row, fun a ha => ⟨(h.off a ha).1, fun b hb => by
  rcases List.mem_cons.1 hb with rfl | hb
  · have := (h.row.at ha).2
    omega
  · exact (h.off a ha).2 b hb⟩⟩
theorem Pr.step (h : Pr W w L F r p c xs) {w' : World} {F' : Nat → Prop} (hx : Ext (wF F r) w w') (hG : ∀ k, F' k → F k ∨ w.heap.size ≤ k) : Pr W w' L F' r p c xs := by
  refine ⟨h.row.ext hx fun a ha => (h.off a ha).1, fun a ha => ⟨?_, (h.off a ha).2⟩⟩
  have hlt := (h.row.at ha).2
  rintro (hk | hk)
  · rcases hG _ hk with hk | hk
    · exact (h.off a ha).1 (.inl hk)
    · omega
  · exact (h.off a ha).1 (.inr hk)
/-- a store into a block of one's own -/
theorem Pr.onl (h : Pr W w L F r p c xs) {k : Nat} (hk : ∃ b ∈ L, b.1 = k) {w' : World} (hx : Ext (onl k) w w') : Pr W w' L F r p c xs := by
  obtain ⟨b, hb, rfl⟩ := hk
  exact ⟨h.row.ext hx fun a ha e => (h.off a ha).2 b hb (show _ = _ from Eq.symm e), h.off⟩

theorem Pr.app1 (h : Pr W w L F r p c xs) (hP : Pw W w L F r g S B D N) (h2 : Pr W w L F r q c' ys) (hA : Apart p q) {v : Int} {n : Nat} (hn : xs.length = n) (hm : n ≤ 1000000) {t' : TypeId} {K : Value → World → Prop}
    (hK : ∀ p' c'' w', Pw W w' L F r g S B D N → Pr W w' L F r p' c'' (xs ++ [v]) → Pr W w' L F r q c' ys → Apart p' q → K (.slice p' (n + 1) c'') w') :
    nw w (.cells #[.int .i64 v] t') fun r w1 => rn Try.prog (Builtin.append_ #[38, 38] 38 #[.slice p n c, .slice (some ⟨r, 0, none⟩) 1 1]) w1 K := by
  refine sI.app1 h.row (by rw [iv_length, hn]) hP.st.ext.size rfl (le_maxLen (by omega)) (by omega) fun p' c'' w' hr hx hM => ?_
  have hoff : ∀ k, blocks p k → (¬ wF F r k ∧ ∀ b ∈ L, b.1 ≠ k) ∧ W.heap.size ≤ k := fun k ⟨a, ha, hk⟩ => hk ▸ ⟨h.off a ha, (h.row.at ha).1⟩
  have hP' : Pw W w' L F r g S B D N := ⟨hP.st.toM hx (fun k hk => (hoff k hk).2) (fun b hb hk => (hoff _ hk).1.2 b hb rfl), hP.wd.ext hx fun k hk hb => (hoff k hb).1.1 hk, hP.fr⟩
  refine hK p' c'' w' hP' ⟨?_, fun a ha => ?_⟩ ⟨h2.row.keep hx hA.symm, h2.off⟩ (hM.apart hA fun a ha => (h2.row.at ha).2)
  · have e : iv .i64 (xs ++ [v]) = iv .i64 xs ++ [.int .i64 v] := by simp [iv]
    rw [e]
    exact hr
  · rcases hM with rfl | hM
    · exact h.off a ha
    · have := hM a ha
      refine ⟨fun hk => ?_, fun b hb e => ?_⟩
      · have := hP.lt _ hk
        omega
      · have := blk_lt (hP.st.kn b hb).1
        omega
end
end Go.Proofs.Ytamobmjfdiecbaa
