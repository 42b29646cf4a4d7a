/- BoxN: the plain law of pushes in two steps, and of rows in another order. No condition beyond each theorem's own. -/
import Derived.Test.YtfeplleoedlicaaBoxM
namespace Go.Proofs.Ytfeplleoedlicaa
open Go Go.Sx

def way (s : Int) (a : Bx) (k : Bool) (bs : List Bx) (m : Int) : Int := (pushF s a k bs 0 (m, -1)).1

theorem way_le (s : Int) (a : Bx) (k : Bool) (bs : List Bx) (m : Int) : way s a k bs m ≤ m := pushF_le s a k bs 0 (m, -1)
theorem way_blk {s : Int} {a : Bx} {k : Bool} {bs : List Bx} {m : Int} {b : Bx} (hb : b ∈ bs) (h : Blk s a k b) : way s a k bs m ≤ gap a b k := pushF_blk s a k bs 0 (m, -1) b hb h
theorem way_is (s : Int) (a : Bx) (k : Bool) (bs : List Bx) (m : Int) : way s a k bs m = m ∨ ∃ b ∈ bs, Blk s a k b ∧ gap a b k < m ∧ way s a k bs m = gap a b k := by
  rcases pushF_who s a k bs 0 (m, -1) with h | ⟨j, b, hj, hb, hlt, h⟩
  · exact .inl (by unfold way; rw [h])
  · exact .inr ⟨b, List.mem_of_getElem? hj, hb, hlt, by unfold way; rw [h]⟩

/-- how far one comes is told by these three -/
theorem way_eq {s : Int} {a : Bx} {k : Bool} {bs : List Bx} {m x : Int} (h1 : x ≤ m) (h2 : ∀ b ∈ bs, Blk s a k b → x ≤ gap a b k) (h3 : x = m ∨ ∃ b ∈ bs, Blk s a k b ∧ x = gap a b k) : way s a k bs m = x := by
  have l1 := way_le s a k bs m
  rcases way_is s a k bs m with h | ⟨b, hb, hk, _, h⟩
  · rcases h3 with h3 | ⟨b', hb', hk', h3⟩
    · omega
    · have := way_blk (m := m) hb' hk'
      omega
  · have l2 := h2 b hb hk
    rcases h3 with h3 | ⟨b', hb', hk', h3⟩
    · omega
    · have := way_blk (m := m) hb' hk'
      omega

theorem way_nn {s : Int} {a : Bx} {k : Bool} {bs : List Bx} {m : Int} (h : 0 ≤ m) : 0 ≤ way s a k bs m := pushF_nn (p := (m, -1)) h

/-- who is told of -/
theorem who_is (s : Int) (a : Bx) (k : Bool) (bs : List Bx) (m : Int) : (pushF s a k bs 0 (m, -1)).2 = -1 ∧ way s a k bs m = m ∨ 0 ≤ (pushF s a k bs 0 (m, -1)).2 ∧ way s a k bs m < m := by
  rcases pushF_who s a k bs 0 (m, -1) with h | ⟨j, b, _, _, hlt, h⟩
  · left
    unfold way
    rw [h]
    exact ⟨rfl, rfl⟩
  · right
    unfold way
    rw [h]
    exact ⟨by simp only; omega, hlt⟩

theorem way_set {s : Int} {a : Bx} {k : Bool} {bs cs : List Bx} {m : Int} (h : ∀ b, b ∈ bs ↔ b ∈ cs) : way s a k bs m = way s a k cs m := by
  refine way_eq (way_le _ _ _ _ _) (fun b hb hk => way_blk ((h b).1 hb) hk) ?_
  rcases way_is s a k cs m with h' | ⟨b, hb, hk, _, h'⟩
  · exact .inl h'
  · exact .inr ⟨b, (h b).2 hb, hk, h'⟩

theorem blk_to {s : Int} (hs : s = -1 ∨ s = 1) {a o : Bx} {k : Bool} {c : Int} (ha : 1 ≤ a.r) (ho : 1 ≤ o.r) (h : Blk s a k o) (hg : c ≤ gap a o k) :
    Blk s (a.moved k (s * c)) k o ∧ gap (a.moved k (s * c)) o k = gap a o k - c := by
  obtain ⟨h1, h2, h3⟩ := h
  unfold Blk
  rw [gap_moved', gap_moved, moved_at]
  have hga : gap a o k = adiff (a.at k) (o.at k) - a.r - o.r := rfl
  rw [hga] at h2 hg ⊢
  generalize a.at k = p at *
  generalize o.at k = q at *
  rcases hs with rfl | rfl
  · rcases adiff_cases p q with ⟨e, _⟩ | ⟨e, _⟩ <;> rw [e] at h2 hg ⊢
    · rcases adiff_cases (p + -1 * c) q with ⟨e', _⟩ | ⟨e', _⟩ <;> rw [e'] <;> exact ⟨⟨by omega, by omega, h3⟩, by omega⟩
    · omega
  · rcases adiff_cases p q with ⟨e, _⟩ | ⟨e, _⟩ <;> rw [e] at h2 hg ⊢
    · omega
    · rcases adiff_cases (p + 1 * c) q with ⟨e', _⟩ | ⟨e', _⟩ <;> rw [e'] <;> exact ⟨⟨by omega, by omega, h3⟩, by omega⟩

theorem blk_from {s : Int} (hs : s = -1 ∨ s = 1) {a o : Bx} {k : Bool} {c : Int} (hc : 0 ≤ c) (ha : 1 ≤ a.r) (ho : 1 ≤ o.r) (h : Blk s (a.moved k (s * c)) k o) :
    Blk s a k o ∧ gap a o k = gap (a.moved k (s * c)) o k + c := by
  unfold Blk at h
  rw [gap_moved', gap_moved, moved_at] at h
  obtain ⟨h1, h2, h3⟩ := h
  unfold Blk
  rw [gap_moved]
  have hga : gap a o k = adiff (a.at k) (o.at k) - a.r - o.r := rfl
  rw [hga]
  generalize a.at k = p at *
  generalize o.at k = q at *
  rcases hs with rfl | rfl
  · rcases adiff_cases (p + -1 * c) q with ⟨e', _⟩ | ⟨e', _⟩ <;> rw [e'] at h2 ⊢
    · rcases adiff_cases p q with ⟨e, _⟩ | ⟨e, _⟩ <;> rw [e]
      · exact ⟨⟨by omega, by omega, h3⟩, by omega⟩
      · omega
    · omega
  · rcases adiff_cases (p + 1 * c) q with ⟨e', _⟩ | ⟨e', _⟩ <;> rw [e'] at h2 ⊢
    · omega
    · rcases adiff_cases p q with ⟨e, _⟩ | ⟨e, _⟩ <;> rw [e]
      · omega
      · exact ⟨⟨by omega, by omega, h3⟩, by omega⟩

/-- stopped at once -/
theorem way_more {s : Int} {a : Bx} {k : Bool} {bs : List Bx} {m m' : Int} (hm : m ≤ m') (h : way s a k bs m ≠ m) : way s a k bs m' = way s a k bs m := by
  refine way_eq (Int.le_trans (way_le _ _ _ _ _) hm) (fun b hb hk => way_blk hb hk) ?_
  rcases way_is s a k bs m with h' | ⟨b, hb, hk, _, h'⟩
  · exact absurd h' h
  · exact .inr ⟨b, hb, hk, h'⟩

/-- in two steps -/
theorem way_two {s : Int} (hs : s = -1 ∨ s = 1) {a : Bx} {k : Bool} {bs : List Bx} {m n : Int} (hm : 0 ≤ m) (ha : 1 ≤ a.r) (hbs : ∀ b ∈ bs, 1 ≤ b.r) (h : way s a k bs m = m) :
    way s a k bs (m + n) = m + way s (a.moved k (s * m)) k bs n := by
  refine way_eq ?_ ?_ ?_
  · have := way_le s (a.moved k (s * m)) k bs n
    omega
  · intro b hb hk
    have hg := way_blk (m := m) hb hk
    rw [h] at hg
    obtain ⟨hk', e⟩ := blk_to hs ha (hbs b hb) hk hg
    have := way_blk (m := n) hb hk'
    omega
  · rcases way_is s (a.moved k (s * m)) k bs n with h' | ⟨b, hb, hk, _, h'⟩
    · exact .inl (by rw [h'])
    · obtain ⟨hk', e⟩ := blk_from hs hm ha (hbs b hb) hk
      exact .inr ⟨b, hb, hk', by rw [h', e]; omega⟩
end Go.Proofs.Ytfeplleoedlicaa
