/- BoxM: the plain law of pushes: how far, who, and that nobody is gone through. No condition beyond each theorem's own. -/
import Derived.Test.YtfeplleoedlicaaBoxL1
namespace Go.Proofs.Ytfeplleoedlicaa
open Go Go.Sx

/-- b stands in the way -/
def Blk (s : Int) (a : Bx) (k : Bool) (b : Bx) : Prop := 0 < s * (b.at k - a.at k) ∧ 0 ≤ gap a b k ∧ gap a b (!k) < 0

theorem pushF_le (s : Int) (a : Bx) (k : Bool) : ∀ (bs : List Bx) (i : Int) (p : Int × Int), (pushF s a k bs i p).1 ≤ p.1
  | [], _, p => Int.le_refl _
  | b :: bs, i, p => by
    simp only [pushF]
    refine Int.le_trans (pushF_le s a k bs (i + 1) _) ?_
    unfold stepP
    split
    · rename_i h
      exact Int.le_of_lt h.2.2.1
    · exact Int.le_refl _

theorem pushF_blk (s : Int) (a : Bx) (k : Bool) : ∀ (bs : List Bx) (i : Int) (p : Int × Int) (b : Bx), b ∈ bs → Blk s a k b → (pushF s a k bs i p).1 ≤ gap a b k
  | [], _, _, _, h, _ => by cases h
  | c :: bs, i, p, b, h, hb => by
    simp only [pushF]
    rcases List.mem_cons.1 h with rfl | h
    · refine Int.le_trans (pushF_le s a k bs (i + 1) _) ?_
      unfold stepP
      split
      · exact Int.le_refl _
      · rename_i hn
        have : ¬ gap a b k < p.1 := fun hlt => hn ⟨hb.1, hb.2.1, hlt, hb.2.2⟩
        omega
    · exact pushF_blk s a k bs (i + 1) _ b h hb

theorem pushF_who (s : Int) (a : Bx) (k : Bool) : ∀ (bs : List Bx) (i : Int) (p : Int × Int), pushF s a k bs i p = p ∨ ∃ (j : Nat) (b : Bx), bs[j]? = some b ∧ Blk s a k b ∧ gap a b k < p.1 ∧ pushF s a k bs i p = (gap a b k, i + j)
  | [], _, p => .inl rfl
  | c :: bs, i, p => by
    simp only [pushF]
    rcases pushF_who s a k bs (i + 1) (stepP s a k c i p) with h | ⟨j, b, hj, hb, hlt, h⟩
    · rw [h]
      unfold stepP
      split
      · rename_i hc
        exact .inr ⟨0, c, rfl, ⟨hc.1, hc.2.1, hc.2.2.2⟩, hc.2.2.1, by simp⟩
      · exact .inl rfl
    · refine .inr ⟨j + 1, b, by simpa using hj, hb, ?_, by rw [h]; simp; omega⟩
      refine Int.lt_of_lt_of_le hlt ?_
      unfold stepP
      split
      · rename_i hc
        exact Int.le_of_lt hc.2.2.1
      · exact Int.le_refl _

theorem pushF_nn {s : Int} {a : Bx} {k : Bool} {bs : List Bx} {i : Int} {p : Int × Int} (h : 0 ≤ p.1) : 0 ≤ (pushF s a k bs i p).1 := by
  rcases pushF_who s a k bs i p with h' | ⟨j, b, _, hb, _, h'⟩
  · rw [h']; exact h
  · rw [h']; exact hb.2.1

theorem sgn_cases (d : Int) : sgn d = -1 ∧ d < 0 ∧ mag d = -d ∨ sgn d = 1 ∧ 0 ≤ d ∧ mag d = d := by
  unfold sgn mag
  by_cases h : d < 0
  · exact .inl ⟨by rw [if_pos h], h, by rw [if_pos h]⟩
  · exact .inr ⟨by rw [if_neg h], by omega, by rw [if_neg h]⟩

def Bx.moved (a : Bx) (k : Bool) (c : Int) : Bx := if k then ⟨a.x, a.y + c, a.r⟩ else ⟨a.x + c, a.y, a.r⟩
theorem moved_at (a : Bx) (k : Bool) (c : Int) : (a.moved k c).at k = a.at k + c := by cases k <;> rfl
theorem moved_at' (a : Bx) (k : Bool) (c : Int) : (a.moved k c).at (!k) = a.at (!k) := by cases k <;> rfl
theorem moved_r (a : Bx) (k : Bool) (c : Int) : (a.moved k c).r = a.r := by cases k <;> rfl
theorem gap_moved' (a b : Bx) (k : Bool) (c : Int) : gap (a.moved k c) b (!k) = gap a b (!k) := by unfold gap; rw [moved_at', moved_r]
theorem gap_moved (a b : Bx) (k : Bool) (c : Int) : gap (a.moved k c) b k = adiff (a.at k + c) (b.at k) - a.r - b.r := by unfold gap; rw [moved_at, moved_r]

theorem adiff_cases (p q : Int) : adiff p q = p - q ∧ q ≤ p ∨ adiff p q = q - p ∧ p < q := by
  unfold adiff
  split
  · exact .inr ⟨rfl, by omega⟩
  · exact .inl ⟨rfl, by omega⟩

/-- who is pushed comes to stand against nobody whom it did not meet before -/
theorem no_through {a o : Bx} {bs : List Bx} {k : Bool} {d : Int} (ha : 1 ≤ a.r) (ho : 1 ≤ o.r) (hm : o ∈ bs) (hno : ¬ (gap a o k < 0 ∧ gap a o (!k) < 0)) :
    ¬ (gap (a.moved k (sgn d * (pushF (sgn d) a k bs 0 (mag d, -1)).1)) o k < 0 ∧ gap (a.moved k (sgn d * (pushF (sgn d) a k bs 0 (mag d, -1)).1)) o (!k) < 0) := by
  rintro ⟨h1, h2⟩
  have hmag : 0 ≤ mag d := by rcases sgn_cases d with ⟨_, _, h⟩ | ⟨_, _, h⟩ <;> omega
  have hnn : 0 ≤ (pushF (sgn d) a k bs 0 (mag d, -1)).1 := pushF_nn (p := (mag d, -1)) hmag
  have hblk := pushF_blk (sgn d) a k bs 0 (mag d, -1) o hm
  rw [gap_moved'] at h2
  rw [gap_moved] at h1
  have hg : 0 ≤ gap a o k := by
    by_cases h : gap a o k < 0
    · exact absurd ⟨h, h2⟩ hno
    · omega
  generalize (pushF (sgn d) a k bs 0 (mag d, -1)).1 = way at *
  have hga : gap a o k = adiff (a.at k) (o.at k) - a.r - o.r := rfl
  rw [hga] at hblk hg
  have hb : 0 < sgn d * (o.at k - a.at k) → way ≤ adiff (a.at k) (o.at k) - a.r - o.r := fun hs => hblk ⟨hs, by rw [hga]; exact hg, h2⟩
  generalize a.at k = p at *
  generalize o.at k = q at *
  rcases sgn_cases d with ⟨hs, _, _⟩ | ⟨hs, _, _⟩ <;> rw [hs] at hb h1
  · rcases adiff_cases p q with ⟨e, _⟩ | ⟨e, _⟩ <;> rw [e] at hg hb
    · have := hb (by omega)
      rcases adiff_cases (p + -1 * way) q with ⟨e', _⟩ | ⟨e', _⟩ <;> rw [e'] at h1 <;> omega
    · rcases adiff_cases (p + -1 * way) q with ⟨e', _⟩ | ⟨e', _⟩ <;> rw [e'] at h1 <;> omega
  · rcases adiff_cases p q with ⟨e, _⟩ | ⟨e, _⟩ <;> rw [e] at hg hb
    · rcases adiff_cases (p + 1 * way) q with ⟨e', _⟩ | ⟨e', _⟩ <;> rw [e'] at h1 <;> omega
    · have := hb (by omega)
      rcases adiff_cases (p + 1 * way) q with ⟨e', _⟩ | ⟨e', _⟩ <;> rw [e'] at h1 <;> omega

/-- who is stopped stands against the one that stops it; one step more meets it -/
theorem stopped_at {a o : Bx} {k : Bool} {s : Int} (hs : s = -1 ∨ s = 1) (ha : 1 ≤ a.r) (ho : 1 ≤ o.r) (hb : Blk s a k o) :
    gap (a.moved k (s * gap a o k)) o k = 0 ∧ gap (a.moved k (s * gap a o k + s)) o k < 0 ∧ gap (a.moved k (s * gap a o k + s)) o (!k) < 0 := by
  obtain ⟨h1, h2, h3⟩ := hb
  rw [gap_moved', gap_moved, gap_moved]
  refine ⟨?_, ?_, h3⟩
  · have hga : gap a o k = adiff (a.at k) (o.at k) - a.r - o.r := rfl
    rw [hga] at h2 ⊢
    generalize a.at k = p at *
    generalize o.at k = q at *
    rcases hs with rfl | rfl
    · rcases adiff_cases p q with ⟨e, _⟩ | ⟨e, _⟩ <;> rw [e] at h2 ⊢
      · rcases adiff_cases (p + -1 * (p - q - a.r - o.r)) q with ⟨e', _⟩ | ⟨e', _⟩ <;> rw [e'] <;> omega
      · omega
    · rcases adiff_cases p q with ⟨e, _⟩ | ⟨e, _⟩ <;> rw [e] at h2 ⊢
      · omega
      · rcases adiff_cases (p + 1 * (q - p - a.r - o.r)) q with ⟨e', _⟩ | ⟨e', _⟩ <;> rw [e'] <;> omega
  · have hga : gap a o k = adiff (a.at k) (o.at k) - a.r - o.r := rfl
    rw [hga] at h2 ⊢
    generalize a.at k = p at *
    generalize o.at k = q at *
    rcases hs with rfl | rfl
    · rcases adiff_cases p q with ⟨e, _⟩ | ⟨e, _⟩ <;> rw [e] at h2 ⊢
      · rcases adiff_cases (p + (-1 * (p - q - a.r - o.r) + -1)) q with ⟨e', _⟩ | ⟨e', _⟩ <;> rw [e'] <;> omega
      · omega
    · rcases adiff_cases p q with ⟨e, _⟩ | ⟨e, _⟩ <;> rw [e] at h2 ⊢
      · omega
      · rcases adiff_cases (p + (1 * (q - p - a.r - o.r) + 1)) q with ⟨e', _⟩ | ⟨e', _⟩ <;> rw [e'] <;> omega
end Go.Proofs.Ytfeplleoedlicaa
