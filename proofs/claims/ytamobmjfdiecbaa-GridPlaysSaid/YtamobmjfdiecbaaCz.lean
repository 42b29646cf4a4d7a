/- Cz: clear(s[i:]) on a row of one's own. No condition. -/
import Derived.Test.YtamobmjfdiecbaaRn
import Derived.Laws.CopyRow
namespace Go.Sx
open Go Go.RowKit

theorem Row.take {w : World} {base : Nat} {e : TypeId} {p : Option Addr} {c : Nat} {xs : List Value} (h : Row w base e p c xs) (i : Nat) : Row w base e p c (xs.take i) := by
  rcases h.cases with ⟨rfl, rfl, rfl⟩ | ⟨g, cur, rfl, hb, hg, h1, h2, h3, h4⟩
  · simpa using Row.nil w base e
  · refine ⟨by simp, .inr ⟨g, c, cur, rfl, hb, hg, ?_, h2, by simpa using h3, ?_⟩⟩
    · simp; omega
    · rw [Nat.mul_one, ← h4]
      simp [List.take_take]

theorem rn_clear {P : Program} {t ty e : TypeId} {z : Value} {b : Nat} (ht : SlT P t e z b) (h1 : one z = true)
    {w : World} {base : Nat} {p : Option Addr} {c : Nat} {xs : List Value} (h : Row w base e p c xs) {i : Nat} (hi : i ≤ xs.length) {K : Value → World → Prop}
    (hK : ∀ w', Row w' base e p c (xs.take i) → Ext (blocks p) w w' → w'.heap.size = w.heap.size → K (.tuple #[]) w') :
    rn P (Builtin.clear_ #[t] ty #[.slice (slp p c i 1) (xs.length - i) (c - i)]) w K := by
  obtain ⟨inf, hinf, hz, hs, _⟩ := ht.inf
  by_cases h0 : xs.length - i = 0
  · have hr : (Builtin.clear_ #[t] ty #[.slice (slp p c i 1) (xs.length - i) (c - i)]).run P w = .ok (.tuple #[]) w := by
      rw [h0]
      cases slp p c i 1 <;> simp [Builtin.clear_, run_underlying ht.und]
    refine rn_mk hr (hK w ?_ (Ext.refl _ _) rfl)
    exact h.take i
  · rcases h.cases with ⟨_, _, rfl⟩ | ⟨g, cur, rfl, hb, hg, hl, hcm, hcs, htk⟩
    · simp at h0
    · have hsl : slp (some (⟨g, 0, none⟩ : Addr)) c i 1 = some ⟨g, i, none⟩ := by
        unfold slp
        rw [if_neg (by omega)]
        simp [add_mk]
      rw [hsl]
      have hzc : (Builtin.zeroCells z.cells (xs.length - i)).toList = List.replicate (xs.length - i) z := by
        rw [ht.cells]
        simp [Builtin.zeroCells]
        apply List.ext_getElem
        · simp
        · intro i h1 h2
          simp [Nat.mod_one]
      have hst := run_storeCells_at P g i e (List.replicate (xs.length - i) z) 0 cur w hg (by simp; omega) (by intro v hv; rw [List.eq_of_mem_replicate hv]; exact one_of h1)
      simp only [Nat.add_zero] at hst
      obtain ⟨m, hm⟩ : ∃ m, xs.length - i = m + 1 := ⟨xs.length - i - 1, by omega⟩
      have hv : (zeroValue e).run P w = .ok z w := by simp [zeroValue, typeInfo, hinf, hz]
      have hr : (Builtin.clear_ #[t] ty #[.slice (some ⟨g, i, none⟩) (xs.length - i) (c - i)]).run P w =
          .ok (.tuple #[]) (w.setRow g (cur.toList.take i ++ List.replicate (xs.length - i) z ++ cur.toList.drop (i + (List.replicate (xs.length - i) z).length)).toArray) := by
        rw [hm] at hst hzc ⊢
        simp [Builtin.clear_, run_underlying ht.und, hv, hzc, hst]
      refine rn_mk hr (hK _ ⟨by simp, .inr ⟨g, c, _, rfl, hb, setRow_heap w g cur _ e _ hg, ?_, hcm, ?_, ?_⟩⟩ ⟨rfl, rfl, rfl, by simp [World.setRow], fun k _ hk => setRow_other w g k _ fun e => hk ⟨_, rfl, e.symm⟩⟩ (by simp [World.setRow]))
      · simp; omega
      · simp; omega
      · have e : xs.take i = cur.toList.take i := by
          conv => lhs; rw [← htk]
          rw [List.take_take, Nat.min_eq_left hi]
        have hl2 : (xs.take i).length * 1 = i := by rw [Nat.mul_one, List.length_take]; omega
        rw [hl2, e, List.append_assoc, List.take_append_of_le_length (by simp; omega), List.take_take, Nat.min_self]
end Go.Sx
