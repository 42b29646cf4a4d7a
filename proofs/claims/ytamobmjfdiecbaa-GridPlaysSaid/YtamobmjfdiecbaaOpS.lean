/- OpS: arguments laid open whose types are made of numbers, bools and strings alone, structs in structs too: what a reading says of their cells; slices of them. No condition. -/
import Derived.Test.YtamobmjfdiecbaaOp
import Derived.Deep.Slices
import Derived.DataReads
namespace Go.Sx
open Go Go.ChangeShapes Go.WideShapes Go.ChangeAt Go.RowKit

inductive Lf where
  | int (k : IntKind)
  | bool
  | str

def Fits : Lf → Value → Prop
  | .int k, v => ∃ n, v = .int k n ∧ (Lit.int k n).wf = true
  | .bool, v => ∃ b, v = .bool b
  | .str, v => ∃ s, v = .string s ∧ s.size ≤ maxLen

def FitsAll : List Lf → List Value → Prop
  | [], cs => cs = []
  | l :: ls, cs => ∃ v r, cs = v :: r ∧ Fits l v ∧ FitsAll ls r

theorem FitsAll.length : ∀ {ls : List Lf} {cs : List Value}, FitsAll ls cs → cs.length = ls.length
  | [], _, h => by rw [show _ = [] from h]; rfl
  | _ :: _, _, ⟨_, _, e, _, h⟩ => by rw [e]; simp [h.length]

theorem FitsAll.append : ∀ {a b : List Lf} {x y : List Value}, FitsAll a x → FitsAll b y → FitsAll (a ++ b) (x ++ y)
  | [], _, _, _, h, k => by rw [show _ = [] from h]; exact k
  | _ :: _, _, _, _, ⟨v, r, e, f, h⟩, k => ⟨v, _, by rw [e]; rfl, f, h.append k⟩

def lfsF (P : Program) (g : TypeId → Option (List Lf)) : List Field → Nat → Option (List Lf)
  | [], _ => some []
  | f :: r, o =>
    match g f.type with
    | some l => if f.offset = o ∧ P.cellsOf f.type = l.length then (lfsF P g r (o + l.length)).map (l ++ ·) else none
    | none => none

def lfs (P : Program) : Nat → TypeId → Option (List Lf)
  | 0, _ => none
  | n + 1, t =>
    match P.underlying t with
    | some .bool => some [.bool]
    | some (.int k) => some [.int k]
    | some .string => some [.str]
    | some (.struct fs) =>
      match lfsF P (lfs P n) fs.toList 0 with
      | some l => if P.cellsOf t = l.length then some l else none
      | none => none
    | _ => none

section
variable {H : Type} {enc : TypeId × Value → H} {P : Program} {W : World} {base : Nat} {spare : Nat → Bool} {held : Bool}

theorem trod_fits : ∀ (n : Nat) {t : TypeId} {fuel : Nat} {cs : List Value} {x : DataW H × List MemPlace} {ls : List Lf}, lfs P n t = some ls → DataW.trod enc P W base spare held fuel t cs = some x → FitsAll ls cs
  | 0, _, _, _, _, _, h, _ => by simp [lfs] at h
  | n + 1, t, fuel, cs, x, ls, h, ht => by
    unfold lfs at h
    split at h
    · rename_i hu
      simp only [Option.some.injEq] at h
      subst h
      obtain ⟨b, h1, _⟩ := DataW.trod_bool hu ht
      exact ⟨_, [], h1, ⟨b, rfl⟩, rfl⟩
    · rename_i k hu
      simp only [Option.some.injEq] at h
      subst h
      obtain ⟨m, h1, _, hw⟩ := DataW.trod_int hu ht
      exact ⟨_, [], h1, ⟨m, rfl, hw⟩, rfl⟩
    · rename_i hu
      simp only [Option.some.injEq] at h
      subst h
      obtain ⟨s, h1, _, hw⟩ := DataW.trod_string hu ht
      exact ⟨_, [], h1, ⟨s, rfl, hw⟩, rfl⟩
    · rename_i fs hu
      split at h
      · rename_i l hl
        split at h
        · rename_i hc
          simp only [Option.some.injEq] at h
          subst h
          obtain ⟨xs, m, _, _, hlen, hxs, hf⟩ := DataW.trod_struct hu ht
          have each : ∀ f ∈ fs.toList, ∃ y, DataW.trod enc P W base spare held m f.type ((cs.drop f.offset).take (P.cellsOf f.type)) = some y := by
            intro f hfm
            obtain ⟨i, hi⟩ := List.getElem?_of_mem hfm
            have hi' : fs[i]? = some f := by simpa using hi
            have hlt : i < xs.length := by
              rw [hxs]
              exact (Array.getElem?_eq_some_iff.1 hi').1
            exact ⟨xs[i], (hf i f hi').trans (List.getElem?_eq_getElem hlt)⟩
          have go : ∀ (r : List Field) (o : Nat) (l : List Lf), lfsF P (lfs P n) r o = some l → (∀ f ∈ r, ∃ y, DataW.trod enc P W base spare held m f.type ((cs.drop f.offset).take (P.cellsOf f.type)) = some y) → FitsAll l ((cs.drop o).take l.length) := by
            intro r
            induction r with
            | nil =>
              intro o l hr _
              simp only [lfsF, Option.some.injEq] at hr
              subst hr
              show List.take 0 _ = []
              simp
            | cons f r ih =>
              intro o l hr he
              simp only [lfsF] at hr
              split at hr
              · rename_i lf hlf
                split at hr
                · rename_i hoff
                  obtain ⟨l', hl', rfl⟩ := Option.map_eq_some_iff.1 hr
                  obtain ⟨y, hy⟩ := he f (List.mem_cons_self ..)
                  have h1 := trod_fits n hlf hy
                  rw [hoff.1, hoff.2] at h1
                  have h2 := ih _ _ hl' fun g hg => he g (List.mem_cons_of_mem _ hg)
                  rw [List.length_append, List.take_add, List.drop_drop]
                  exact h1.append h2
                · cases hr
              · cases hr
          have := go _ _ _ hl each
          rw [List.drop_zero, List.take_of_length_le (by rw [hlen, hc]; exact Nat.le_refl _)] at this
          exact this
        · cases h
      · cases h
    · cases h

theorem op_agg {t : TypeId} {fs : Array Field} {r : Reach} {b0 : Nat} {v : Value} {d : DataW H} {ps : List MemPlace} (hs : P.underlying t = some (.struct fs)) (hv : Value.okWide P W r b0 t v)
    (h : DataW.Trod enc P W base spare held t v d ps) {n : Nat} {ls : List Lf} (hl : lfs P n t = some ls) : ∃ cs : List Value, v = .agg cs.toArray ∧ FitsAll ls cs := by
  obtain ⟨cs, rfl, _⟩ := okWide_struct hs hv
  obtain ⟨fuel, hf⟩ := h
  exact ⟨cs.toList, by simp, trod_fits n hl hf⟩

theorem flat_get {α : Type} {C : Nat} (hC : 0 < C) : ∀ {chunks : List (List α)} (k : Nat), (∀ c ∈ chunks, c.length = C) → chunks.flatten[k]? = (chunks[k / C]?).bind fun c => c[k % C]?
  | [], k, _ => by simp
  | c :: r, k, h => by
    have hc := h c (List.mem_cons_self ..)
    rw [List.flatten_cons]
    by_cases hk : k < C
    · rw [List.getElem?_append_left (by omega), Nat.div_eq_of_lt hk, Nat.mod_eq_of_lt hk]
      simp
    · rw [List.getElem?_append_right (by omega), hc, flat_get hC _ fun c' hc' => h c' (List.mem_cons_of_mem _ hc')]
      have e1 : k / C = (k - C) / C + 1 := by
        have : k = (k - C) + C := by omega
        rw [this, Nat.add_div_right _ hC]
        simp
      have e2 : k % C = (k - C) % C := by
        have : k = (k - C) + C := by omega
        rw [this, Nat.add_mod_right]
        simp
      rw [e1, e2]
      simp

theorem op_slice {t e : TypeId} {a : Option Addr} {len cap : Nat} {d : DataW H} {ps : List MemPlace} {ts : List TypeId} {ds : List (DataW H)} {j : Nat}
    (hsz : (DataW.weightsEach P ts ds).all (· ≤ reachBytes) = true) (ht : ts[j]? = some t) (hd : ds[j]? = some d) (hu : P.underlying t = some (.slice e)) {n : Nat} {ls : List Lf} (hl : lfs P n e = some ls) (hpos : 0 < ls.length) (hC : P.cellsOf e = ls.length) {B : Nat} (hB : P.bytesOf e = B)
    (h : DataW.Trod enc P W base (fun _ => true) true t (.slice a len cap) d ps) :
    ∃ chunks : List (List Value), Reads W a chunks.flatten ∧ chunks.length = len ∧ (∀ c ∈ chunks, FitsAll ls c) ∧ len * B ≤ 140737488351232 := by
  obtain ⟨fuel, hf⟩ := h
  rcases DataW.trod_slice hu hf with ⟨hcs, _⟩ | ⟨x, l, c, elems, rest, m, _, hcs, hx, _, _, _, hel, hat, _⟩
  · simp [Value.cells] at hcs
    obtain ⟨rfl, rfl, rfl⟩ := hcs
    exact ⟨[], .inl rfl, rfl, by simp, by simp⟩
  · simp [Value.cells] at hcs
    obtain ⟨rfl, rfl, rfl⟩ := hcs
    obtain ⟨hx, _⟩ := Prod.mk.inj hx
    have each : ∀ i, i < len → ∃ cs, W.cells? base (x.add (i * ls.length)) ls.length = some cs ∧ FitsAll ls cs := by
      intro i hi
      have := hat i hi
      rw [List.getElem?_eq_getElem (by omega), hC] at this
      cases hcc : W.cells? base (x.add (i * ls.length)) ls.length with
      | none => rw [hcc] at this; simp at this
      | some cs =>
        rw [hcc] at this
        exact ⟨cs, rfl, trod_fits n hl this⟩
    refine ⟨(List.range len).map fun i => (W.cells? base (x.add (i * ls.length)) ls.length).getD [], ?_, by simp, ?_, ?_⟩
    · refine reads_of fun k v hv => ?_
      have hall : ∀ c ∈ ((List.range len).map fun i => (W.cells? base (x.add (i * ls.length)) ls.length).getD []), c.length = ls.length := by
        intro c hc
        simp only [List.mem_map, List.mem_range] at hc
        obtain ⟨i, hi, rfl⟩ := hc
        obtain ⟨cs, h1, h2⟩ := each i hi
        rw [h1]
        exact h2.length
      rw [flat_get hpos k hall] at hv
      obtain ⟨c, hc, hv⟩ := Option.bind_eq_some_iff.1 hv
      have hi : k / ls.length < len := by
        have := (List.getElem?_eq_some_iff.1 hc).1
        simpa using this
      obtain ⟨cs, h1, h2⟩ := each _ hi
      simp [hi, h1] at hc
      subst hc
      obtain ⟨_, _, hcell⟩ := World.cells?_some h1
      have hm : k % ls.length < ls.length := Nat.mod_lt _ hpos
      have := hcell _ hm
      rw [Go.Deep.add_add] at this
      have ek : k / ls.length * ls.length + k % ls.length = k := by
        rw [Nat.mul_comm]
        exact Nat.div_add_mod k ls.length
      rw [ek] at this
      rw [this, hv]
    · intro c hc
      simp only [List.mem_map, List.mem_range] at hc
      obtain ⟨i, hi, rfl⟩ := hc
      obtain ⟨cs, h1, h2⟩ := each i hi
      rw [h1]
      exact h2
    · have hd' := hd
      rw [hx] at hd'
      have z := sized_slice hsz ht hd' hu
      rw [hB] at z
      refine Nat.le_trans (Nat.mul_le_mul_right _ ?_) z
      simp
      omega
end
end Go.Sx
