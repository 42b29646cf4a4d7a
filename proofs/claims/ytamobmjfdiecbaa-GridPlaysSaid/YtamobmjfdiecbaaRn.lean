/- Rn: rows of one's own whose elements take several cells: appends, clones, writes, in the words of Sx. No condition. -/
import Derived.Test.YtamobmjfdiecbaaSk
namespace Go.Sx
open Go Go.RowKit

/-- a row of n elements of s cells each, of one's own -/
structure RowN (w : World) (base : Nat) (e : TypeId) (s : Nat) (p : Option Addr) (c n : Nat) (xs : List Value) : Prop where
  own : w.ownsRow base e s (.slice p n c) n xs

theorem RowN.nil (w : World) (base : Nat) (e : TypeId) (s : Nat) : RowN w base e s none 0 0 [] := ⟨World.ownsRow_nil w base e s⟩

theorem RowN.len {w : World} {base : Nat} {e : TypeId} {s : Nat} {p : Option Addr} {c n : Nat} {xs : List Value} (h : RowN w base e s p c n xs) : xs.length = n * s := h.own.1

theorem RowN.mono {w : World} {base base' : Nat} {e : TypeId} {s : Nat} {p : Option Addr} {c n : Nat} {xs : List Value} (h : RowN w base e s p c n xs) (hb : base' ≤ base) : RowN w base' e s p c n xs := by
  refine ⟨h.own.1, ?_⟩
  rcases h.own.2 with hx | ⟨g, cap, cur, hv, hb', rest⟩
  · exact .inl hx
  · exact .inr ⟨g, cap, cur, hv, Nat.le_trans hb hb', rest⟩

theorem RowN.cases {w : World} {base : Nat} {e : TypeId} {s : Nat} {p : Option Addr} {c n : Nat} {xs : List Value} (h : RowN w base e s p c n xs) :
    (p = none ∧ c = 0 ∧ n = 0 ∧ xs = []) ∨ ∃ g cur, p = some ⟨g, 0, none⟩ ∧ base ≤ g ∧ w.heap[g]? = some (.cells cur e (0, 0)) ∧ n ≤ c ∧ c ≤ maxLen ∧ cur.size = c * s ∧ cur.toList.take (n * s) = xs := by
  rcases h.own.2 with ⟨hv, hn⟩ | ⟨g, cap, cur, hv, hb, hg, h1, h2, h3, h4⟩
  · simp only [Value.slice.injEq] at hv
    have hl := h.own.1
    rw [hn] at hl
    exact .inl ⟨hv.1, hv.2.2, hn, List.eq_nil_of_length_eq_zero (by simpa using hl)⟩
  · simp only [Value.slice.injEq, true_and] at hv
    obtain ⟨rfl, rfl⟩ := hv
    exact .inr ⟨g, cur, rfl, hb, hg, h1, h2, h3, h4⟩

theorem RowN.at {w : World} {base : Nat} {e : TypeId} {s : Nat} {p : Option Addr} {c n : Nat} {xs : List Value} (h : RowN w base e s p c n xs) {a : Addr} (hp : p = some a) : base ≤ a.block ∧ a.block < w.heap.size := by
  rcases h.cases with ⟨rfl, _⟩ | ⟨g, cur, rfl, hb, hg, _⟩
  · cases hp
  · cases hp; exact ⟨hb, blk_lt hg⟩

theorem RowN.none {w : World} {base : Nat} {e : TypeId} {s : Nat} {p : Option Addr} {c n : Nat} {xs : List Value} (h : RowN w base e s p c n xs) (hp : p = none) : n = 0 ∧ xs = [] := by
  rcases h.cases with ⟨_, _, h1, h2⟩ | ⟨g, cur, rfl, _⟩
  · exact ⟨h1, h2⟩
  · cases hp

theorem RowN.le_max {w : World} {base : Nat} {e : TypeId} {s : Nat} {p : Option Addr} {c n : Nat} {xs : List Value} (h : RowN w base e s p c n xs) : n ≤ c := by
  rcases h.cases with ⟨_, rfl, rfl, _⟩ | ⟨g, cur, rfl, _, _, h, _⟩
  · exact Nat.le_refl _
  · exact h

theorem RowN.reads {w : World} {base : Nat} {e : TypeId} {s : Nat} {p : Option Addr} {c n : Nat} {xs : List Value} (h : RowN w base e s p c n xs) : Reads w p xs := by
  rcases h.cases with ⟨_, _, _, rfl⟩ | ⟨g, cur, rfl, hb, hg, h1, h2, h3, h4⟩
  · exact .inl rfl
  · refine .inr ⟨g, 0, rfl, fun i v hv => ?_⟩
    rw [blk_cell hg, Nat.zero_add]
    rw [← h4, List.getElem?_take] at hv
    split at hv
    · simpa using hv
    · cases hv

theorem RowN.ext {M : Nat → Prop} {w w' : World} (hx : Ext M w w') {base : Nat} {e : TypeId} {s : Nat} {p : Option Addr} {c n : Nat} {xs : List Value} (h : RowN w base e s p c n xs)
    (hm : ∀ a, p = some a → ¬ M a.block) : RowN w' base e s p c n xs := by
  refine ⟨hx.own h.own fun g hg => ?_⟩
  cases p with
  | none => simp [Value.ownBlock] at hg
  | some a =>
    simp only [Value.ownBlock, Option.some.injEq] at hg
    exact hg ▸ hm a rfl

theorem RowN.keep {w w' : World} {q : Option Addr} (hx : Ext (blocks q) w w') {base : Nat} {e : TypeId} {s : Nat} {p : Option Addr} {c n : Nat} {xs : List Value} (h : RowN w base e s p c n xs) (ha : Apart p q) : RowN w' base e s p c n xs :=
  h.ext hx fun a hp ⟨b, hb, hab⟩ => ha a b hp hb hab.symm

/-- one write to a row -/
theorem RowN.st {w : World} {base : Nat} {e : TypeId} {s : Nat} {p : Option Addr} {c n : Nat} {xs : List Value} (h : RowN w base e s p c n xs) {j : Nat} {u : Value} {K : World → Prop}
    (hj : j < xs.length) (ho : one u = true)
    (hK : ∀ w', RowN w' base e s p c n (xs.set j u) → Ext (blocks p) w w' → w'.heap.size = w.heap.size → K w') {a : Addr} (ha : p = some a) : Sx.st w (Addr.add a j) u K := by
  rcases h.cases with ⟨_, _, _, rfl⟩ | ⟨g, cur, rfl, hb, hg, h1, h2, h3, h4⟩
  · simp at hj
  · cases ha
    have hlen := h.len
    have hcn : n * s ≤ c * s := Nat.mul_le_mul_right _ h1
    rw [add_mk, Nat.zero_add]
    refine st_mk hg (by omega) ho (hK _ ?_ ((Ext.set w ⟨g, j, Option.none⟩ u).mono fun k _ hk => ⟨_, rfl, hk.symm⟩) (by simp [World.setCell]))
    refine ⟨by simpa using hlen, .inr ⟨g, c, cur.setIfInBounds j u, rfl, hb, blk_set hg _ _, h1, h2, by simpa using h3, ?_⟩⟩
    simp only [Array.toList_setIfInBounds]
    rw [List.take_set, h4]

/-- a type of slices whose elements take s cells -/
structure SlN (P : Program) (t e : TypeId) (s b : Nat) : Prop where
  und : P.underlying t = some (.slice e)
  inf : ∃ i z, P.info? e = some i ∧ i.zero = some z ∧ z.cells.size = s ∧ i.size = s ∧ i.bytes = b
  pos : 0 < s

section
variable {P : Program} {t ty e : TypeId} {s b : Nat}

theorem SlN.app (ht : SlN P t e s b)
    {w : World} {base : Nat} {p : Option Addr} {n c : Nat} {xs : List Value} (hown : RowN w base e s p c n xs) (hbase : base ≤ w.heap.size)
    {q : Option Addr} {m c' : Nat} {news : List Value} (hsrc : Reads w q news) (hm : news.length = m * s) (hq : q = none → m = 0) (h1 : ∀ u ∈ news, one u = true)
    (h63 : n + m ≤ maxLen) (hbytes : (n + m) * b ≤ 140737488355328) {K : Value → World → Prop}
    (hK : ∀ p' c'' w', RowN w' base e s p' c'' (n + m) (xs ++ news) → Ext (blocks p) w w' → Moved w p p' → (p' = none → n + m = 0) → K (.slice p' (n + m) c'') w') :
    rn P (Builtin.append_ #[t, t] ty #[.slice p n c, .slice q m c']) w K := by
  obtain ⟨i, z, hi, hz, hzs, hs, rfl⟩ := ht.inf
  have hsp := ht.pos
  have ho := hown.own
  have h1' : ∀ u ∈ news, u.oneCell' = true := fun u hu => one_of (h1 u hu)
  have hE : ∀ {w' : World} {r : Option Nat}, w.grownBy w' r → (∀ k, r = some k → blocks p k) → Ext (blocks p) w w' := fun hg hr =>
    (Ext.of_grown hg).mono fun k _ hk => hr k hk.symm
  by_cases h0 : news = []
  · have hm0 : m = 0 := by
      rw [h0, List.length_nil] at hm
      rcases Nat.mul_eq_zero.1 hm.symm with h | h
      · exact h
      · omega
    subst hm0
    subst h0
    have hr : (Builtin.append_ #[t, t] ty #[.slice p n c, .slice q 0 c']).run P w = .ok (.slice p n c) w := by
      rcases hown.cases with ⟨rfl, rfl, rfl, rfl⟩ | ⟨g, cur, rfl, _, _, hc, _⟩
      · cases q <;> simp [Builtin.append_, run_underlying ht.und, sizeOf, typeInfo, hi, Builtin.lenOf, Builtin.firstCells, loadCells, loadCellsFrom]
      · cases q <;> simp [Builtin.append_, run_underlying ht.und, sizeOf, typeInfo, hi, Builtin.lenOf, Builtin.firstCells, hc, storeCells, loadCells, loadCellsFrom]
    refine rn_mk hr ?_
    exact hK p c w (by simpa using hown) (Ext.refl _ _) (.inl rfl) fun hp => by simpa using (hown.none hp).1
  · rcases hsrc with h | ⟨b', o', rfl, hc⟩
    · exact absurd h h0
    have hnews : ∀ j u, news[j]? = some u → w.cell? ((⟨b', o', none⟩ : Addr).add j) = some u := by
      intro j u hu
      rw [add_mk]; exact hc j u hu
    have hmpos : 0 < m := by
      rcases Nat.eq_zero_or_pos m with h | h
      · rw [h] at hm
        exact absurd (List.eq_nil_of_length_eq_zero (by simpa using hm)) h0
      · exact h
    rcases hown.cases with ⟨rfl, rfl, rfl, rfl⟩ | ⟨g, cur, rfl, hbg, hg, hnc, hcm, hcs, htake⟩
    · have hnil : w.ownsRow w.heap.size e s (.slice none 0 0) 0 [] := World.ownsRow_nil w _ e s
      obtain ⟨v', w', hr, h2, h3, h4⟩ := run_append_own (P := P) w w.heap.size t ty e i z s i.bytes ht.und hi hz hs rfl hzs hsp (.slice none 0 0) 0 [] hnil ⟨b', o', none⟩ m c' news hm hnews h1' h63 hbytes (Nat.le_refl _)
      rcases h2.2 with ⟨_, hx⟩ | ⟨g, cap, cur, rfl, hb, _⟩
      · omega
      refine rn_mk hr ?_
      have hrow : RowN w' w.heap.size e s (some ⟨g, 0, none⟩) cap (0 + m) ([] ++ news) := ⟨h2⟩
      exact hK _ cap w' (hrow.mono hbase) (hE h3 (by simp [Value.ownBlock])) (.inr fun a ha => (hrow.at ha).1) (fun hp => by cases hp)
    · by_cases hroom : n + m ≤ c
      · obtain ⟨w', hr, h2, h3⟩ := run_append_fits (P := P) w base t ty e i s ht.und hi hs g n c xs ho ⟨b', o', none⟩ m c' news hm hnews h1' hroom
        exact rn_mk hr (hK _ c w' ⟨h2⟩ (hE h3 fun k hk => ⟨_, rfl, by simpa using hk⟩) (.inl rfl) (by simp))
      · have holds : ∀ j u, xs[j]? = some u → w.cell? ((⟨g, 0, none⟩ : Addr).add j) = some u := by
          intro j u hu
          rcases hown.reads with h | ⟨b2, o2, h, hc2⟩
          · rw [h] at hu; simp at hu
          · cases h; rw [add_mk]; exact hc2 j u hu
        obtain ⟨v', w', hr, h2, h3⟩ := run_append_arg_grows (P := P) w t ty e i z s i.bytes ht.und hi hz hs rfl hzs hsp ⟨g, 0, none⟩ n c xs hown.len holds ⟨b', o', none⟩ m c' news hm hnews (by omega) h63 hbytes
        rcases h2.2 with ⟨_, hx⟩ | ⟨g', cap, cur', rfl, hb, _⟩
        · omega
        have hrow : RowN w' w.heap.size e s (some ⟨g', 0, none⟩) cap (n + m) (xs ++ news) := ⟨h2⟩
        exact rn_mk hr (hK _ cap w' (hrow.mono hbase) (hE h3 (by simp)) (.inr fun a ha => (hrow.at ha).1) (fun hp => by cases hp))

/-- an append of one element, as the program writes it -/
theorem SlN.app1 (ht : SlN P t e s b)
    {w : World} {base : Nat} {p : Option Addr} {n c : Nat} {xs : List Value} (hown : RowN w base e s p c n xs) (hbase : base ≤ w.heap.size)
    {vs : List Value} {t' : TypeId} (hv : vs.length = s) (h1 : ∀ u ∈ vs, one u = true)
    (h63 : n + 1 ≤ maxLen) (hbytes : (n + 1) * b ≤ 140737488355328) {K : Value → World → Prop}
    (hK : ∀ p' c'' w', RowN w' base e s p' c'' (n + 1) (xs ++ vs) → Ext (blocks p) w w' → Moved w p p' → K (.slice p' (n + 1) c'') w') :
    nw w (.cells vs.toArray t') fun r w1 => rn P (Builtin.append_ #[t, t] ty #[.slice p n c, .slice (some ⟨r, 0, none⟩) 1 1]) w1 K := by
  have hx : Ext no w (w.alloc (.cells vs.toArray t')) := Ext.alloc w _
  refine ht.app (hown.ext hx fun _ _ h => h) (Nat.le_trans hbase hx.size) (Reads.new w vs t') (by simpa using hv) (fun h => by cases h) h1 h63 hbytes ?_
  intro p' c'' w' hr hE hmv _
  refine hK p' c'' w' hr ((Ext.of_no hx).then hE fun k _ hk => hk) ?_
  rcases hmv with h | h
  · exact .inl h
  · exact .inr fun a ha => Nat.le_trans hx.size (h a ha)

/-- make with room -/
theorem SlN.make0 (ht : SlN P t e s b)
    {w : World} {kl kc : IntKind} {c : Nat} (hbytes : b * c ≤ 281474976710656) (h63 : c ≤ maxLen) {K : Value → World → Prop}
    (hK : ∀ w', RowN w' w.heap.size e s (some ⟨w.heap.size, 0, none⟩) c 0 [] → Ext no w w' → K (.slice (some ⟨w.heap.size, 0, none⟩) 0 c) w') :
    rn P (Instr.makeSlice t (.int kl 0) (.int kc (c : Int))) w K := by
  obtain ⟨i, z, hi, hz, hzs, hs, rfl⟩ := ht.inf
  obtain ⟨w', hr, h2, h3⟩ := run_make_own (P := P) w w.heap.size t e i z s ht.und hi hz hs kl kc c hbytes h63 (Nat.le_refl _)
  exact rn_mk hr (hK w' ⟨h2⟩ ((Ext.of_grown h3).mono fun _ _ h => by simp at h))
end

/-- the cells of a list of things that take s cells each -/
theorem fl_lenN {α : Type} {f : α → List Value} {s : Nat} (hf : ∀ x, (f x).length = s) : ∀ l : List α, (l.flatMap f).length = l.length * s
  | [] => by simp
  | x :: l => by
    rw [List.flatMap_cons, List.length_append, hf, fl_lenN hf l, List.length_cons, Nat.add_mul, Nat.one_mul, Nat.add_comm]

theorem fl_getN {α : Type} {f : α → List Value} {s : Nat} (hf : ∀ x, (f x).length = s) : ∀ {l : List α} {i : Nat} {x : α}, l[i]? = some x → ∀ k, k < s → (l.flatMap f)[i * s + k]? = (f x)[k]?
  | [], _, _, h, _, _ => by simp at h
  | y :: l, 0, x, h, k, hk => by
    simp only [List.getElem?_cons_zero, Option.some.injEq] at h
    subst h
    rw [List.flatMap_cons, Nat.zero_mul, Nat.zero_add, List.getElem?_append_left (by rw [hf]; exact hk)]
  | y :: l, i + 1, x, h, k, hk => by
    rw [List.flatMap_cons, List.getElem?_append_right (by rw [hf, Nat.add_mul]; omega), hf]
    have e : (i + 1) * s + k - s = i * s + k := by rw [Nat.add_mul]; omega
    rw [e]
    exact fl_getN hf (by simpa using h) k hk

/-- one cell of an element of a slice that is read -/
theorem Reads.atN {α : Type} {f : α → List Value} {s : Nat} (hf : ∀ x, (f x).length = s) {w : World} {p : Option Addr} {l : List α} (hr : Reads w p (l.flatMap f)) {i n : Nat} (hn : l.length = n) {x : α} (hx : l[i]? = some x) (hs : 0 < s) {K : Addr → Prop}
    (hK : ∀ a, p = some a → (∀ k, k < s → w.cell? (Addr.add (Addr.add a (i * s)) k) = (f x)[k]?) → K a) :
    dr p fun a => bnd (i : Int) n (K a) := by
  have hi : i < l.length := (List.getElem?_eq_some_iff.1 hx).1
  rcases hr with h | ⟨b, o, rfl, hc⟩
  · have := fl_lenN hf l
    rw [h] at this
    have h2 : 0 < l.length * s := Nat.mul_pos (by omega) hs
    simp only [List.length_nil] at this
    omega
  · refine dr_i (bnd_mk (by omega) (by omega) (hK _ rfl fun k hk => ?_))
    rw [add_mk, add_mk]
    have h1 := fl_getN hf hx k hk
    have h2 : k < (f x).length := by rw [hf]; exact hk
    rw [List.getElem?_eq_getElem h2] at h1 ⊢
    rw [Nat.add_assoc]
    exact hc _ _ h1
end Go.Sx
