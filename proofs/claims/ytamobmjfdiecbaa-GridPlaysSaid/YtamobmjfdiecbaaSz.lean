/- Sz: rows of memory of the calls' own, in the words of Sx: appends, makes, copies of bytes to strings, and the words' rules as the walks apply them. No condition. -/
import Derived.Test.YtamobmjfdiecbaaSy
import Derived.Laws.BytesArg
import Derived.Lib.Bytes
namespace Go.Sx
open Go Go.RowKit

/-! ### The words' rules -/
theorem asI_i {k : IntKind} {v : Value} {x : Int} {K : Int → Prop} (e : v = .int k x) (h : K x) : asI k v K := ⟨x, e, h⟩
theorem asB_i {v : Value} {x : Bool} {K : Bool → Prop} (e : v = .bool x) (h : K x) : asB v K := ⟨x, e, h⟩
theorem asP_i {v : Value} {x : Option Addr} {K : Option Addr → Prop} (e : v = .pointer x) (h : K x) : asP v K := ⟨x, e, h⟩
theorem asS_i {v : Value} {p : Option Addr} {n c : Nat} {K : Option Addr → Nat → Nat → Prop} (e : v = .slice p n c) (h : K p n c) : asS v K := ⟨p, n, c, e, h⟩
theorem asY_i {v : Value} {x : ByteArray} {K : ByteArray → Prop} (e : v = .string x) (h : K x) : asY v K := ⟨x, e, h⟩
theorem asM_i {v : Value} {x : Option Nat} {K : Option Nat → Prop} (e : v = .map x) (h : K x) : asM v K := ⟨x, e, h⟩
theorem asF_i {k : FloatKind} {v : Value} {x : Nat} {K : Nat → Prop} (e : v = .float k x) (h : K x) : asF k v K := ⟨x, e, h⟩
theorem asA_i {n : Nat} {v : Value} {l : List Value} {K : (Nat → Value) → Prop} (e : v = .agg l.toArray) (hl : l.length = n) (h : K (fun i => l.getD i undef)) : asA n v K := ⟨l, e, hl, h⟩
theorem asT_i {n : Nat} {v : Value} {l : List Value} {K : (Nat → Value) → Prop} (e : v = .tuple l.toArray) (hl : l.length = n) (h : K (fun i => l.getD i undef)) : asT n v K := ⟨l, e, hl, h⟩
/-- a meeting, by what holds there -/
theorem jn_of {K : List Value → World → Prop} {B : (List Value → World → Prop) → Prop} (R : List Value → World → Prop) (hK : ∀ s w, R s w → K s w)
    (hB : ∀ J : List Value → World → Prop, (∀ s w, R s w → J s w) → B J) : jn K B := hB K hK
theorem lv_i {x : Int} {K : Int → Prop} (h : K x) : lv x K := h
theorem dr_i {a : Addr} {K : Addr → Prop} (h : K a) : dr (some a) K := h
theorem hd_i {w : World} {a : Addr} {v : Value} {X : Prop} (h1 : w.cell? a = some v) (h : X) : hd w a v X := ⟨h1, h⟩

/-! ### Rows -/
structure Row (w : World) (base : Nat) (e : TypeId) (p : Option Addr) (c : Nat) (xs : List Value) : Prop where
  own : w.ownsRow base e 1 (.slice p xs.length c) xs.length xs

def blocks (p : Option Addr) : Nat → Prop := fun k => ∃ a, p = some a ∧ a.block = k
/-- where a row lies after it has grown -/
def Moved (w : World) (p p' : Option Addr) : Prop := p' = p ∨ ∀ a, p' = some a → w.heap.size ≤ a.block

theorem Row.nil (w : World) (base : Nat) (e : TypeId) : Row w base e none 0 [] := ⟨World.ownsRow_nil w base e 1⟩

theorem Row.mono {w : World} {base base' : Nat} {e : TypeId} {p : Option Addr} {c : Nat} {xs : List Value} (h : Row w base e p c xs) (hb : base' ≤ base) : Row w base' e p c xs := by
  refine ⟨h.own.1, ?_⟩
  rcases h.own.2 with hx | ⟨g, cap, cur, hv, hb', rest⟩
  · exact .inl hx
  · exact .inr ⟨g, cap, cur, hv, Nat.le_trans hb hb', rest⟩

theorem Row.cases {w : World} {base : Nat} {e : TypeId} {p : Option Addr} {c : Nat} {xs : List Value} (h : Row w base e p c xs) :
    (p = none ∧ c = 0 ∧ xs = []) ∨ ∃ g cur, p = some ⟨g, 0, none⟩ ∧ base ≤ g ∧ w.heap[g]? = some (.cells cur e (0, 0)) ∧ xs.length ≤ c ∧ c ≤ maxLen ∧ cur.size = c ∧ cur.toList.take xs.length = xs := by
  rcases h.own.2 with ⟨hv, hn⟩ | ⟨g, cap, cur, hv, hb, hg, h1, h2, h3, h4⟩
  · simp only [Value.slice.injEq] at hv
    exact .inl ⟨hv.1, hv.2.2, List.eq_nil_of_length_eq_zero hn⟩
  · simp only [Value.slice.injEq, true_and] at hv
    obtain ⟨rfl, rfl⟩ := hv
    exact .inr ⟨g, cur, rfl, hb, hg, h1, h2, by simpa using h3, by simpa using h4⟩

theorem Row.at {w : World} {base : Nat} {e : TypeId} {p : Option Addr} {c : Nat} {xs : List Value} (h : Row w base e p c xs) {a : Addr} (hp : p = some a) : base ≤ a.block ∧ a.block < w.heap.size := by
  rcases h.cases with ⟨rfl, _⟩ | ⟨g, cur, rfl, hb, hg, _⟩
  · cases hp
  · cases hp; exact ⟨hb, blk_lt hg⟩

theorem Row.reads {w : World} {base : Nat} {e : TypeId} {p : Option Addr} {c : Nat} {xs : List Value} (h : Row w base e p c xs) : Reads w p xs := by
  obtain ⟨p', c', hv, hr, _⟩ := own_reads h.own
  cases hv; exact hr

theorem Row.ext {M : Nat → Prop} {w w' : World} (hx : Ext M w w') {base : Nat} {e : TypeId} {p : Option Addr} {c : Nat} {xs : List Value} (h : Row w base e p c xs)
    (hm : ∀ a, p = some a → ¬ M a.block) : Row w' base e p c xs := by
  refine ⟨hx.own h.own fun g hg => ?_⟩
  cases p with
  | none => simp [Value.ownBlock] at hg
  | some a =>
    simp only [Value.ownBlock, Option.some.injEq] at hg
    exact hg ▸ hm a rfl

/-- a write to a row -/
theorem Row.st {w : World} {base : Nat} {e : TypeId} {p : Option Addr} {c : Nat} {xs : List Value} (h : Row w base e p c xs) {i : Int} {n : Nat} {u : Value} {K : World → Prop}
    (h0 : 0 ≤ i) (hj : i.toNat < xs.length) (hn : xs.length ≤ n) (ho : one u = true)
    (hK : ∀ w', Row w' base e p c (xs.set i.toNat u) → Ext (blocks p) w w' → w'.heap.size = w.heap.size → K w') : dr p fun a => bnd i n (st w (Addr.add a (Int.toNat i * 1)) u K) := by
  rcases h.cases with ⟨_, _, rfl⟩ | ⟨g, cur, rfl, hb, hg, h1, h2, h3, h4⟩
  · simp at hj
  · refine dr_i (bnd_mk h0 (by omega) ?_)
    rw [Nat.mul_one, add_mk, Nat.zero_add]
    refine st_mk hg (by omega) ho (hK _ ?_ ((Ext.set w ⟨g, i.toNat, none⟩ u).mono fun k _ hk => ⟨_, rfl, hk.symm⟩) (by simp [World.setCell]))
    refine ⟨by simp, .inr ⟨g, c, cur.setIfInBounds i.toNat u, by simp, hb, blk_set hg _ _, by simpa using h1, h2, by simpa using h3, ?_⟩⟩
    simp only [List.length_set, Nat.mul_one, Array.toList_setIfInBounds]
    rw [List.take_set, h4]

/-- the slice that is appended: nothing, or a place -/
theorem Reads.new (w : World) (vs : List Value) (t : TypeId) : Reads (w.alloc (.cells vs.toArray t)) (some ⟨w.heap.size, 0, none⟩) vs := by
  refine .inr ⟨_, _, rfl, fun i v hv => ?_⟩
  rw [blk_cell (new_blk w _), Nat.zero_add]
  simpa using hv

/-- two rows, or blocks, that lie apart -/
def Apart (p q : Option Addr) : Prop := ∀ a b, p = some a → q = some b → a.block ≠ b.block
theorem Apart.symm {p q : Option Addr} (h : Apart p q) : Apart q p := fun a b ha hb => Ne.symm (h b a hb ha)
theorem Apart.none (q : Option Addr) : Apart none q := fun _ _ h => by cases h
theorem Moved.apart {w : World} {p p' q : Option Addr} (h : Moved w p p') (ha : Apart p q) (hq : ∀ a, q = some a → a.block < w.heap.size) : Apart p' q := by
  rcases h with rfl | h
  · exact ha
  · intro a b hpa hqb
    have := h a hpa
    have := hq b hqb
    omega
theorem Moved.trans {w w' : World} {p p' p'' : Option Addr} (h : Moved w p p') (hs : w.heap.size ≤ w'.heap.size) (k : Moved w' p' p'') : Moved w p p'' := by
  rcases k with rfl | k
  · exact h
  · exact .inr fun a ha => Nat.le_trans hs (k a ha)
theorem Row.keep {w w' : World} {q : Option Addr} (hx : Ext (blocks q) w w') {base : Nat} {e : TypeId} {p : Option Addr} {c : Nat} {xs : List Value} (h : Row w base e p c xs) (ha : Apart p q) : Row w' base e p c xs :=
  h.ext hx fun a hp ⟨b, hb, hab⟩ => ha a b hp hb hab.symm

section
variable {P : Program} {t ty e : TypeId} {i : TypeInfo} {z : Value}

theorem one_of {v : Value} (h : one v = true) : v.oneCell' = true := by cases v <;> simp_all [one, Value.oneCell']

/-- an append to a row of one's own -/
theorem rn_appC (ht : P.underlying t = some (.slice e)) (hi : P.info? e = some i) (hz : i.zero = some z) (hsize : i.size = 1) (hzs : z.cells.size = 1)
    {w : World} {base : Nat} {p : Option Addr} {n c : Nat} {xs : List Value} (hown : Row w base e p c xs) (hn : xs.length = n) (hbase : base ≤ w.heap.size)
    {q : Option Addr} {m c' : Nat} {news : List Value} (hsrc : Reads w q news) (hm : news.length = m) (h1 : ∀ u ∈ news, one u = true)
    (h63 : n + m ≤ maxLen) (hbytes : (n + m) * i.bytes ≤ 140737488355328) {K : Value → World → Prop}
    (hK : ∀ p' c'' w', Row w' base e p' c'' (xs ++ news) → Ext (blocks p) w w' → Moved w p p' → (p' = none → xs ++ news = []) → (n + m ≤ c → c'' = c) → K (.slice p' (n + m) c'') w') :
    rn P (Builtin.append_ #[t, t] ty #[.slice p n c, .slice q m c']) w K := by
  subst hn hm
  have ho := hown.own
  have h1' : ∀ u ∈ news, u.oneCell' = true := fun u hu => one_of (h1 u hu)
  have hE : ∀ {w' : World} {r : Option Nat}, w.grownBy w' r → (∀ k, r = some k → blocks p k) → Ext (blocks p) w w' := fun hg hr =>
    (Ext.of_grown hg).mono fun k _ hk => hr k hk.symm
  cases q with
  | none =>
    have hnil : news = [] := by
      rcases hsrc with h | ⟨b, o, h, _⟩
      · exact h
      · cases h
    subst hnil
    have hr : (Builtin.append_ #[t, t] ty #[.slice p xs.length c, .slice none 0 c']).run P w = .ok (.slice p xs.length c) w := by
      rcases hown.cases with ⟨rfl, rfl, rfl⟩ | ⟨g, cur, rfl, _, _, hc, _⟩
      · simp [Builtin.append_, run_underlying ht, sizeOf, typeInfo, hi, Builtin.lenOf, Builtin.firstCells]
      · simp [Builtin.append_, run_underlying ht, sizeOf, typeInfo, hi, Builtin.lenOf, Builtin.firstCells, hc, storeCells]
    refine rn_mk hr ?_
    refine hK p c w (by simpa using hown) (Ext.refl _ _) (.inl rfl) (fun hp => ?_) fun _ => rfl
    rcases hown.cases with ⟨_, _, rfl⟩ | ⟨g, cur, hpg, _⟩
    · rfl
    · rw [hp] at hpg; cases hpg
  | some a =>
    have hnews : ∀ j u, news[j]? = some u → w.cell? (a.add j) = some u := by
      intro j u hu
      rcases hsrc with h | ⟨b, o, h, hc⟩
      · subst h; simp at hu
      · cases h; rw [add_mk]; exact hc j u hu
    have hl : news.length = news.length * 1 := by simp
    rcases hown.cases with ⟨rfl, rfl, rfl⟩ | ⟨g, cur, rfl, hbg, hg, hnc, hcm, hcs, htake⟩
    · have hnil : w.ownsRow w.heap.size e 1 (.slice none 0 0) 0 [] := World.ownsRow_nil w _ e 1
      obtain ⟨v', w', hr, h2, h3, h4⟩ := run_append_own (P := P) w w.heap.size t ty e i z 1 i.bytes ht hi hz hsize rfl hzs (by decide) (.slice none 0 0) 0 [] hnil a news.length c' news hl hnews h1' h63 hbytes (Nat.le_refl _)
      obtain ⟨p', c'', hv, _, _⟩ := own_reads h2
      subst hv
      refine rn_mk hr ?_
      have hrow : Row w' w.heap.size e p' c'' ([] ++ news) := ⟨by simpa using h2⟩
      refine hK p' c'' w' (hrow.mono hbase) (hE h3 (by simp [Value.ownBlock])) (.inr fun a ha => (hrow.at ha).1) (fun hp => ?_) fun hc => ?_
      · rcases hrow.cases with ⟨_, _, h⟩ | ⟨g, cur, hpg, _⟩
        · exact h
        · rw [hp] at hpg; cases hpg
      · have : news.length = 0 := by simpa using hc
        have := h4.2 ⟨rfl, this⟩
        simp only [Value.slice.injEq] at this
        exact this.2.2
    · by_cases hroom : xs.length + news.length ≤ c
      · obtain ⟨w', hr, h2, h3⟩ := run_append_fits (P := P) w base t ty e i 1 ht hi hsize g xs.length c xs ho a news.length c' news hl hnews h1' hroom
        refine rn_mk hr (hK _ c w' ⟨by simpa using h2⟩ (hE h3 fun k hk => ⟨_, rfl, by simpa using hk⟩) (.inl rfl) (by simp) fun _ => rfl)
      · have holds : ∀ j u, xs[j]? = some u → w.cell? ((⟨g, 0, none⟩ : Addr).add j) = some u := ho.cells (g := g) rfl
        obtain ⟨v', w', hr, h2, h3⟩ := run_append_arg_grows (P := P) w t ty e i z 1 i.bytes ht hi hz hsize rfl hzs (by decide) ⟨g, 0, none⟩ xs.length c xs (by simp) holds a news.length c' news hl hnews (by omega) h63 hbytes
        obtain ⟨p', c'', hv, _, _⟩ := own_reads h2
        subst hv
        have hrow : Row w' w.heap.size e p' c'' (xs ++ news) := ⟨by simpa using h2⟩
        refine rn_mk hr (hK p' c'' w' (hrow.mono hbase) (hE h3 (by simp)) (.inr fun a ha => (hrow.at ha).1) (fun hp => ?_) fun hc => absurd hc hroom)
        rcases hrow.cases with ⟨_, _, h⟩ | ⟨g, cur, hpg, _⟩
        · exact h
        · rw [hp] at hpg; cases hpg

theorem rn_app (ht : P.underlying t = some (.slice e)) (hi : P.info? e = some i) (hz : i.zero = some z) (hsize : i.size = 1) (hzs : z.cells.size = 1)
    {w : World} {base : Nat} {p : Option Addr} {n c : Nat} {xs : List Value} (hown : Row w base e p c xs) (hn : xs.length = n) (hbase : base ≤ w.heap.size)
    {q : Option Addr} {m c' : Nat} {news : List Value} (hsrc : Reads w q news) (hm : news.length = m) (h1 : ∀ u ∈ news, one u = true)
    (h63 : n + m ≤ maxLen) (hbytes : (n + m) * i.bytes ≤ 140737488355328) {K : Value → World → Prop}
    (hK : ∀ p' c'' w', Row w' base e p' c'' (xs ++ news) → Ext (blocks p) w w' → Moved w p p' → (p' = none → xs ++ news = []) → K (.slice p' (n + m) c'') w') :
    rn P (Builtin.append_ #[t, t] ty #[.slice p n c, .slice q m c']) w K :=
  rn_appC ht hi hz hsize hzs hown hn hbase hsrc hm h1 h63 hbytes fun p' c'' w' h1 h2 h3 h4 _ => hK p' c'' w' h1 h2 h3 h4

/-- an append of one value, as the program writes it -/
theorem nw_app1 (ht : P.underlying t = some (.slice e)) (hi : P.info? e = some i) (hz : i.zero = some z) (hsize : i.size = 1) (hzs : z.cells.size = 1)
    {w : World} {base : Nat} {p : Option Addr} {n c : Nat} {xs : List Value} (hown : Row w base e p c xs) (hn : xs.length = n) (hbase : base ≤ w.heap.size)
    {v : Value} {t' : TypeId} (h1 : one v = true)
    (h63 : n + 1 ≤ maxLen) (hbytes : (n + 1) * i.bytes ≤ 140737488355328) {K : Value → World → Prop}
    (hK : ∀ p' c'' w', Row w' base e p' c'' (xs ++ [v]) → Ext (blocks p) w w' → Moved w p p' → K (.slice p' (n + 1) c'') w') :
    nw w (.cells #[v] t') fun r w1 => rn P (Builtin.append_ #[t, t] ty #[.slice p n c, .slice (some ⟨r, 0, none⟩) 1 1]) w1 K := by
  have hx : Ext no w (w.alloc (.cells #[v] t')) := Ext.alloc w _
  refine rn_app ht hi hz hsize hzs (hown.ext hx fun _ _ h => h) hn (Nat.le_trans hbase hx.size) (Reads.new w [v] t') rfl (by simpa using h1) h63 hbytes ?_
  intro p' c'' w' hr hE hmv _
  refine hK p' c'' w' hr ((Ext.of_no hx).then hE fun k _ hk => hk) ?_
  rcases hmv with h | h
  · exact .inl h
  · exact .inr fun a ha => Nat.le_trans hx.size (h a ha)

/-- make with room -/
theorem rn_make0 (ht : P.underlying t = some (.slice e)) (hi : P.info? e = some i) (hz : i.zero = some z) (hsize : i.size = 1)
    {w : World} {kl kc : IntKind} {c : Nat} (hbytes : i.bytes * c ≤ 281474976710656) (h63 : c ≤ maxLen) {K : Value → World → Prop}
    (hK : ∀ w', Row w' w.heap.size e (some ⟨w.heap.size, 0, none⟩) c [] → Ext no w w' → K (.slice (some ⟨w.heap.size, 0, none⟩) 0 c) w') :
    rn P (Instr.makeSlice t (.int kl 0) (.int kc (c : Int))) w K := by
  obtain ⟨w', hr, h2, h3⟩ := run_make_own (P := P) w w.heap.size t e i z 1 ht hi hz hsize kl kc c hbytes h63 (Nat.le_refl _)
  exact rn_mk hr (hK w' ⟨h2⟩ ((Ext.of_grown h3).mono fun _ _ h => by simp at h))

/-- make, full of zeros -/
theorem rn_makeN (ht : P.underlying t = some (.slice e)) (hi : P.info? e = some i) (hz : i.zero = some z) (hsize : i.size = 1) (hzs : z.cells = #[z])
    {w : World} {kl kc : IntKind} {n : Nat} (hbytes : i.bytes * n ≤ 281474976710656) (h63 : n ≤ maxLen) {K : Value → World → Prop}
    (hK : ∀ w', Row w' w.heap.size e (some ⟨w.heap.size, 0, none⟩) n (List.replicate n z) → Ext no w w' → K (.slice (some ⟨w.heap.size, 0, none⟩) n n) w') :
    rn P (Instr.makeSlice t (.int kl (n : Int)) (.int kc (n : Int))) w K := by
  obtain ⟨w', hr, h2, h3⟩ := run_make_full (P := P) w w.heap.size t e i z 1 ht hi hz hsize kl kc n hbytes h63 (Nat.le_refl _)
  rw [hzs, Nat.mul_one, toList_madeCells_one] at h2
  exact rn_mk hr (hK w' ⟨by simpa using h2⟩ ((Ext.of_grown h3).mono fun _ _ h => by simp at h))
end

/-- make with a length and room, told as the whole row -/
theorem rn_makeNC {P : Program} {t e : TypeId} {i : TypeInfo} {z : Value} (ht : P.underlying t = some (.slice e)) (hi : P.info? e = some i) (hz : i.zero = some z) (hsize : i.size = 1) (hzs : z.cells = #[z])
    {w : World} {kl kc : IntKind} {n c : Nat} (hnc : n ≤ c) (hbytes : i.bytes * c ≤ 281474976710656) (h63 : c ≤ maxLen) {K : Value → World → Prop}
    (hK : ∀ w', Row w' w.heap.size e (some ⟨w.heap.size, 0, Option.none⟩) c (List.replicate c z) → Ext no w w' → K (.slice (some ⟨w.heap.size, 0, Option.none⟩) n c) w') :
    rn P (Instr.makeSlice t (.int kl (n : Int)) (.int kc (c : Int))) w K := by
  have h63' : (c : Int) ≤ 9223372036854775807 := by
    simp only [maxLen] at h63
    omega
  have hb' : (i.bytes : Int) * (c : Int) ≤ 281474976710656 := by
    have h : ((i.bytes * c : Nat) : Int) ≤ 281474976710656 := by omega
    rwa [Int.natCast_mul] at h
  have hr := run_make (P := P) w t e i z ht hi hz kl kc n c (by omega) (by omega) hb' h63'
  simp only [Int.toNat_natCast] at hr
  refine rn_mk hr (hK _ ⟨?_⟩ (Ext.alloc w _))
  rw [hzs, hsize, Nat.mul_one]
  have := World.ownsRow_lit (base := w.heap.size) (e := e) (size := 1) w (madeCells #[z] c) c (Nat.le_refl _) h63 (by simp [madeCells])
  rw [toList_madeCells_one] at this
  simpa using this

/-- a copy to the head of a row -/
theorem rn_copy {P : Program} {t ty e e' : TypeId} (ht : P.underlying t = some (.slice e)) (hs : (P.info? e).map (·.size) = some 1)
    {w : World} {base : Nat} {p : Option Addr} {c : Nat} {xs : List Value} (h : Row w base e' p c xs) {n c1 : Nat} (hn : n ≤ xs.length)
    {q : Option Addr} {m c' : Nat} {news : List Value} (hsrc : Reads w q news) (hm : news.length = m) (hmn : m = n) (h1 : ∀ u ∈ news, one u = true) {K : Value → World → Prop}
    (hK : ∀ w', Row w' base e' p c (news ++ xs.drop news.length) → Ext (blocks p) w w' → K (.int .i64 (m : Int)) w') :
    rn P (Builtin.copy_ #[t, t] ty #[.slice p n c1, .slice q m c']) w K := by
  subst hmn hm
  have h1' : ∀ u ∈ news, u.oneCell' = true := fun u hu => one_of (h1 u hu)
  by_cases h0 : news = []
  · subst h0
    have hr : (Builtin.copy_ #[t, t] ty #[.slice p (List.length ([] : List Value)) c1, .slice q (List.length ([] : List Value)) c']).run P w = .ok (goInt 0) w := by
      cases hq : P.info? e with
      | none => simp [hq] at hs
      | some i => cases p <;> cases q <;> simp [Builtin.copy_, run_underlying ht, Builtin.lenOf, Builtin.firstCells, sizeOf, typeInfo, hq, storeCells, loadCells, loadCellsFrom]
    exact rn_mk hr (hK w (by simpa using h) (Ext.refl _ _))
  · rcases hsrc with hx | ⟨b, o, rfl, hc⟩
    · exact absurd hx h0
    · rcases h.cases with ⟨_, _, rfl⟩ | ⟨g, cur, rfl, hb, hg, hl, hcm, hcs, htk⟩
      · have : news.length = 0 := by simpa using hn
        exact absurd (List.eq_nil_of_length_eq_zero this) h0
      · have hr := run_copy_row (P := P) w t t ty e g 0 news.length c1 ⟨b, o, Option.none⟩ news.length c' cur e' news ht hs hg (by simp) (fun j v hv => by rw [add_mk]; exact hc j v hv) (by omega) h1'
        refine rn_mk hr (hK _ ⟨?_⟩ ⟨rfl, rfl, rfl, by simp [World.setRow], fun k _ hk => setRow_other w g k _ fun hkg => hk ⟨_, rfl, hkg.symm⟩⟩)
        have hll : (news ++ xs.drop news.length).length = xs.length := by simp; omega
        refine ⟨by simp, .inr ⟨g, c, _, by rw [hll], hb, setRow_heap w g cur _ e' _ hg, by rw [hll]; exact hl, hcm, ?_, ?_⟩⟩
        · simp
          omega
        · simp only [List.take_zero, List.nil_append, Nat.zero_add, Nat.mul_one, hll]
          rw [← htk]
          have e1 : (cur.toList.take xs.length).drop news.length = (cur.toList.drop news.length).take (xs.length - news.length) := by
            rw [List.drop_take]
          rw [e1]
          rw [List.take_append]
          have e2 : (List.take xs.length cur.toList).length = xs.length := by rw [htk]
          rw [e2]
          simp only [List.take_of_length_le hn]

/-- a type of slices whose elements take one cell -/
structure SlT (P : Program) (t e : TypeId) (z : Value) (b : Nat) : Prop where
  und : P.underlying t = some (.slice e)
  inf : ∃ i, P.info? e = some i ∧ i.zero = some z ∧ i.size = 1 ∧ i.bytes = b
  cells : z.cells = #[z]

section
variable {P : Program} {t ty e : TypeId} {z : Value} {b : Nat}

theorem SlT.appC (h : SlT P t e z b) {w : World} {base : Nat} {p : Option Addr} {n c : Nat} {xs : List Value} (hown : Row w base e p c xs) (hn : xs.length = n) (hbase : base ≤ w.heap.size)
    {q : Option Addr} {m c' : Nat} {news : List Value} (hsrc : Reads w q news) (hm : news.length = m) (h1 : ∀ u ∈ news, one u = true)
    (h63 : n + m ≤ maxLen) (hbytes : (n + m) * b ≤ 140737488355328) {K : Value → World → Prop}
    (hK : ∀ p' c'' w', Row w' base e p' c'' (xs ++ news) → Ext (blocks p) w w' → Moved w p p' → (p' = none → xs ++ news = []) → (n + m ≤ c → c'' = c) → K (.slice p' (n + m) c'') w') :
    rn P (Builtin.append_ #[t, t] ty #[.slice p n c, .slice q m c']) w K := by
  obtain ⟨i, hi, hz, hs, rfl⟩ := h.inf
  exact rn_appC h.und hi hz hs (by rw [h.cells]; rfl) hown hn hbase hsrc hm h1 h63 hbytes hK

theorem SlT.app (h : SlT P t e z b) {w : World} {base : Nat} {p : Option Addr} {n c : Nat} {xs : List Value} (hown : Row w base e p c xs) (hn : xs.length = n) (hbase : base ≤ w.heap.size)
    {q : Option Addr} {m c' : Nat} {news : List Value} (hsrc : Reads w q news) (hm : news.length = m) (h1 : ∀ u ∈ news, one u = true)
    (h63 : n + m ≤ maxLen) (hbytes : (n + m) * b ≤ 140737488355328) {K : Value → World → Prop}
    (hK : ∀ p' c'' w', Row w' base e p' c'' (xs ++ news) → Ext (blocks p) w w' → Moved w p p' → (p' = none → xs ++ news = []) → K (.slice p' (n + m) c'') w') :
    rn P (Builtin.append_ #[t, t] ty #[.slice p n c, .slice q m c']) w K := by
  obtain ⟨i, hi, hz, hs, rfl⟩ := h.inf
  exact rn_app h.und hi hz hs (by rw [h.cells]; rfl) hown hn hbase hsrc hm h1 h63 hbytes hK

theorem SlT.app1 (h : SlT P t e z b) {w : World} {base : Nat} {p : Option Addr} {n c : Nat} {xs : List Value} (hown : Row w base e p c xs) (hn : xs.length = n) (hbase : base ≤ w.heap.size)
    {v : Value} {t' : TypeId} (h1 : one v = true)
    (h63 : n + 1 ≤ maxLen) (hbytes : (n + 1) * b ≤ 140737488355328) {K : Value → World → Prop}
    (hK : ∀ p' c'' w', Row w' base e p' c'' (xs ++ [v]) → Ext (blocks p) w w' → Moved w p p' → K (.slice p' (n + 1) c'') w') :
    nw w (.cells #[v] t') fun r w1 => rn P (Builtin.append_ #[t, t] ty #[.slice p n c, .slice (some ⟨r, 0, none⟩) 1 1]) w1 K := by
  obtain ⟨i, hi, hz, hs, rfl⟩ := h.inf
  exact nw_app1 h.und hi hz hs (by rw [h.cells]; rfl) hown hn hbase h1 h63 hbytes hK

theorem SlT.make0 (h : SlT P t e z b) {w : World} {kl kc : IntKind} {c : Nat} (hbytes : b * c ≤ 281474976710656) (h63 : c ≤ maxLen) {K : Value → World → Prop}
    (hK : ∀ w', Row w' w.heap.size e (some ⟨w.heap.size, 0, none⟩) c [] → Ext no w w' → K (.slice (some ⟨w.heap.size, 0, none⟩) 0 c) w') :
    rn P (Instr.makeSlice t (.int kl 0) (.int kc (c : Int))) w K := by
  obtain ⟨i, hi, hz, hs, rfl⟩ := h.inf
  exact rn_make0 h.und hi hz hs hbytes h63 hK

theorem SlT.makeN (h : SlT P t e z b) {w : World} {kl kc : IntKind} {n : Nat} (hbytes : b * n ≤ 281474976710656) (h63 : n ≤ maxLen) {K : Value → World → Prop}
    (hK : ∀ w', Row w' w.heap.size e (some ⟨w.heap.size, 0, none⟩) n (List.replicate n z) → Ext no w w' → K (.slice (some ⟨w.heap.size, 0, none⟩) n n) w') :
    rn P (Instr.makeSlice t (.int kl (n : Int)) (.int kc (n : Int))) w K := by
  obtain ⟨i, hi, hz, hs, rfl⟩ := h.inf
  exact rn_makeN h.und hi hz hs h.cells hbytes h63 hK
end

theorem SlT.makeNC {P : Program} {t e : TypeId} {z : Value} {b : Nat} (h : SlT P t e z b) {w : World} {kl kc : IntKind} {n c : Nat} (hnc : n ≤ c) (hbytes : b * c ≤ 281474976710656) (h63 : c ≤ maxLen) {K : Value → World → Prop}
    (hK : ∀ w', Row w' w.heap.size e (some ⟨w.heap.size, 0, Option.none⟩) c (List.replicate c z) → Ext no w w' → K (.slice (some ⟨w.heap.size, 0, Option.none⟩) n c) w') :
    rn P (Instr.makeSlice t (.int kl (n : Int)) (.int kc (c : Int))) w K := by
  obtain ⟨i, hi, hz, hs, rfl⟩ := h.inf
  exact rn_makeNC h.und hi hz hs h.cells hnc hbytes h63 hK

theorem SlT.copy {P : Program} {t ty e : TypeId} {z : Value} {b : Nat} (ht : SlT P t e z b)
    {w : World} {base : Nat} {p : Option Addr} {c : Nat} {xs : List Value} (h : Row w base e p c xs) {n c1 : Nat} (hn : n ≤ xs.length)
    {q : Option Addr} {m c' : Nat} {news : List Value} (hsrc : Reads w q news) (hm : news.length = m) (hmn : m = n) (h1 : ∀ u ∈ news, one u = true) {K : Value → World → Prop}
    (hK : ∀ w', Row w' base e p c (news ++ xs.drop news.length) → Ext (blocks p) w w' → K (.int .i64 (m : Int)) w') :
    rn P (Builtin.copy_ #[t, t] ty #[.slice p n c1, .slice q m c']) w K := by
  obtain ⟨i, hi, hz, hs, rfl⟩ := ht.inf
  exact rn_copy ht.und (by rw [hi]; simp [hs]) h hn hsrc hm hmn h1 hK

/-- a part of a row that is read -/
theorem Reads.pre {w : World} {p : Option Addr} {xs ys : List Value} (h : Reads w p (xs ++ ys)) : Reads w p xs := by
  rcases h with h0 | ⟨b, o, rfl, hc⟩
  · exact .inl (List.append_eq_nil_iff.1 h0).1
  · exact .inr ⟨b, o, rfl, fun i v hv => hc i v (by rw [List.getElem?_append_left (List.getElem?_eq_some_iff.1 hv).1]; exact hv)⟩

theorem slp_block {p : Option Addr} {c n size : Nat} {a : Addr} (h : slp p c n size = some a) : ∃ b, p = some b ∧ b.block = a.block := by
  unfold slp at h
  split at h
  · exact ⟨a, h, rfl⟩
  · cases p with
    | none => simp at h
    | some b =>
      simp only [Option.map_some, Option.some.injEq] at h
      refine ⟨b, rfl, ?_⟩
      rw [← h]
      unfold Addr.add
      split <;> rfl

theorem Reads.drop {w : World} {p : Option Addr} {c n : Nat} {xs : List Value} (h : Reads w p xs) (hc : xs.length ≤ c) : Reads w (slp p c n 1) (xs.drop n) := by
  by_cases h0 : xs.drop n = []
  · exact .inl h0
  · have hn : n < xs.length := by
      by_cases hh : n < xs.length
      · exact hh
      · exact absurd (List.drop_eq_nil_of_le (by omega)) h0
    rcases h with h | ⟨b, o, rfl, hx⟩
    · subst h; simp at hn
    · have : slp (some ⟨b, o, Option.none⟩) c n 1 = some ⟨b, o + n, Option.none⟩ := by
        unfold slp
        rw [if_neg (by omega), Nat.mul_one]
        simp [add_mk]
      rw [this]
      refine .inr ⟨b, o + n, rfl, fun i v hv => ?_⟩
      rw [List.getElem?_drop] at hv
      have := hx _ _ hv
      rw [← this]
      congr 2
      omega

theorem le_maxLen {n : Nat} (h : n ≤ 140737488355328) : n ≤ maxLen := by simp only [maxLen]; omega

/-- the blocks from one on -/
def ge (b : Nat) : Nat → Prop := fun k => b ≤ k

theorem Ext.to_no {w w' : World} {b : Nat} (h : Ext (ge b) w w') (hb : w.heap.size ≤ b) : Ext no w w' := h.mono fun k hk hg => by
  have : b ≤ k := hg
  omega
theorem Ext.to_ge {w w' : World} {b : Nat} (h : Ext no w w') : Ext (ge b) w w' := Ext.of_no h

theorem Reads.lt {w : World} {p : Option Addr} {vs : List Value} (h : Reads w p vs) (hv : vs ≠ []) : ∃ a, p = some a ∧ a.block < w.heap.size := by
  rcases h with h0 | ⟨b, o, rfl, hc⟩
  · exact absurd h0 hv
  · cases vs with
    | nil => exact absurd rfl hv
    | cons v vs =>
      exact ⟨_, rfl, World.block_lt_of_cell? w _ (hc 0 v rfl)⟩

/-- what was there before stays readable -/
theorem Reads.old {w w' : World} {b : Nat} (hx : Ext (ge b) w w') (hb : w.heap.size ≤ b) {p : Option Addr} {vs : List Value} (h : Reads w p vs) : Reads w' p vs := by
  by_cases hv : vs = []
  · exact .inl hv
  · obtain ⟨a, rfl, hlt⟩ := h.lt hv
    refine h.ext hx fun x hx' hg => ?_
    cases hx'
    have : b ≤ a.block := hg
    omega

/-- numbers as values -/
def iv (k : IntKind) (zs : List Int) : List Value := zs.map (.int k)
theorem iv_length (k : IntKind) (zs : List Int) : (iv k zs).length = zs.length := by simp [iv]
theorem iv_get {k : IntKind} {zs : List Int} {i : Nat} (h : i < zs.length) : (iv k zs)[i]? = some (.int k (zs.getD i 0)) := by simp [iv, h]
def tv (l : List Bool) : List Value := l.map .bool
theorem tv_length (l : List Bool) : (tv l).length = l.length := by simp [tv]
theorem tv_get {l : List Bool} {i : Nat} (h : i < l.length) : (tv l)[i]? = some (.bool (l.getD i false)) := by simp [tv, h]

/-! ### Bytes -/
def bv (bs : List Nat) : List Value := bs.map fun (b : Nat) => .int .u8 (b : Int)
theorem bv_length (bs : List Nat) : (bv bs).length = bs.length := by simp [bv]
theorem bv_one {bs : List Nat} : ∀ u ∈ bv bs, one u = true := by
  intro u hu
  simp only [bv, List.mem_map] at hu
  obtain ⟨b, _, rfl⟩ := hu
  rfl
theorem bv_get {bs : List Nat} {i : Nat} (h : i < bs.length) : (bv bs)[i]? = some (.int .u8 ((bs.getD i 0 : Nat) : Int)) := by
  simp [bv, h]
theorem bv_append (a b : List Nat) : bv (a ++ b) = bv a ++ bv b := by simp [bv]
theorem bv_inj {a b : List Nat} (h : bv a = bv b) : a = b := by
  have hf : ∀ x y : Nat, (Value.int .u8 (x : Int)) = .int .u8 (y : Int) → x = y := by
    intro x y h
    cases h; rfl
  exact (List.map_inj_right hf).1 h

/-- the string of bytes -/
def strB (bs : List Nat) : ByteArray := strOfNums (bs.map fun (b : Nat) => (b : Int))

theorem run_str {P : Program} {src dst e : TypeId} (hs : P.underlying src = some (.slice e)) (he : P.underlying e = some (.int .u8)) (hd : P.underlying dst = some .string)
    {w : World} {p : Option Addr} {n c : Nat} {bs : List Nat} (hr : Reads w p (bv bs)) (hn : bs.length = n) (hp : p = none → bs = []) :
    (convert src dst (.slice p n c)).run P w = .ok (.string (strB bs)) w := by
  subst hn
  rcases hr with h0 | ⟨b, o, rfl, hc⟩
  · have hb : bs = [] := by simpa [bv] using h0
    subst hb
    cases p with
    | none =>
      have := run_convert_bytes_nil (P := P) w src e hs he 0 c dst hd
      exact this
    | some a =>
      rw [run_convert_bytes_string w src dst e _ _ _ hs he hd]
      simp [Conv.bytesToString, strB, strOfNums, loadCells, loadCellsFrom]
      rfl
  · refine run_convert_bytes_arg (P := P) w src e hs he b o _ c (bs.map fun (x : Nat) => (x : Int)) (by simp) ?_ dst hd
    intro i hi
    have := hc i _ (bv_get hi)
    rw [this]
    congr 2
    simp [List.getD_eq_getElem?_getD, hi]
end Go.Sx
