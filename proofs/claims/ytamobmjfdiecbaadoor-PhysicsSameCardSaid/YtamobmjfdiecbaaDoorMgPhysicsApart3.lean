/- Sz: rows of memory of the calls' own, in the words of Sx: appends, makes, copies of bytes to strings, and the words' rules as the walks apply them. No condition. -/
import Derived.Test.YtamobmjfdiecbaaDoorMgPhysicsApart2
import Derived.Laws.BytesArg
import Derived.Lib.Bytes
import Derived.Laws.BitsLemmas
import Derived.Laws.Entries
import Ieee.Arith
import Derived.Laws.Externs
import Derived.Laws.CopyRow
namespace Go.Sx
open Go Go.RowKit

/-! ### The words' rules -/
theorem asI_i {k : IntKind} {v : Value} {x : Int} {K : Int → Prop} (e : v = .int k x) (h : K x) : asI k v K := ⟨x, e, h⟩
theorem asB_i {v : Value} {x : Bool} {K : Bool → Prop} (e : v = .bool x) (h : K x) : asB v K := ⟨x, e, h⟩
theorem asP_i {v : Value} {x : Option Addr} {K : Option Addr → Prop} (e : v = .pointer x) (h : K x) : asP v K := ⟨x, e, h⟩
theorem asS_i {v : Value} {p : Option Addr} {n c : Nat} {K : Option Addr → Nat → Nat → Prop} (e : v = .slice p n c) (h : K p n c) : asS v K := ⟨p, n, c, e, h⟩
theorem asY_i {v : Value} {x : ByteArray} {K : ByteArray → Prop} (e : v = .string x) (h : K x) : asY v K := ⟨x, e, h⟩
theorem asM_i {v : Value} {x : Option Nat} {K : Option Nat → Prop} (e : v = .map x) (h : K x) : asM v K := ⟨x, e, h⟩
theorem asF_i {k : FloatKind} {v : Value} {x : Nat} {K : Nat → Prop} (e : v = .float k x) (h : K x) : asF k v K := ⟨x, e, h⟩
theorem asA_i {n : Nat} {v : Value} {l : List Value} {K : (Nat → Value) → Prop} (e : v = .agg l.toArray) (hl : l.length = n) (h : K (fun i => l.getD i undef)) : asA n v K := ⟨l, e, hl, h⟩
theorem asT_i {n : Nat} {v : Value} {l : List Value} {K : (Nat → Value) → Prop} (e : v = .tuple l.toArray) (hl : l.length = n) (h : K (fun i => l.getD i undef)) : asT n v K := ⟨l, e, hl, h⟩
/-- a meeting, by what holds there -/
theorem jn_of {K : List Value → World → Prop} {B : (List Value → World → Prop) → Prop} (R : List Value → World → Prop) (hK : ∀ s w, R s w → K s w)
    (hB : ∀ J : List Value → World → Prop, (∀ s w, R s w → J s w) → B J) : jn K B := hB K hK
theorem lv_i {x : Int} {K : Int → Prop} (h : K x) : lv x K := h
theorem dr_i {a : Addr} {K : Addr → Prop} (h : K a) : dr (some a) K := h
theorem hd_i {w : World} {a : Addr} {v : Value} {X : Prop} (h1 : w.cell? a = some v) (h : X) : hd w a v X := ⟨h1, h⟩

/-! ### Rows -/
structure Row (w : World) (base : Nat) (e : TypeId) (p : Option Addr) (c : Nat) (xs : List Value) : Prop where
  own : w.ownsRow base e 1 (.slice p xs.length c) xs.length xs

def blocks (p : Option Addr) : Nat → Prop := fun k => ∃ a, p = some a ∧ a.block = k
/-- where a row lies after it has grown -/
def Moved (w : World) (p p' : Option Addr) : Prop := p' = p ∨ ∀ a, p' = some a → w.heap.size ≤ a.block

theorem Row.nil (w : World) (base : Nat) (e : TypeId) : Row w base e none 0 [] := ⟨World.ownsRow_nil w base e 1⟩

theorem Row.mono {w : World} {base base' : Nat} {e : TypeId} {p : Option Addr} {c : Nat} {xs : List Value} (h : Row w base e p c xs) (hb : base' ≤ base) : Row w base' e p c xs := by
  refine ⟨h.own.1, ?_⟩
  rcases h.own.2 with hx | ⟨g, cap, cur, hv, hb', rest⟩
  · exact .inl hx
  · exact .inr ⟨g, cap, cur, hv, Nat.le_trans hb hb', rest⟩

theorem Row.cases {w : World} {base : Nat} {e : TypeId} {p : Option Addr} {c : Nat} {xs : List Value} (h : Row w base e p c xs) :
    (p = none ∧ c = 0 ∧ xs = []) ∨ ∃ g cur, p = some ⟨g, 0, none⟩ ∧ base ≤ g ∧ w.heap[g]? = some (.cells cur e (0, 0)) ∧ xs.length ≤ c ∧ c ≤ maxLen ∧ cur.size = c ∧ cur.toList.take xs.length = xs := by
  rcases h.own.2 with ⟨hv, hn⟩ | ⟨g, cap, cur, hv, hb, hg, h1, h2, h3, h4⟩
  · simp only [Value.slice.injEq] at hv
    exact .inl ⟨hv.1, hv.2.2, List.eq_nil_of_length_eq_zero hn⟩
  · simp only [Value.slice.injEq, true_and] at hv
    obtain ⟨rfl, rfl⟩ := hv
    exact .inr ⟨g, cur, rfl, hb, hg, h1, h2, by simpa using h3, by simpa using h4⟩

theorem Row.at {w : World} {base : Nat} {e : TypeId} {p : Option Addr} {c : Nat} {xs : List Value} (h : Row w base e p c xs) {a : Addr} (hp : p = some a) : base ≤ a.block ∧ a.block < w.heap.size := by
  rcases h.cases with ⟨rfl, _⟩ | ⟨g, cur, rfl, hb, hg, _⟩
  · cases hp
  · cases hp; exact ⟨hb, blk_lt hg⟩

theorem Row.reads {w : World} {base : Nat} {e : TypeId} {p : Option Addr} {c : Nat} {xs : List Value} (h : Row w base e p c xs) : Reads w p xs := by
  obtain ⟨p', c', hv, hr, _⟩ := own_reads h.own
  cases hv; exact hr

theorem Row.ext {M : Nat → Prop} {w w' : World} (hx : Ext M w w') {base : Nat} {e : TypeId} {p : Option Addr} {c : Nat} {xs : List Value} (h : Row w base e p c xs)
    (hm : ∀ a, p = some a → ¬ M a.block) : Row w' base e p c xs := by
  refine ⟨hx.own h.own fun g hg => ?_⟩
  cases p with
  | none => simp [Value.ownBlock] at hg
  | some a =>
    simp only [Value.ownBlock, Option.some.injEq] at hg
    exact hg ▸ hm a rfl

/-- a write to a row -/
theorem Row.st {w : World} {base : Nat} {e : TypeId} {p : Option Addr} {c : Nat} {xs : List Value} (h : Row w base e p c xs) {i : Int} {n : Nat} {u : Value} {K : World → Prop}
    (h0 : 0 ≤ i) (hj : i.toNat < xs.length) (hn : xs.length ≤ n) (ho : one u = true)
    (hK : ∀ w', Row w' base e p c (xs.set i.toNat u) → Ext (blocks p) w w' → w'.heap.size = w.heap.size → K w') : dr p fun a => bnd i n (st w (Addr.add a (Int.toNat i * 1)) u K) := by
  rcases h.cases with ⟨_, _, rfl⟩ | ⟨g, cur, rfl, hb, hg, h1, h2, h3, h4⟩
  · simp at hj
  · refine dr_i (bnd_mk h0 (by omega) ?_)
    rw [Nat.mul_one, add_mk, Nat.zero_add]
    refine st_mk hg (by omega) ho (hK _ ?_ ((Ext.set w ⟨g, i.toNat, none⟩ u).mono fun k _ hk => ⟨_, rfl, hk.symm⟩) (by simp [World.setCell]))
    refine ⟨by simp, .inr ⟨g, c, cur.setIfInBounds i.toNat u, by simp, hb, blk_set hg _ _, by simpa using h1, h2, by simpa using h3, ?_⟩⟩
    simp only [List.length_set, Nat.mul_one, Array.toList_setIfInBounds]
    rw [List.take_set, h4]

/-- the slice that is appended: nothing, or a place -/
theorem Reads.new (w : World) (vs : List Value) (t : TypeId) : Reads (w.alloc (.cells vs.toArray t)) (some ⟨w.heap.size, 0, none⟩) vs := by
  refine .inr ⟨_, _, rfl, fun i v hv => ?_⟩
  rw [blk_cell (new_blk w _), Nat.zero_add]
  simpa using hv

/-- two rows, or blocks, that lie apart -/
def Apart (p q : Option Addr) : Prop := ∀ a b, p = some a → q = some b → a.block ≠ b.block
theorem Apart.symm {p q : Option Addr} (h : Apart p q) : Apart q p := fun a b ha hb => Ne.symm (h b a hb ha)
theorem Apart.none (q : Option Addr) : Apart none q := fun _ _ h => by cases h
theorem Moved.apart {w : World} {p p' q : Option Addr} (h : Moved w p p') (ha : Apart p q) (hq : ∀ a, q = some a → a.block < w.heap.size) : Apart p' q := by
  rcases h with rfl | h
  · exact ha
  · intro a b hpa hqb
    have := h a hpa
    have := hq b hqb
    omega
theorem Moved.trans {w w' : World} {p p' p'' : Option Addr} (h : Moved w p p') (hs : w.heap.size ≤ w'.heap.size) (k : Moved w' p' p'') : Moved w p p'' := by
  rcases k with rfl | k
  · exact h
  · exact .inr fun a ha => Nat.le_trans hs (k a ha)
theorem Row.keep {w w' : World} {q : Option Addr} (hx : Ext (blocks q) w w') {base : Nat} {e : TypeId} {p : Option Addr} {c : Nat} {xs : List Value} (h : Row w base e p c xs) (ha : Apart p q) : Row w' base e p c xs :=
  h.ext hx fun a hp ⟨b, hb, hab⟩ => ha a b hp hb hab.symm

section
variable {P : Program} {t ty e : TypeId} {i : TypeInfo} {z : Value}

theorem one_of {v : Value} (h : one v = true) : v.oneCell' = true := by cases v <;> simp_all [one, Value.oneCell']

/-- an append to a row of one's own -/
theorem rn_appC (ht : P.underlying t = some (.slice e)) (hi : P.info? e = some i) (hz : i.zero = some z) (hsize : i.size = 1) (hzs : z.cells.size = 1)
    {w : World} {base : Nat} {p : Option Addr} {n c : Nat} {xs : List Value} (hown : Row w base e p c xs) (hn : xs.length = n) (hbase : base ≤ w.heap.size)
    {q : Option Addr} {m c' : Nat} {news : List Value} (hsrc : Reads w q news) (hm : news.length = m) (h1 : ∀ u ∈ news, one u = true)
    (h63 : n + m ≤ maxLen) (hbytes : (n + m) * i.bytes ≤ 140737488355328) {K : Value → World → Prop}
    (hK : ∀ p' c'' w', Row w' base e p' c'' (xs ++ news) → Ext (blocks p) w w' → Moved w p p' → (p' = none → xs ++ news = []) → (n + m ≤ c → c'' = c) → K (.slice p' (n + m) c'') w') :
    rn P (Builtin.append_ #[t, t] ty #[.slice p n c, .slice q m c']) w K := by
  subst hn hm
  have ho := hown.own
  have h1' : ∀ u ∈ news, u.oneCell' = true := fun u hu => one_of (h1 u hu)
  have hE : ∀ {w' : World} {r : Option Nat}, w.grownBy w' r → (∀ k, r = some k → blocks p k) → Ext (blocks p) w w' := fun hg hr =>
    (Ext.of_grown hg).mono fun k _ hk => hr k hk.symm
  cases q with
  | none =>
    have hnil : news = [] := by
      rcases hsrc with h | ⟨b, o, h, _⟩
      · exact h
      · cases h
    subst hnil
    have hr : (Builtin.append_ #[t, t] ty #[.slice p xs.length c, .slice none 0 c']).run P w = .ok (.slice p xs.length c) w := by
      rcases hown.cases with ⟨rfl, rfl, rfl⟩ | ⟨g, cur, rfl, _, _, hc, _⟩
      · simp [Builtin.append_, run_underlying ht, sizeOf, typeInfo, hi, Builtin.lenOf, Builtin.firstCells]
      · simp [Builtin.append_, run_underlying ht, sizeOf, typeInfo, hi, Builtin.lenOf, Builtin.firstCells, hc, storeCells]
    refine rn_mk hr ?_
    refine hK p c w (by simpa using hown) (Ext.refl _ _) (.inl rfl) (fun hp => ?_) fun _ => rfl
    rcases hown.cases with ⟨_, _, rfl⟩ | ⟨g, cur, hpg, _⟩
    · rfl
    · rw [hp] at hpg; cases hpg
  | some a =>
    have hnews : ∀ j u, news[j]? = some u → w.cell? (a.add j) = some u := by
      intro j u hu
      rcases hsrc with h | ⟨b, o, h, hc⟩
      · subst h; simp at hu
      · cases h; rw [add_mk]; exact hc j u hu
    have hl : news.length = news.length * 1 := by simp
    rcases hown.cases with ⟨rfl, rfl, rfl⟩ | ⟨g, cur, rfl, hbg, hg, hnc, hcm, hcs, htake⟩
    · have hnil : w.ownsRow w.heap.size e 1 (.slice none 0 0) 0 [] := World.ownsRow_nil w _ e 1
      obtain ⟨v', w', hr, h2, h3, h4⟩ := run_append_own (P := P) w w.heap.size t ty e i z 1 i.bytes ht hi hz hsize rfl hzs (by decide) (.slice none 0 0) 0 [] hnil a news.length c' news hl hnews h1' h63 hbytes (Nat.le_refl _)
      obtain ⟨p', c'', hv, _, _⟩ := own_reads h2
      subst hv
      refine rn_mk hr ?_
      have hrow : Row w' w.heap.size e p' c'' ([] ++ news) := ⟨by simpa using h2⟩
      refine hK p' c'' w' (hrow.mono hbase) (hE h3 (by simp [Value.ownBlock])) (.inr fun a ha => (hrow.at ha).1) (fun hp => ?_) fun hc => ?_
      · rcases hrow.cases with ⟨_, _, h⟩ | ⟨g, cur, hpg, _⟩
        · exact h
        · rw [hp] at hpg; cases hpg
      · have : news.length = 0 := by simpa using hc
        have := h4.2 ⟨rfl, this⟩
        simp only [Value.slice.injEq] at this
        exact this.2.2
    · by_cases hroom : xs.length + news.length ≤ c
      · obtain ⟨w', hr, h2, h3⟩ := run_append_fits (P := P) w base t ty e i 1 ht hi hsize g xs.length c xs ho a news.length c' news hl hnews h1' hroom
        refine rn_mk hr (hK _ c w' ⟨by simpa using h2⟩ (hE h3 fun k hk => ⟨_, rfl, by simpa using hk⟩) (.inl rfl) (by simp) fun _ => rfl)
      · have holds : ∀ j u, xs[j]? = some u → w.cell? ((⟨g, 0, none⟩ : Addr).add j) = some u := ho.cells (g := g) rfl
        obtain ⟨v', w', hr, h2, h3⟩ := run_append_arg_grows (P := P) w t ty e i z 1 i.bytes ht hi hz hsize rfl hzs (by decide) ⟨g, 0, none⟩ xs.length c xs (by simp) holds a news.length c' news hl hnews (by omega) h63 hbytes
        obtain ⟨p', c'', hv, _, _⟩ := own_reads h2
        subst hv
        have hrow : Row w' w.heap.size e p' c'' (xs ++ news) := ⟨by simpa using h2⟩
        refine rn_mk hr (hK p' c'' w' (hrow.mono hbase) (hE h3 (by simp)) (.inr fun a ha => (hrow.at ha).1) (fun hp => ?_) fun hc => absurd hc hroom)
        rcases hrow.cases with ⟨_, _, h⟩ | ⟨g, cur, hpg, _⟩
        · exact h
        · rw [hp] at hpg; cases hpg

theorem rn_app (ht : P.underlying t = some (.slice e)) (hi : P.info? e = some i) (hz : i.zero = some z) (hsize : i.size = 1) (hzs : z.cells.size = 1)
    {w : World} {base : Nat} {p : Option Addr} {n c : Nat} {xs : List Value} (hown : Row w base e p c xs) (hn : xs.length = n) (hbase : base ≤ w.heap.size)
    {q : Option Addr} {m c' : Nat} {news : List Value} (hsrc : Reads w q news) (hm : news.length = m) (h1 : ∀ u ∈ news, one u = true)
    (h63 : n + m ≤ maxLen) (hbytes : (n + m) * i.bytes ≤ 140737488355328) {K : Value → World → Prop}
    (hK : ∀ p' c'' w', Row w' base e p' c'' (xs ++ news) → Ext (blocks p) w w' → Moved w p p' → (p' = none → xs ++ news = []) → K (.slice p' (n + m) c'') w') :
    rn P (Builtin.append_ #[t, t] ty #[.slice p n c, .slice q m c']) w K :=
  rn_appC ht hi hz hsize hzs hown hn hbase hsrc hm h1 h63 hbytes fun p' c'' w' h1 h2 h3 h4 _ => hK p' c'' w' h1 h2 h3 h4

/-- an append of one value, as the program writes it -/
theorem nw_app1 (ht : P.underlying t = some (.slice e)) (hi : P.info? e = some i) (hz : i.zero = some z) (hsize : i.size = 1) (hzs : z.cells.size = 1)
    {w : World} {base : Nat} {p : Option Addr} {n c : Nat} {xs : List Value} (hown : Row w base e p c xs) (hn : xs.length = n) (hbase : base ≤ w.heap.size)
    {v : Value} {t' : TypeId} (h1 : one v = true)
    (h63 : n + 1 ≤ maxLen) (hbytes : (n + 1) * i.bytes ≤ 140737488355328) {K : Value → World → Prop}
    (hK : ∀ p' c'' w', Row w' base e p' c'' (xs ++ [v]) → Ext (blocks p) w w' → Moved w p p' → K (.slice p' (n + 1) c'') w') :
    nw w (.cells #[v] t') fun r w1 => rn P (Builtin.append_ #[t, t] ty #[.slice p n c, .slice (some ⟨r, 0, none⟩) 1 1]) w1 K := by
  have hx : Ext no w (w.alloc (.cells #[v] t')) := Ext.alloc w _
  refine rn_app ht hi hz hsize hzs (hown.ext hx fun _ _ h => h) hn (Nat.le_trans hbase hx.size) (Reads.new w [v] t') rfl (by simpa using h1) h63 hbytes ?_
  intro p' c'' w' hr hE hmv _
  refine hK p' c'' w' hr ((Ext.of_no hx).then hE fun k _ hk => hk) ?_
  rcases hmv with h | h
  · exact .inl h
  · exact .inr fun a ha => Nat.le_trans hx.size (h a ha)

/-- make with room -/
theorem rn_make0 (ht : P.underlying t = some (.slice e)) (hi : P.info? e = some i) (hz : i.zero = some z) (hsize : i.size = 1)
    {w : World} {kl kc : IntKind} {c : Nat} (hbytes : i.bytes * c ≤ 281474976710656) (h63 : c ≤ maxLen) {K : Value → World → Prop}
    (hK : ∀ w', Row w' w.heap.size e (some ⟨w.heap.size, 0, none⟩) c [] → Ext no w w' → K (.slice (some ⟨w.heap.size, 0, none⟩) 0 c) w') :
    rn P (Instr.makeSlice t (.int kl 0) (.int kc (c : Int))) w K := by
  obtain ⟨w', hr, h2, h3⟩ := run_make_own (P := P) w w.heap.size t e i z 1 ht hi hz hsize kl kc c hbytes h63 (Nat.le_refl _)
  exact rn_mk hr (hK w' ⟨h2⟩ ((Ext.of_grown h3).mono fun _ _ h => by simp at h))

/-- make, full of zeros -/
theorem rn_makeN (ht : P.underlying t = some (.slice e)) (hi : P.info? e = some i) (hz : i.zero = some z) (hsize : i.size = 1) (hzs : z.cells = #[z])
    {w : World} {kl kc : IntKind} {n : Nat} (hbytes : i.bytes * n ≤ 281474976710656) (h63 : n ≤ maxLen) {K : Value → World → Prop}
    (hK : ∀ w', Row w' w.heap.size e (some ⟨w.heap.size, 0, none⟩) n (List.replicate n z) → Ext no w w' → K (.slice (some ⟨w.heap.size, 0, none⟩) n n) w') :
    rn P (Instr.makeSlice t (.int kl (n : Int)) (.int kc (n : Int))) w K := by
  obtain ⟨w', hr, h2, h3⟩ := run_make_full (P := P) w w.heap.size t e i z 1 ht hi hz hsize kl kc n hbytes h63 (Nat.le_refl _)
  rw [hzs, Nat.mul_one, toList_madeCells_one] at h2
  exact rn_mk hr (hK w' ⟨by simpa using h2⟩ ((Ext.of_grown h3).mono fun _ _ h => by simp at h))
end

/-- make with a length and room, told as the whole row -/
theorem rn_makeNC {P : Program} {t e : TypeId} {i : TypeInfo} {z : Value} (ht : P.underlying t = some (.slice e)) (hi : P.info? e = some i) (hz : i.zero = some z) (hsize : i.size = 1) (hzs : z.cells = #[z])
    {w : World} {kl kc : IntKind} {n c : Nat} (hnc : n ≤ c) (hbytes : i.bytes * c ≤ 281474976710656) (h63 : c ≤ maxLen) {K : Value → World → Prop}
    (hK : ∀ w', Row w' w.heap.size e (some ⟨w.heap.size, 0, Option.none⟩) c (List.replicate c z) → Ext no w w' → K (.slice (some ⟨w.heap.size, 0, Option.none⟩) n c) w') :
    rn P (Instr.makeSlice t (.int kl (n : Int)) (.int kc (c : Int))) w K := by
  have h63' : (c : Int) ≤ 9223372036854775807 := by
    simp only [maxLen] at h63
    omega
  have hb' : (i.bytes : Int) * (c : Int) ≤ 281474976710656 := by
    have h : ((i.bytes * c : Nat) : Int) ≤ 281474976710656 := by omega
    rwa [Int.natCast_mul] at h
  have hr := run_make (P := P) w t e i z ht hi hz kl kc n c (by omega) (by omega) hb' h63'
  simp only [Int.toNat_natCast] at hr
  refine rn_mk hr (hK _ ⟨?_⟩ (Ext.alloc w _))
  rw [hzs, hsize, Nat.mul_one]
  have := World.ownsRow_lit (base := w.heap.size) (e := e) (size := 1) w (madeCells #[z] c) c (Nat.le_refl _) h63 (by simp [madeCells])
  rw [toList_madeCells_one] at this
  simpa using this

/-- a copy to the head of a row -/
theorem rn_copy {P : Program} {t ty e e' : TypeId} (ht : P.underlying t = some (.slice e)) (hs : (P.info? e).map (·.size) = some 1)
    {w : World} {base : Nat} {p : Option Addr} {c : Nat} {xs : List Value} (h : Row w base e' p c xs) {n c1 : Nat} (hn : n ≤ xs.length)
    {q : Option Addr} {m c' : Nat} {news : List Value} (hsrc : Reads w q news) (hm : news.length = m) (hmn : m = n) (h1 : ∀ u ∈ news, one u = true) {K : Value → World → Prop}
    (hK : ∀ w', Row w' base e' p c (news ++ xs.drop news.length) → Ext (blocks p) w w' → K (.int .i64 (m : Int)) w') :
    rn P (Builtin.copy_ #[t, t] ty #[.slice p n c1, .slice q m c']) w K := by
  subst hmn hm
  have h1' : ∀ u ∈ news, u.oneCell' = true := fun u hu => one_of (h1 u hu)
  by_cases h0 : news = []
  · subst h0
    have hr : (Builtin.copy_ #[t, t] ty #[.slice p (List.length ([] : List Value)) c1, .slice q (List.length ([] : List Value)) c']).run P w = .ok (goInt 0) w := by
      cases hq : P.info? e with
      | none => simp [hq] at hs
      | some i => cases p <;> cases q <;> simp [Builtin.copy_, run_underlying ht, Builtin.lenOf, Builtin.firstCells, sizeOf, typeInfo, hq, storeCells, loadCells, loadCellsFrom]
    exact rn_mk hr (hK w (by simpa using h) (Ext.refl _ _))
  · rcases hsrc with hx | ⟨b, o, rfl, hc⟩
    · exact absurd hx h0
    · rcases h.cases with ⟨_, _, rfl⟩ | ⟨g, cur, rfl, hb, hg, hl, hcm, hcs, htk⟩
      · have : news.length = 0 := by simpa using hn
        exact absurd (List.eq_nil_of_length_eq_zero this) h0
      · have hr := run_copy_row (P := P) w t t ty e g 0 news.length c1 ⟨b, o, Option.none⟩ news.length c' cur e' news ht hs hg (by simp) (fun j v hv => by rw [add_mk]; exact hc j v hv) (by omega) h1'
        refine rn_mk hr (hK _ ⟨?_⟩ ⟨rfl, rfl, rfl, by simp [World.setRow], fun k _ hk => setRow_other w g k _ fun hkg => hk ⟨_, rfl, hkg.symm⟩⟩)
        have hll : (news ++ xs.drop news.length).length = xs.length := by simp; omega
        refine ⟨by simp, .inr ⟨g, c, _, by rw [hll], hb, setRow_heap w g cur _ e' _ hg, by rw [hll]; exact hl, hcm, ?_, ?_⟩⟩
        · simp
          omega
        · simp only [List.take_zero, List.nil_append, Nat.zero_add, Nat.mul_one, hll]
          rw [← htk]
          have e1 : (cur.toList.take xs.length).drop news.length = (cur.toList.drop news.length).take (xs.length - news.length) := by
            rw [List.drop_take]
          rw [e1]
          rw [List.take_append]
          have e2 : (List.take xs.length cur.toList).length = xs.length := by rw [htk]
          rw [e2]
          simp only [List.take_of_length_le hn]

/-- a type of slices whose elements take one cell -/
structure SlT (P : Program) (t e : TypeId) (z : Value) (b : Nat) : Prop where
  und : P.underlying t = some (.slice e)
  inf : ∃ i, P.info? e = some i ∧ i.zero = some z ∧ i.size = 1 ∧ i.bytes = b
  cells : z.cells = #[z]

section
variable {P : Program} {t ty e : TypeId} {z : Value} {b : Nat}

theorem SlT.appC (h : SlT P t e z b) {w : World} {base : Nat} {p : Option Addr} {n c : Nat} {xs : List Value} (hown : Row w base e p c xs) (hn : xs.length = n) (hbase : base ≤ w.heap.size)
    {q : Option Addr} {m c' : Nat} {news : List Value} (hsrc : Reads w q news) (hm : news.length = m) (h1 : ∀ u ∈ news, one u = true)
    (h63 : n + m ≤ maxLen) (hbytes : (n + m) * b ≤ 140737488355328) {K : Value → World → Prop}
    (hK : ∀ p' c'' w', Row w' base e p' c'' (xs ++ news) → Ext (blocks p) w w' → Moved w p p' → (p' = none → xs ++ news = []) → (n + m ≤ c → c'' = c) → K (.slice p' (n + m) c'') w') :
    rn P (Builtin.append_ #[t, t] ty #[.slice p n c, .slice q m c']) w K := by
  obtain ⟨i, hi, hz, hs, rfl⟩ := h.inf
  exact rn_appC h.und hi hz hs (by rw [h.cells]; rfl) hown hn hbase hsrc hm h1 h63 hbytes hK

theorem SlT.app (h : SlT P t e z b) {w : World} {base : Nat} {p : Option Addr} {n c : Nat} {xs : List Value} (hown : Row w base e p c xs) (hn : xs.length = n) (hbase : base ≤ w.heap.size)
    {q : Option Addr} {m c' : Nat} {news : List Value} (hsrc : Reads w q news) (hm : news.length = m) (h1 : ∀ u ∈ news, one u = true)
    (h63 : n + m ≤ maxLen) (hbytes : (n + m) * b ≤ 140737488355328) {K : Value → World → Prop}
    (hK : ∀ p' c'' w', Row w' base e p' c'' (xs ++ news) → Ext (blocks p) w w' → Moved w p p' → (p' = none → xs ++ news = []) → K (.slice p' (n + m) c'') w') :
    rn P (Builtin.append_ #[t, t] ty #[.slice p n c, .slice q m c']) w K := by
  obtain ⟨i, hi, hz, hs, rfl⟩ := h.inf
  exact rn_app h.und hi hz hs (by rw [h.cells]; rfl) hown hn hbase hsrc hm h1 h63 hbytes hK

theorem SlT.app1 (h : SlT P t e z b) {w : World} {base : Nat} {p : Option Addr} {n c : Nat} {xs : List Value} (hown : Row w base e p c xs) (hn : xs.length = n) (hbase : base ≤ w.heap.size)
    {v : Value} {t' : TypeId} (h1 : one v = true)
    (h63 : n + 1 ≤ maxLen) (hbytes : (n + 1) * b ≤ 140737488355328) {K : Value → World → Prop}
    (hK : ∀ p' c'' w', Row w' base e p' c'' (xs ++ [v]) → Ext (blocks p) w w' → Moved w p p' → K (.slice p' (n + 1) c'') w') :
    nw w (.cells #[v] t') fun r w1 => rn P (Builtin.append_ #[t, t] ty #[.slice p n c, .slice (some ⟨r, 0, none⟩) 1 1]) w1 K := by
  obtain ⟨i, hi, hz, hs, rfl⟩ := h.inf
  exact nw_app1 h.und hi hz hs (by rw [h.cells]; rfl) hown hn hbase h1 h63 hbytes hK

theorem SlT.make0 (h : SlT P t e z b) {w : World} {kl kc : IntKind} {c : Nat} (hbytes : b * c ≤ 281474976710656) (h63 : c ≤ maxLen) {K : Value → World → Prop}
    (hK : ∀ w', Row w' w.heap.size e (some ⟨w.heap.size, 0, none⟩) c [] → Ext no w w' → K (.slice (some ⟨w.heap.size, 0, none⟩) 0 c) w') :
    rn P (Instr.makeSlice t (.int kl 0) (.int kc (c : Int))) w K := by
  obtain ⟨i, hi, hz, hs, rfl⟩ := h.inf
  exact rn_make0 h.und hi hz hs hbytes h63 hK

theorem SlT.makeN (h : SlT P t e z b) {w : World} {kl kc : IntKind} {n : Nat} (hbytes : b * n ≤ 281474976710656) (h63 : n ≤ maxLen) {K : Value → World → Prop}
    (hK : ∀ w', Row w' w.heap.size e (some ⟨w.heap.size, 0, none⟩) n (List.replicate n z) → Ext no w w' → K (.slice (some ⟨w.heap.size, 0, none⟩) n n) w') :
    rn P (Instr.makeSlice t (.int kl (n : Int)) (.int kc (n : Int))) w K := by
  obtain ⟨i, hi, hz, hs, rfl⟩ := h.inf
  exact rn_makeN h.und hi hz hs h.cells hbytes h63 hK
end

theorem SlT.makeNC {P : Program} {t e : TypeId} {z : Value} {b : Nat} (h : SlT P t e z b) {w : World} {kl kc : IntKind} {n c : Nat} (hnc : n ≤ c) (hbytes : b * c ≤ 281474976710656) (h63 : c ≤ maxLen) {K : Value → World → Prop}
    (hK : ∀ w', Row w' w.heap.size e (some ⟨w.heap.size, 0, Option.none⟩) c (List.replicate c z) → Ext no w w' → K (.slice (some ⟨w.heap.size, 0, Option.none⟩) n c) w') :
    rn P (Instr.makeSlice t (.int kl (n : Int)) (.int kc (c : Int))) w K := by
  obtain ⟨i, hi, hz, hs, rfl⟩ := h.inf
  exact rn_makeNC h.und hi hz hs h.cells hnc hbytes h63 hK

theorem SlT.copy {P : Program} {t ty e : TypeId} {z : Value} {b : Nat} (ht : SlT P t e z b)
    {w : World} {base : Nat} {p : Option Addr} {c : Nat} {xs : List Value} (h : Row w base e p c xs) {n c1 : Nat} (hn : n ≤ xs.length)
    {q : Option Addr} {m c' : Nat} {news : List Value} (hsrc : Reads w q news) (hm : news.length = m) (hmn : m = n) (h1 : ∀ u ∈ news, one u = true) {K : Value → World → Prop}
    (hK : ∀ w', Row w' base e p c (news ++ xs.drop news.length) → Ext (blocks p) w w' → K (.int .i64 (m : Int)) w') :
    rn P (Builtin.copy_ #[t, t] ty #[.slice p n c1, .slice q m c']) w K := by
  obtain ⟨i, hi, hz, hs, rfl⟩ := ht.inf
  exact rn_copy ht.und (by rw [hi]; simp [hs]) h hn hsrc hm hmn h1 hK

/-- a part of a row that is read -/
theorem Reads.pre {w : World} {p : Option Addr} {xs ys : List Value} (h : Reads w p (xs ++ ys)) : Reads w p xs := by
  rcases h with h0 | ⟨b, o, rfl, hc⟩
  · exact .inl (List.append_eq_nil_iff.1 h0).1
  · exact .inr ⟨b, o, rfl, fun i v hv => hc i v (by rw [List.getElem?_append_left (List.getElem?_eq_some_iff.1 hv).1]; exact hv)⟩

theorem slp_block {p : Option Addr} {c n size : Nat} {a : Addr} (h : slp p c n size = some a) : ∃ b, p = some b ∧ b.block = a.block := by
  unfold slp at h
  split at h
  · exact ⟨a, h, rfl⟩
  · cases p with
    | none => simp at h
    | some b =>
      simp only [Option.map_some, Option.some.injEq] at h
      refine ⟨b, rfl, ?_⟩
      rw [← h]
      unfold Addr.add
      split <;> rfl

theorem Reads.drop {w : World} {p : Option Addr} {c n : Nat} {xs : List Value} (h : Reads w p xs) (hc : xs.length ≤ c) : Reads w (slp p c n 1) (xs.drop n) := by
  by_cases h0 : xs.drop n = []
  · exact .inl h0
  · have hn : n < xs.length := by
      by_cases hh : n < xs.length
      · exact hh
      · exact absurd (List.drop_eq_nil_of_le (by omega)) h0
    rcases h with h | ⟨b, o, rfl, hx⟩
    · subst h; simp at hn
    · have : slp (some ⟨b, o, Option.none⟩) c n 1 = some ⟨b, o + n, Option.none⟩ := by
        unfold slp
        rw [if_neg (by omega), Nat.mul_one]
        simp [add_mk]
      rw [this]
      refine .inr ⟨b, o + n, rfl, fun i v hv => ?_⟩
      rw [List.getElem?_drop] at hv
      have := hx _ _ hv
      rw [← this]
      congr 2
      omega

theorem le_maxLen {n : Nat} (h : n ≤ 140737488355328) : n ≤ maxLen := by simp only [maxLen]; omega

/-- the blocks from one on -/
def ge (b : Nat) : Nat → Prop := fun k => b ≤ k

theorem Ext.to_no {w w' : World} {b : Nat} (h : Ext (ge b) w w') (hb : w.heap.size ≤ b) : Ext no w w' := h.mono fun k hk hg => by
  have : b ≤ k := hg
  omega
theorem Ext.to_ge {w w' : World} {b : Nat} (h : Ext no w w') : Ext (ge b) w w' := Ext.of_no h

theorem Reads.lt {w : World} {p : Option Addr} {vs : List Value} (h : Reads w p vs) (hv : vs ≠ []) : ∃ a, p = some a ∧ a.block < w.heap.size := by
  rcases h with h0 | ⟨b, o, rfl, hc⟩
  · exact absurd h0 hv
  · cases vs with
    | nil => exact absurd rfl hv
    | cons v vs =>
      exact ⟨_, rfl, World.block_lt_of_cell? w _ (hc 0 v rfl)⟩

/-- what was there before stays readable -/
theorem Reads.old {w w' : World} {b : Nat} (hx : Ext (ge b) w w') (hb : w.heap.size ≤ b) {p : Option Addr} {vs : List Value} (h : Reads w p vs) : Reads w' p vs := by
  by_cases hv : vs = []
  · exact .inl hv
  · obtain ⟨a, rfl, hlt⟩ := h.lt hv
    refine h.ext hx fun x hx' hg => ?_
    cases hx'
    have : b ≤ a.block := hg
    omega

/-- numbers as values -/
def iv (k : IntKind) (zs : List Int) : List Value := zs.map (.int k)
theorem iv_length (k : IntKind) (zs : List Int) : (iv k zs).length = zs.length := by simp [iv]
theorem iv_get {k : IntKind} {zs : List Int} {i : Nat} (h : i < zs.length) : (iv k zs)[i]? = some (.int k (zs.getD i 0)) := by simp [iv, h]
def tv (l : List Bool) : List Value := l.map .bool
theorem tv_length (l : List Bool) : (tv l).length = l.length := by simp [tv]
theorem tv_get {l : List Bool} {i : Nat} (h : i < l.length) : (tv l)[i]? = some (.bool (l.getD i false)) := by simp [tv, h]

/-! ### Bytes -/
def bv (bs : List Nat) : List Value := bs.map fun (b : Nat) => .int .u8 (b : Int)
theorem bv_length (bs : List Nat) : (bv bs).length = bs.length := by simp [bv]
theorem bv_one {bs : List Nat} : ∀ u ∈ bv bs, one u = true := by
  intro u hu
  simp only [bv, List.mem_map] at hu
  obtain ⟨b, _, rfl⟩ := hu
  rfl
theorem bv_get {bs : List Nat} {i : Nat} (h : i < bs.length) : (bv bs)[i]? = some (.int .u8 ((bs.getD i 0 : Nat) : Int)) := by
  simp [bv, h]
theorem bv_append (a b : List Nat) : bv (a ++ b) = bv a ++ bv b := by simp [bv]
theorem bv_inj {a b : List Nat} (h : bv a = bv b) : a = b := by
  have hf : ∀ x y : Nat, (Value.int .u8 (x : Int)) = .int .u8 (y : Int) → x = y := by
    intro x y h
    cases h; rfl
  exact (List.map_inj_right hf).1 h

/-- the string of bytes -/
def strB (bs : List Nat) : ByteArray := strOfNums (bs.map fun (b : Nat) => (b : Int))

theorem run_str {P : Program} {src dst e : TypeId} (hs : P.underlying src = some (.slice e)) (he : P.underlying e = some (.int .u8)) (hd : P.underlying dst = some .string)
    {w : World} {p : Option Addr} {n c : Nat} {bs : List Nat} (hr : Reads w p (bv bs)) (hn : bs.length = n) (hp : p = none → bs = []) :
    (convert src dst (.slice p n c)).run P w = .ok (.string (strB bs)) w := by
  subst hn
  rcases hr with h0 | ⟨b, o, rfl, hc⟩
  · have hb : bs = [] := by simpa [bv] using h0
    subst hb
    cases p with
    | none =>
      have := run_convert_bytes_nil (P := P) w src e hs he 0 c dst hd
      exact this
    | some a =>
      rw [run_convert_bytes_string w src dst e _ _ _ hs he hd]
      simp [Conv.bytesToString, strB, strOfNums, loadCells, loadCellsFrom]
      rfl
  · refine run_convert_bytes_arg (P := P) w src e hs he b o _ c (bs.map fun (x : Nat) => (x : Int)) (by simp) ?_ dst hd
    intro i hi
    have := hc i _ (bv_get hi)
    rw [this]
    congr 2
    simp [List.getD_eq_getElem?_getD, hi]
end Go.Sx

/- Sk: the blocks of one's own that a walk knows, kept in one list beside the world: what is loaded from them, stored to them, laid anew. No condition. -/
namespace Go.Sx
open Go Go.RowKit

/-- from w0 on: nothing old was written; each listed block (number, cells, type) stands as listed -/
structure St (w0 w : World) (L : List (Nat × List Value × TypeId)) : Prop where
  ext : Ext no w0 w
  kn : ∀ b ∈ L, w.heap[b.1]? = some (.cells b.2.1.toArray b.2.2 (0, 0)) ∧ w0.heap.size ≤ b.1
  nd : L.Pairwise fun a b => a.1 ≠ b.1

theorem St.start (w0 : World) : St w0 w0 [] := ⟨Ext.refl _ _, by simp, List.Pairwise.nil⟩

theorem St.nw {w0 w : World} {L : List (Nat × List Value × TypeId)} (h : St w0 w L) {cs : List Value} {t : TypeId} {K : Nat → World → Prop}
    (hK : ∀ r w', St w0 w' ((r, cs, t) :: L) → K r w') : nw w (.cells cs.toArray t) K := by
  refine nw_mk (hK _ _ ⟨h.ext.trans (Ext.alloc w _), fun b hb => ?_, ?_⟩)
  · rcases List.mem_cons.1 hb with rfl | hb
    · exact ⟨new_blk w _, h.ext.size⟩
    · exact ⟨(Ext.alloc w _).blk (h.kn b hb).1 (fun hf => hf), (h.kn b hb).2⟩
  · refine List.Pairwise.cons (fun b hb => ?_) h.nd
    have := blk_lt (h.kn b hb).1
    simp only
    omega

theorem St.alloc {w0 w : World} {L : List (Nat × List Value × TypeId)} (h : St w0 w L) (cs : List Value) (t : TypeId) : St w0 (w.alloc (.cells cs.toArray t)) ((w.heap.size, cs, t) :: L) := by
  have := h.nw (cs := cs) (t := t) (K := fun r w' => r = w.heap.size → w' = w.alloc (.cells cs.toArray t) → St w0 w' ((r, cs, t) :: L)) (fun r w' hs _ _ => hs)
  exact this rfl rfl

theorem St.to {w0 w w' : World} {L : List (Nat × List Value × TypeId)} (h : St w0 w L) (hx : Ext no w w') : St w0 w' L :=
  ⟨h.ext.trans hx, fun b hb => ⟨hx.blk (h.kn b hb).1 (fun hf => hf), (h.kn b hb).2⟩, h.nd⟩

theorem St.dw {w0 w : World} {L : List (Nat × List Value × TypeId)} (h : St w0 w L) {K : World → Prop} (hK : ∀ w', St w0 w' L → Ext no w w' → K w') : dw w K :=
  hK w.drew (h.to (Ext.drew w)) (Ext.drew w)

theorem St.cell {w0 w : World} {L : List (Nat × List Value × TypeId)} (h : St w0 w L) (i : Nat) {r : Nat} {cs : List Value} {t : TypeId} (hL : L[i]? = some (r, cs, t)) {j : Nat} {v : Value} (hj : cs[j]? = some v) :
    w.cell? ⟨r, j, none⟩ = some v := by
  have hk := (h.kn _ (List.mem_of_getElem? hL)).1
  rw [blk_cell hk]
  simpa using hj

theorem St.ld0 {w0 w : World} {L : List (Nat × List Value × TypeId)} (h : St w0 w L) (i : Nat) {r : Nat} {cs : List Value} {t : TypeId} (hL : L[i]? = some (r, cs, t)) {v : Value} (hj : cs[0]? = some v) {K : Value → Prop} (hK : K v) :
    ld w ⟨r, 0, none⟩ K := ld_mk (h.cell i hL hj) hK
theorem St.ld {w0 w : World} {L : List (Nat × List Value × TypeId)} (h : St w0 w L) (i : Nat) {r : Nat} {cs : List Value} {t : TypeId} (hL : L[i]? = some (r, cs, t)) {j : Nat} {v : Value} (hj : cs[j]? = some v) {K : Value → Prop} (hK : K v) :
    ld w (Addr.add ⟨r, 0, none⟩ j) K := by
  rw [add_mk, Nat.zero_add]
  exact ld_mk (h.cell i hL hj) hK
theorem St.hd0 {w0 w : World} {L : List (Nat × List Value × TypeId)} (h : St w0 w L) (i : Nat) {r : Nat} {cs : List Value} {t : TypeId} (hL : L[i]? = some (r, cs, t)) {v : Value} (hj : cs[0]? = some v) {X : Prop} (hX : X) :
    hd w ⟨r, 0, none⟩ v X := ⟨h.cell i hL hj, hX⟩
theorem St.hd {w0 w : World} {L : List (Nat × List Value × TypeId)} (h : St w0 w L) (i : Nat) {r : Nat} {cs : List Value} {t : TypeId} (hL : L[i]? = some (r, cs, t)) {j : Nat} {v : Value} (hj : cs[j]? = some v) {X : Prop} (hX : X) :
    hd w (Addr.add ⟨r, 0, none⟩ j) v X := by
  rw [add_mk, Nat.zero_add]
  exact ⟨h.cell i hL hj, hX⟩

theorem St.stj {w0 w : World} {L : List (Nat × List Value × TypeId)} (h : St w0 w L) (i : Nat) {r : Nat} {cs : List Value} {t : TypeId} (hL : L[i]? = some (r, cs, t)) {j : Nat} {u : Value} (hj : cs[j]? = some u) {v : Value} (h1 : one v = true) {K : World → Prop}
    (hK : ∀ w', St w0 w' (L.set i (r, cs.set j v, t)) → Ext (onl r) w w' → K w') : st w ⟨r, j, none⟩ v K := by
  have hk := h.kn _ (List.mem_of_getElem? hL)
  simp only at hk
  have hil : i < L.length := (List.getElem?_eq_some_iff.1 hL).1
  have hlt : j < cs.length := (List.getElem?_eq_some_iff.1 hj).1
  have hx := Ext.set w ⟨r, j, none⟩ v
  refine st_mk hk.1 (by simpa using hlt) h1 (hK _ ⟨h.ext.then hx fun k hk' hkr => ?_, fun b hb => ?_, ?_⟩ hx)
  · have : k = r := hkr
    omega
  · obtain ⟨m, hm⟩ := List.getElem?_of_mem hb
    by_cases hmi : m = i
    · subst hmi
      rw [List.getElem?_set_self hil] at hm
      cases hm
      refine ⟨?_, hk.2⟩
      simp only
      rw [blk_set hk.1]
      simp
    · rw [List.getElem?_set_ne (fun e => hmi e.symm)] at hm
      have hkb := h.kn b (List.mem_of_getElem? hm)
      refine ⟨hx.blk hkb.1 fun hbr => ?_, hkb.2⟩
      have hbr' : b.1 = r := hbr
      have hml : m < L.length := (List.getElem?_eq_some_iff.1 hm).1
      have em : L[m] = b := (List.getElem?_eq_some_iff.1 hm).2
      have ei : L[i] = (r, cs, t) := (List.getElem?_eq_some_iff.1 hL).2
      have hp := List.pairwise_iff_getElem.1 h.nd
      rcases Nat.lt_or_gt_of_ne hmi with hlt' | hlt'
      · have := hp m i hml hil hlt'
        rw [em, ei] at this
        exact this hbr'
      · have := hp i m hil hml hlt'
        rw [em, ei] at this
        exact this hbr'.symm
  · have hmap : (L.set i (r, cs.set j v, t)).map (·.1) = L.map (·.1) := by
      rw [List.map_set]
      apply List.ext_getElem?
      intro m
      by_cases hmi : m = i
      · subst hmi
        rw [List.getElem?_set_self (by simpa using hil), List.getElem?_map, hL]
        rfl
      · rw [List.getElem?_set_ne (fun e => hmi e.symm)]
    have hnd : (L.map (·.1)).Pairwise (· ≠ ·) := List.pairwise_map.2 h.nd
    rw [← hmap] at hnd
    exact List.pairwise_map.1 hnd

theorem St.st0 {w0 w : World} {L : List (Nat × List Value × TypeId)} (h : St w0 w L) (i : Nat) {r : Nat} {cs : List Value} {t : TypeId} (hL : L[i]? = some (r, cs, t)) {u : Value} (hj : cs[0]? = some u) {v : Value} (h1 : one v = true) {K : World → Prop}
    (hK : ∀ w', St w0 w' (L.set i (r, cs.set 0 v, t)) → K w') : st w ⟨r, 0, none⟩ v K := h.stj i hL hj h1 fun w' h _ => hK w' h
theorem St.st {w0 w : World} {L : List (Nat × List Value × TypeId)} (h : St w0 w L) (i : Nat) {r : Nat} {cs : List Value} {t : TypeId} (hL : L[i]? = some (r, cs, t)) {j : Nat} {u : Value} (hj : cs[j]? = some u) {v : Value} (h1 : one v = true) {K : World → Prop}
    (hK : ∀ w', St w0 w' (L.set i (r, cs.set j v, t)) → K w') : st w (Addr.add ⟨r, 0, none⟩ j) v K := by
  rw [add_mk, Nat.zero_add]
  exact h.stj i hL hj h1 fun w' h _ => hK w' h

theorem St.ldd {w0 w : World} {L : List (Nat × List Value × TypeId)} (h : St w0 w L) (i : Nat) {r : Nat} {cs : List Value} {t : TypeId} (hL : L[i]? = some (r, cs, t)) {j k : Nat} {v : Value} (hj : cs[j + k]? = some v) {K : Value → Prop} (hK : K v) :
    Sx.ld w (Addr.add (Addr.add ⟨r, 0, none⟩ j) k) K := by
  rw [add_mk, add_mk, Nat.zero_add]
  exact ld_mk (h.cell i hL hj) hK
theorem St.hdd {w0 w : World} {L : List (Nat × List Value × TypeId)} (h : St w0 w L) (i : Nat) {r : Nat} {cs : List Value} {t : TypeId} (hL : L[i]? = some (r, cs, t)) {j k : Nat} {v : Value} (hj : cs[j + k]? = some v) {X : Prop} (hX : X) :
    Sx.hd w (Addr.add (Addr.add ⟨r, 0, none⟩ j) k) v X := by
  rw [add_mk, add_mk, Nat.zero_add]
  exact ⟨h.cell i hL hj, hX⟩
theorem St.std {w0 w : World} {L : List (Nat × List Value × TypeId)} (h : St w0 w L) (i : Nat) {r : Nat} {cs : List Value} {t : TypeId} (hL : L[i]? = some (r, cs, t)) {j k : Nat} {u : Value} (hj : cs[j + k]? = some u) {v : Value} (h1 : one v = true) {K : World → Prop}
    (hK : ∀ w', St w0 w' (L.set i (r, cs.set (j + k) v, t)) → K w') : Sx.st w (Addr.add (Addr.add ⟨r, 0, none⟩ j) k) v K := by
  rw [add_mk, add_mk, Nat.zero_add]
  exact h.stj i hL hj h1 fun w' h _ => hK w' h

theorem St.swap {w0 w : World} {a b : Nat × List Value × TypeId} {L : List (Nat × List Value × TypeId)} (h : St w0 w (a :: b :: L)) : St w0 w (b :: a :: L) := by
  refine ⟨h.ext, fun c hc => h.kn c ?_, ?_⟩
  · simp only [List.mem_cons] at hc ⊢
    rcases hc with h | h | h
    · exact .inr (.inl h)
    · exact .inl h
    · exact .inr (.inr h)
  · have hp := h.nd
    simp only [List.pairwise_cons, List.mem_cons] at hp ⊢
    obtain ⟨h1, h2, h3⟩ := hp
    refine ⟨?_, ?_, h3⟩
    · rintro c (rfl | hc)
      · exact fun e => h1 b (.inl rfl) e.symm
      · exact h2 c hc
    · exact fun c hc => h1 c (.inr hc)

/-- from a later world on -/
theorem St.tail {w0 w : World} {a : Nat × List Value × TypeId} {L : List (Nat × List Value × TypeId)} (h : St w0 w (a :: L)) : St w0 w L :=
  ⟨h.ext, fun c hc => h.kn c (List.mem_cons_of_mem _ hc), (List.pairwise_cons.1 h.nd).2⟩

theorem so_i {α : Type} {o : Option α} {v : α} {K : α → Prop} (e : o = some v) (h : K v) : so o K := by subst e; exact h

/-- a slice of values of three cells: one of them -/
theorem Reads.at3 {w : World} {p : Option Addr} {vs : List Value} (hr : Reads w p vs) {i : Int} {n : Nat} (h0 : 0 ≤ i) (hi : i.toNat < n) (hn : vs.length = n * 3) {K : Addr → Prop}
    (hK : ∀ a, w.cell? (Addr.add a (Int.toNat i * 3)) = vs[i.toNat * 3]? → w.cell? (Addr.add (Addr.add a (Int.toNat i * 3)) 1) = vs[i.toNat * 3 + 1]? → w.cell? (Addr.add (Addr.add a (Int.toNat i * 3)) 2) = vs[i.toNat * 3 + 2]? → K a) :
    dr p fun a => bnd i n (K a) := by
  have e : ∀ k, k < 3 → ∃ v, vs[i.toNat * 3 + k]? = some v := fun k hk => by
    have : i.toNat * 3 + k < vs.length := by rw [hn]; omega
    exact ⟨_, List.getElem?_eq_getElem this⟩
  rcases hr with h | ⟨b, o, rfl, hc⟩
  · rw [h] at hn
    simp at hn
    omega
  · refine dr_i (bnd_mk h0 (by omega) (hK _ ?_ ?_ ?_))
    · obtain ⟨v, hv⟩ := e 0 (by decide)
      rw [add_mk, ← Nat.add_zero (i.toNat * 3), hv]
      exact hc _ _ hv
    · obtain ⟨v, hv⟩ := e 1 (by decide)
      rw [add_mk, add_mk, hv, Nat.add_assoc]
      exact hc _ _ hv
    · obtain ⟨v, hv⟩ := e 2 (by decide)
      rw [add_mk, add_mk, hv, Nat.add_assoc]
      exact hc _ _ hv
theorem dr_mk' {p : Option Addr} {a : Addr} {K : Addr → Prop} (e : p = some a) (h : K a) : dr p K := by subst e; exact h
theorem eqW_mk {P : Program} {t : TypeId} {x y : Value} {K : Bool → Prop} {b : Bool} (hg : P.eqGuardType P.depth t = false) (hr : ∀ w, (Op.equal t x y).run P w = .ok b w) (h : K b) : eqW P t x y K := ⟨hg, b, hr, h⟩

end Go.Sx

/- Nums: whole numbers as Go's operators leave them, in plain numbers: wraps that do nothing, bit operators on natural numbers. No condition. -/
namespace Go.Sx
open Go

theorem pow_le_of {a b : Nat} (h : a ≤ b) : 2 ^ a ≤ 2 ^ b := Nat.pow_le_pow_right (by decide) h
theorem wr64 {n : Int} (h : -9223372036854775808 ≤ n) (h' : n ≤ 9223372036854775807) : IntKind.wrap .i64 n = n := by rw [IntKind.wrap_i64]; omega
theorem wr8 {n : Int} (h : 0 ≤ n) (h' : n ≤ 255) : IntKind.wrap .u8 n = n := by
  have : IntKind.wrap .u8 n = n % 256 := by simp [IntKind.wrap, IntKind.bits, IntKind.signed]
  rw [this]; omega

theorem ofInt_nat (n a : Nat) (h : a < 2 ^ n) : (BitVec.ofInt n (a : Int)).toNat = a := by
  simp
  exact Nat.mod_eq_of_lt h

theorem bits_and_nat {k : IntKind} {a b : Nat} (ha : a < 2 ^ k.bits) (hb : b < 2 ^ k.bits) : Go.bits .and k a b = k.wrap ((a &&& b : Nat) : Int) := by
  simp only [Go.bits, BitVec.toNat_and, ofInt_nat _ _ ha, ofInt_nat _ _ hb]
theorem bits_or_nat {k : IntKind} {a b : Nat} (ha : a < 2 ^ k.bits) (hb : b < 2 ^ k.bits) : Go.bits .or k a b = k.wrap ((a ||| b : Nat) : Int) := by
  simp only [Go.bits, BitVec.toNat_or, ofInt_nat _ _ ha, ofInt_nat _ _ hb]
theorem bits_xor_nat {k : IntKind} {a b : Nat} (ha : a < 2 ^ k.bits) (hb : b < 2 ^ k.bits) : Go.bits .xor k a b = k.wrap ((a ^^^ b : Nat) : Int) := by
  simp only [Go.bits, BitVec.toNat_xor, ofInt_nat _ _ ha, ofInt_nat _ _ hb]

theorem fdiv_pow (v m : Nat) : Int.fdiv (v : Int) (2 ^ m) = ((v >>> m : Nat) : Int) := by
  have h : ((2 : Int) ^ m) = ((2 ^ m : Nat) : Int) := by simp
  rw [h, Int.fdiv_eq_ediv_of_nonneg _ (Int.natCast_nonneg _), Nat.shiftRight_eq_div_pow]
  simp

theorem and_mask (v k : Nat) : v &&& (2 ^ k - 1) = v % 2 ^ k := by
  rw [Nat.and_two_pow_sub_one_eq_mod]

/-- one bit of a byte, as the program takes it -/
theorem bit_out {x : Nat} (hx : x < 256) {s : Nat} : Go.bits .and .u8 (Int.fdiv (x : Int) (2 ^ s)) (1 : Int) = ((x.testBit s).toNat : Int) := by
  rw [fdiv_pow]
  have h1 : x >>> s < 2 ^ IntKind.u8.bits := by
    have : x >>> s ≤ x := Nat.shiftRight_le x s
    simp [IntKind.bits]; omega
  have := bits_and_nat (k := .u8) (a := x >>> s) (b := 1) h1 (by simp [IntKind.bits])
  rw [show ((1 : Nat) : Int) = (1 : Int) from rfl] at this
  rw [this]
  have h2 : x >>> s &&& 1 = (x.testBit s).toNat := by
    rw [Nat.and_one_is_mod, Nat.testBit_eq_decide_div_mod_eq, Nat.shiftRight_eq_div_pow]
    rcases Nat.mod_two_eq_zero_or_one (x / 2 ^ s) with h | h <;> simp [h]
  rw [h2, wr8 (by omega)]
  cases x.testBit s <;> decide

theorem or_low (v : Nat) (b : Bool) : 2 * v ||| b.toNat = 2 * v + b.toNat := by
  have := Nat.two_pow_add_eq_or_of_lt (i := 1) (b := b.toNat) (by cases b <;> decide) v
  simpa using this.symm
theorem bit64 {v : Nat} (hv : v < 2 ^ 63) (i : Nat) : Go.bits .and .i64 (Int.fdiv (v : Int) (2 ^ i)) (1 : Int) = ((v.testBit i).toNat : Int) := by
  rw [fdiv_pow]
  have h63 : (2 : Nat) ^ 63 = 9223372036854775808 := by decide
  have h1 : v >>> i < 2 ^ IntKind.i64.bits := by
    have : v >>> i ≤ v := Nat.shiftRight_le v i
    simp only [IntKind.bits]
    omega
  have := bits_and_nat (k := .i64) (a := v >>> i) (b := 1) h1 (by simp [IntKind.bits])
  rw [show ((1 : Nat) : Int) = (1 : Int) from rfl] at this
  rw [this]
  have h2 : v >>> i &&& 1 = (v.testBit i).toNat := by
    rw [Nat.and_one_is_mod, Nat.testBit_eq_decide_div_mod_eq, Nat.shiftRight_eq_div_pow]
    rcases Nat.mod_two_eq_zero_or_one (v / 2 ^ i) with h | h <;> simp [h]
  rw [h2]
  cases v.testBit i <;> decide

theorem xor_byte {x : Nat} (hx : x < 256) : Go.bits .xor .u8 (x : Int) 255 = ((x ^^^ 255 : Nat) : Int) ∧ x ^^^ 255 < 256 ∧ (x ^^^ 255) ^^^ 255 = x := by
  have h : x ^^^ 255 < 2 ^ 8 := Nat.xor_lt_two_pow (by omega) (by decide)
  have := bits_xor_nat (k := .u8) (a := x) (b := 255) (by simp only [IntKind.bits]; omega) (by simp [IntKind.bits])
  rw [show ((255 : Nat) : Int) = (255 : Int) from rfl] at this
  refine ⟨by rw [this, wr8 (by omega) (by omega)], by omega, ?_⟩
  rw [Nat.xor_assoc, Nat.xor_self, Nat.xor_zero]

/-- a byte with one bit more -/
theorem or_bit {x k : Nat} (hx : x < 256) (hk : k ≤ 7) : Go.bits .or .u8 (x : Int) (IntKind.wrap .u8 ((1 : Int) * 2 ^ (min (Int.toNat (k : Int)) 8))) = ((x ||| 2 ^ k : Nat) : Int) ∧ x ||| 2 ^ k < 256 := by
  have hm : min (Int.toNat (k : Int)) 8 = k := by rw [Int.toNat_natCast]; omega
  have hp : 2 ^ k ≤ 2 ^ 7 := pow_le_of hk
  have h7 : (2 : Nat) ^ 7 = 128 := by decide
  have hp0 : 0 < 2 ^ k := Nat.two_pow_pos k
  have e1 : ((1 : Int) * 2 ^ k) = ((2 ^ k : Nat) : Int) := by simp
  have hlt : x ||| 2 ^ k < 2 ^ 8 := Nat.or_lt_two_pow (by omega) (by omega)
  rw [hm, e1, wr8 (n := ((2 ^ k : Nat) : Int)) (by omega) (by omega), bits_or_nat (by simp only [IntKind.bits]; omega) (by simp only [IntKind.bits]; omega)]
  exact ⟨wr8 (by omega) (by omega), by omega⟩

theorem tdiv_nat (a b : Nat) : Int.tdiv (a : Int) (b : Int) = ((a / b : Nat) : Int) := rfl
theorem tmod_nat (a b : Nat) : Int.tmod (a : Int) (b : Int) = ((a % b : Nat) : Int) := rfl
theorem tdiv8 (a : Nat) : Int.tdiv (a : Int) (8 : Int) = ((a / 8 : Nat) : Int) := rfl
theorem tmod8 (a : Nat) : Int.tmod (a : Int) (8 : Int) = ((a % 8 : Nat) : Int) := rfl


/-- the last bits of a byte -/
theorem low_u8 {x n : Nat} (hx : x < 256) (hn : n ≤ 7) : Go.bits .and .u8 (x : Int) (IntKind.wrap .u8 ((IntKind.wrap .u8 ((1 : Int) * 2 ^ (min (Int.toNat (n : Int)) 8))) - (1 : Int))) = ((x % 2 ^ n : Nat) : Int) := by
  have hm : min (Int.toNat (n : Int)) 8 = n := by rw [Int.toNat_natCast]; omega
  have hp : 2 ^ n ≤ 2 ^ 7 := pow_le_of hn
  have hp0 : 0 < 2 ^ n := Nat.two_pow_pos n
  have h7 : (2 : Nat) ^ 7 = 128 := by decide
  have e1 : ((1 : Int) * 2 ^ n) = ((2 ^ n : Nat) : Int) := by simp
  have e2 : ((2 ^ n : Nat) : Int) - 1 = ((2 ^ n - 1 : Nat) : Int) := by omega
  rw [hm, e1, wr8 (n := ((2 ^ n : Nat) : Int)) (by omega) (by omega), e2, wr8 (n := ((2 ^ n - 1 : Nat) : Int)) (by omega) (by omega)]
  rw [bits_and_nat (by simp [IntKind.bits]; omega) (by simp [IntKind.bits]; omega), and_mask]
  have : x % 2 ^ n < 2 ^ n := Nat.mod_lt _ hp0
  exact wr8 (by omega) (by omega)

/-- the byte that a round of bits gives -/
theorem put_byte {x v m k free : Nat} (hx : x < 256) (hv : v < 2 ^ 63) (hk : k ≤ free) (hf : free ≤ 8) (hkm : k ≤ m) (hm : m ≤ 63) :
    Go.bits .or .u8 (x : Int) (IntKind.wrap .u8 ((IntKind.wrap .u8 (Go.bits .and .i64 (Int.fdiv (v : Int) (2 ^ (min (Int.toNat ((m - k : Nat) : Int)) 64))) (IntKind.wrap .i64 ((IntKind.wrap .i64 ((1 : Int) * 2 ^ (min (Int.toNat (k : Int)) 64))) - (1 : Int))))) * 2 ^ (min (Int.toNat ((free - k : Nat) : Int)) 8))) =
      ((x ||| (((v >>> (m - k)) &&& (2 ^ k - 1)) <<< (free - k)) : Nat) : Int) := by
  have h1 : min (Int.toNat ((m - k : Nat) : Int)) 64 = m - k := by rw [Int.toNat_natCast]; omega
  have h2 : min (Int.toNat (k : Int)) 64 = k := by rw [Int.toNat_natCast]; omega
  have h3 : min (Int.toNat ((free - k : Nat) : Int)) 8 = free - k := by rw [Int.toNat_natCast]; omega
  have hp : 2 ^ k ≤ 2 ^ 8 := pow_le_of (by omega)
  have hp0 : 0 < 2 ^ k := Nat.two_pow_pos k
  have h8 : (2 : Nat) ^ 8 = 256 := by decide
  have h63 : (2 : Nat) ^ 63 = 9223372036854775808 := by decide
  have h64 : (2 : Nat) ^ 64 = 18446744073709551616 := by decide
  have hs : v >>> (m - k) ≤ v := Nat.shiftRight_le v _
  have e1 : ((1 : Int) * 2 ^ k) = ((2 ^ k : Nat) : Int) := by simp
  have e2 : ((2 ^ k : Nat) : Int) - 1 = ((2 ^ k - 1 : Nat) : Int) := by omega
  rw [h1, h2, h3, fdiv_pow, e1, wr64 (n := ((2 ^ k : Nat) : Int)) (by omega) (by omega), e2, wr64 (n := ((2 ^ k - 1 : Nat) : Int)) (by omega) (by omega)]
  rw [bits_and_nat (k := .i64) (by simp only [IntKind.bits]; omega) (by simp only [IntKind.bits]; omega)]
  have hy : v >>> (m - k) &&& (2 ^ k - 1) < 2 ^ k := by rw [and_mask]; exact Nat.mod_lt _ hp0
  generalize v >>> (m - k) &&& (2 ^ k - 1) = y at hy
  rw [wr64 (n := (y : Int)) (by omega) (by omega), wr8 (n := (y : Int)) (by omega) (by omega)]
  have e3 : ((y : Int) * 2 ^ (free - k)) = ((y <<< (free - k) : Nat) : Int) := by rw [Nat.shiftLeft_eq]; simp
  have hz : y <<< (free - k) < 2 ^ 8 := by
    rw [Nat.shiftLeft_eq]
    calc y * 2 ^ (free - k) < 2 ^ k * 2 ^ (free - k) := Nat.mul_lt_mul_of_pos_right hy (Nat.two_pow_pos _)
      _ = 2 ^ (k + (free - k)) := (Nat.pow_add 2 k (free - k)).symm
      _ ≤ 2 ^ 8 := pow_le_of (by omega)
  rw [e3]
  generalize y <<< (free - k) = z at hz
  rw [wr8 (n := (z : Int)) (by omega) (by omega), bits_or_nat (k := .u8) (by simp only [IntKind.bits]; omega) (by simp only [IntKind.bits]; omega)]
  have : x ||| z < 2 ^ 8 := Nat.or_lt_two_pow (by omega) hz
  rw [wr8 (by omega) (by omega)]
end Go.Sx

/- Bo: what the functions of package box and of the document's answer do, told as contracts: parts, gaps, meeting. Conditions: those of each theorem, on its arguments. -/
namespace Go.Proofs.YtamobmjfdiecbaaDoor
open Go Go.Sx
attribute [local irreducible] jn lv ld st nw asI asB asP asS asY asM asF asA asT lp rn ru rq cl dw dr bnd bn2 nz nn hd hr so eqW

structure Bx where
  x : Int
  y : Int
  r : Int

def Bx.cells (b : Bx) : List Value := [.int .i64 b.x, .int .i64 b.y, .int .i64 b.r]
def Bx.v (b : Bx) : Value := .agg b.cells.toArray
def vv (x y : Int) : Value := .agg #[.int .i64 x, .int .i64 y]

def within (n : Int) : Bool := decide (-1152921504606846976 ≤ n) && decide (n ≤ 1152921504606846976)
def Bx.right (b : Bx) : Bool := within b.x && within b.y && decide (1 ≤ b.r) && decide (b.r ≤ 1099511627776)
def Bx.rightE (b : Bx) : Int := if b.right then 0 else 60
def Bx.at (b : Bx) (k : Bool) : Int := if k then b.y else b.x
def adiff (p q : Int) : Int := if q - p > p - q then q - p else p - q
def gap (a b : Bx) (k : Bool) : Int := adiff (a.at k) (b.at k) - a.r - b.r

theorem within_iff {n : Int} : within n = true ↔ -1152921504606846976 ≤ n ∧ n ≤ 1152921504606846976 := by simp [within]
theorem right_iff {b : Bx} : b.right = true ↔ (-1152921504606846976 ≤ b.x ∧ b.x ≤ 1152921504606846976) ∧ (-1152921504606846976 ≤ b.y ∧ b.y ≤ 1152921504606846976) ∧ 1 ≤ b.r ∧ b.r ≤ 1099511627776 := by
  simp [Bx.right, within, and_assoc]

theorem within_k {n : Int} {w : World} {K : Value → World → Prop} (hK : K (.bool (within n)) w) : cl Tryd.prog 45 #[.int .i64 n] w K := by
  apply F45_calls
  unfold F45
  refine jn_mk (cond_split (fun h => asB_i rfl ?_) (fun h => asB_i rfl ?_))
  · have : within n = decide (n ≤ 1152921504606846976) := by unfold within; rw [h]; rfl
    rw [← this]; exact hK
  · have : within n = false := by unfold within; rw [h]; rfl
    rw [← this]; exact hK

theorem right_k {b : Bx} {w : World} {K : Value → World → Prop} (hK : ∀ w', Ext no w w' → K (.int .i64 b.rightE) w') : cl Tryd.prog 31 #[b.v] w K := by
  apply F31_calls
  unfold F31
  have hS := St.start w
  repeat (first | (refine asI_i rfl ?_) | (refine asB_i rfl ?_) | (refine asP_i rfl ?_) | (refine asS_i rfl ?_) | (refine asY_i rfl ?_) | (refine asM_i rfl ?_) | (refine asA_i rfl rfl ?_) | (refine asT_i rfl rfl ?_) | (refine lv_i ?_) | (refine St.nw hS ?_; clear hS; intro _ _ hS) | (refine St.dw hS ?_; clear hS; intro _ hS _) | (refine hS.ld0 0 rfl rfl ?_) | (refine hS.ld 0 rfl rfl ?_) | (refine hS.ld0 1 rfl rfl ?_) | (refine hS.ld 1 rfl rfl ?_) | (refine hS.ld0 2 rfl rfl ?_) | (refine hS.ld 2 rfl rfl ?_) | (refine hS.ld0 3 rfl rfl ?_) | (refine hS.ld 3 rfl rfl ?_) | (refine hS.ld0 4 rfl rfl ?_) | (refine hS.ld 4 rfl rfl ?_) | (refine hS.ld0 5 rfl rfl ?_) | (refine hS.ld 5 rfl rfl ?_) | (refine hS.ld0 6 rfl rfl ?_) | (refine hS.ld 6 rfl rfl ?_) | (refine hS.ld0 7 rfl rfl ?_) | (refine hS.ld 7 rfl rfl ?_) | (refine hS.hd0 0 rfl rfl ?_) | (refine hS.hd 0 rfl rfl ?_) | (refine hS.hd0 1 rfl rfl ?_) | (refine hS.hd 1 rfl rfl ?_) | (refine hS.hd0 2 rfl rfl ?_) | (refine hS.hd 2 rfl rfl ?_) | (refine hS.hd0 3 rfl rfl ?_) | (refine hS.hd 3 rfl rfl ?_) | (refine hS.hd0 4 rfl rfl ?_) | (refine hS.hd 4 rfl rfl ?_) | (refine hS.hd0 5 rfl rfl ?_) | (refine hS.hd 5 rfl rfl ?_) | (refine hS.hd0 6 rfl rfl ?_) | (refine hS.hd 6 rfl rfl ?_) | (refine hS.hd0 7 rfl rfl ?_) | (refine hS.hd 7 rfl rfl ?_) | (refine hS.st0 0 rfl rfl rfl ?_; clear hS; intro _ hS) | (refine hS.st 0 rfl rfl rfl ?_; clear hS; intro _ hS) | (refine hS.st0 1 rfl rfl rfl ?_; clear hS; intro _ hS) | (refine hS.st 1 rfl rfl rfl ?_; clear hS; intro _ hS) | (refine hS.st0 2 rfl rfl rfl ?_; clear hS; intro _ hS) | (refine hS.st 2 rfl rfl rfl ?_; clear hS; intro _ hS) | (refine hS.st0 3 rfl rfl rfl ?_; clear hS; intro _ hS) | (refine hS.st 3 rfl rfl rfl ?_; clear hS; intro _ hS) | (refine hS.st0 4 rfl rfl rfl ?_; clear hS; intro _ hS) | (refine hS.st 4 rfl rfl rfl ?_; clear hS; intro _ hS) | (refine hS.st0 5 rfl rfl rfl ?_; clear hS; intro _ hS) | (refine hS.st 5 rfl rfl rfl ?_; clear hS; intro _ hS) | (refine hS.st0 6 rfl rfl rfl ?_; clear hS; intro _ hS) | (refine hS.st 6 rfl rfl rfl ?_; clear hS; intro _ hS) | (refine hS.st0 7 rfl rfl rfl ?_; clear hS; intro _ hS) | (refine hS.st 7 rfl rfl rfl ?_; clear hS; intro _ hS) | (refine bnd_mk (by decide) (by decide) ?_) | (refine so_i rfl ?_))
  refine jn_of (fun s w' => s = [.bool (!b.right)] ∧ Ext no w w') ?_ ?_
  · rintro _ w' ⟨rfl, hx⟩
    refine asB_i rfl (cond_split (fun h => lv_i ?_) (fun h => lv_i ?_))
    · have : b.rightE = 60 := by simp only [Bx.rightE]; rw [if_neg (by simpa using h)]
      rw [← this]; exact hK w' hx
    · have : b.rightE = 0 := by simp only [Bx.rightE]; rw [if_pos (by simpa using h)]
      rw [← this]; exact hK w' hx
  · intro J hJ
    repeat (first | (refine asI_i rfl ?_) | (refine asB_i rfl ?_) | (refine asP_i rfl ?_) | (refine asS_i rfl ?_) | (refine asY_i rfl ?_) | (refine asM_i rfl ?_) | (refine asA_i rfl rfl ?_) | (refine asT_i rfl rfl ?_) | (refine lv_i ?_) | (refine St.nw hS ?_; clear hS; intro _ _ hS) | (refine St.dw hS ?_; clear hS; intro _ hS _) | (refine hS.ld0 0 rfl rfl ?_) | (refine hS.ld 0 rfl rfl ?_) | (refine hS.ld0 1 rfl rfl ?_) | (refine hS.ld 1 rfl rfl ?_) | (refine hS.ld0 2 rfl rfl ?_) | (refine hS.ld 2 rfl rfl ?_) | (refine hS.ld0 3 rfl rfl ?_) | (refine hS.ld 3 rfl rfl ?_) | (refine hS.ld0 4 rfl rfl ?_) | (refine hS.ld 4 rfl rfl ?_) | (refine hS.ld0 5 rfl rfl ?_) | (refine hS.ld 5 rfl rfl ?_) | (refine hS.ld0 6 rfl rfl ?_) | (refine hS.ld 6 rfl rfl ?_) | (refine hS.ld0 7 rfl rfl ?_) | (refine hS.ld 7 rfl rfl ?_) | (refine hS.hd0 0 rfl rfl ?_) | (refine hS.hd 0 rfl rfl ?_) | (refine hS.hd0 1 rfl rfl ?_) | (refine hS.hd 1 rfl rfl ?_) | (refine hS.hd0 2 rfl rfl ?_) | (refine hS.hd 2 rfl rfl ?_) | (refine hS.hd0 3 rfl rfl ?_) | (refine hS.hd 3 rfl rfl ?_) | (refine hS.hd0 4 rfl rfl ?_) | (refine hS.hd 4 rfl rfl ?_) | (refine hS.hd0 5 rfl rfl ?_) | (refine hS.hd 5 rfl rfl ?_) | (refine hS.hd0 6 rfl rfl ?_) | (refine hS.hd 6 rfl rfl ?_) | (refine hS.hd0 7 rfl rfl ?_) | (refine hS.hd 7 rfl rfl ?_) | (refine hS.st0 0 rfl rfl rfl ?_; clear hS; intro _ hS) | (refine hS.st 0 rfl rfl rfl ?_; clear hS; intro _ hS) | (refine hS.st0 1 rfl rfl rfl ?_; clear hS; intro _ hS) | (refine hS.st 1 rfl rfl rfl ?_; clear hS; intro _ hS) | (refine hS.st0 2 rfl rfl rfl ?_; clear hS; intro _ hS) | (refine hS.st 2 rfl rfl rfl ?_; clear hS; intro _ hS) | (refine hS.st0 3 rfl rfl rfl ?_; clear hS; intro _ hS) | (refine hS.st 3 rfl rfl rfl ?_; clear hS; intro _ hS) | (refine hS.st0 4 rfl rfl rfl ?_; clear hS; intro _ hS) | (refine hS.st 4 rfl rfl rfl ?_; clear hS; intro _ hS) | (refine hS.st0 5 rfl rfl rfl ?_; clear hS; intro _ hS) | (refine hS.st 5 rfl rfl rfl ?_; clear hS; intro _ hS) | (refine hS.st0 6 rfl rfl rfl ?_; clear hS; intro _ hS) | (refine hS.st 6 rfl rfl rfl ?_; clear hS; intro _ hS) | (refine hS.st0 7 rfl rfl rfl ?_; clear hS; intro _ hS) | (refine hS.st 7 rfl rfl rfl ?_; clear hS; intro _ hS) | (refine bnd_mk (by decide) (by decide) ?_) | (refine so_i rfl ?_))
    refine within_k ?_
    repeat (first | (refine asI_i rfl ?_) | (refine asB_i rfl ?_) | (refine asP_i rfl ?_) | (refine asS_i rfl ?_) | (refine asY_i rfl ?_) | (refine asM_i rfl ?_) | (refine asA_i rfl rfl ?_) | (refine asT_i rfl rfl ?_) | (refine lv_i ?_) | (refine St.nw hS ?_; clear hS; intro _ _ hS) | (refine St.dw hS ?_; clear hS; intro _ hS _) | (refine hS.ld0 0 rfl rfl ?_) | (refine hS.ld 0 rfl rfl ?_) | (refine hS.ld0 1 rfl rfl ?_) | (refine hS.ld 1 rfl rfl ?_) | (refine hS.ld0 2 rfl rfl ?_) | (refine hS.ld 2 rfl rfl ?_) | (refine hS.ld0 3 rfl rfl ?_) | (refine hS.ld 3 rfl rfl ?_) | (refine hS.ld0 4 rfl rfl ?_) | (refine hS.ld 4 rfl rfl ?_) | (refine hS.ld0 5 rfl rfl ?_) | (refine hS.ld 5 rfl rfl ?_) | (refine hS.ld0 6 rfl rfl ?_) | (refine hS.ld 6 rfl rfl ?_) | (refine hS.ld0 7 rfl rfl ?_) | (refine hS.ld 7 rfl rfl ?_) | (refine hS.hd0 0 rfl rfl ?_) | (refine hS.hd 0 rfl rfl ?_) | (refine hS.hd0 1 rfl rfl ?_) | (refine hS.hd 1 rfl rfl ?_) | (refine hS.hd0 2 rfl rfl ?_) | (refine hS.hd 2 rfl rfl ?_) | (refine hS.hd0 3 rfl rfl ?_) | (refine hS.hd 3 rfl rfl ?_) | (refine hS.hd0 4 rfl rfl ?_) | (refine hS.hd 4 rfl rfl ?_) | (refine hS.hd0 5 rfl rfl ?_) | (refine hS.hd 5 rfl rfl ?_) | (refine hS.hd0 6 rfl rfl ?_) | (refine hS.hd 6 rfl rfl ?_) | (refine hS.hd0 7 rfl rfl ?_) | (refine hS.hd 7 rfl rfl ?_) | (refine hS.st0 0 rfl rfl rfl ?_; clear hS; intro _ hS) | (refine hS.st 0 rfl rfl rfl ?_; clear hS; intro _ hS) | (refine hS.st0 1 rfl rfl rfl ?_; clear hS; intro _ hS) | (refine hS.st 1 rfl rfl rfl ?_; clear hS; intro _ hS) | (refine hS.st0 2 rfl rfl rfl ?_; clear hS; intro _ hS) | (refine hS.st 2 rfl rfl rfl ?_; clear hS; intro _ hS) | (refine hS.st0 3 rfl rfl rfl ?_; clear hS; intro _ hS) | (refine hS.st 3 rfl rfl rfl ?_; clear hS; intro _ hS) | (refine hS.st0 4 rfl rfl rfl ?_; clear hS; intro _ hS) | (refine hS.st 4 rfl rfl rfl ?_; clear hS; intro _ hS) | (refine hS.st0 5 rfl rfl rfl ?_; clear hS; intro _ hS) | (refine hS.st 5 rfl rfl rfl ?_; clear hS; intro _ hS) | (refine hS.st0 6 rfl rfl rfl ?_; clear hS; intro _ hS) | (refine hS.st 6 rfl rfl rfl ?_; clear hS; intro _ hS) | (refine hS.st0 7 rfl rfl rfl ?_; clear hS; intro _ hS) | (refine hS.st 7 rfl rfl rfl ?_; clear hS; intro _ hS) | (refine bnd_mk (by decide) (by decide) ?_) | (refine so_i rfl ?_))
    refine cond_split (fun h => hJ _ _ ⟨?_, hS.ext⟩) (fun h => ?_)
    · have h' : within b.x = false := by simpa using h
      simp [Bx.right, h']
    have h1 : within b.x = true := by simpa using h
    repeat (first | (refine asI_i rfl ?_) | (refine asB_i rfl ?_) | (refine asP_i rfl ?_) | (refine asS_i rfl ?_) | (refine asY_i rfl ?_) | (refine asM_i rfl ?_) | (refine asA_i rfl rfl ?_) | (refine asT_i rfl rfl ?_) | (refine lv_i ?_) | (refine St.nw hS ?_; clear hS; intro _ _ hS) | (refine St.dw hS ?_; clear hS; intro _ hS _) | (refine hS.ld0 0 rfl rfl ?_) | (refine hS.ld 0 rfl rfl ?_) | (refine hS.ld0 1 rfl rfl ?_) | (refine hS.ld 1 rfl rfl ?_) | (refine hS.ld0 2 rfl rfl ?_) | (refine hS.ld 2 rfl rfl ?_) | (refine hS.ld0 3 rfl rfl ?_) | (refine hS.ld 3 rfl rfl ?_) | (refine hS.ld0 4 rfl rfl ?_) | (refine hS.ld 4 rfl rfl ?_) | (refine hS.ld0 5 rfl rfl ?_) | (refine hS.ld 5 rfl rfl ?_) | (refine hS.ld0 6 rfl rfl ?_) | (refine hS.ld 6 rfl rfl ?_) | (refine hS.ld0 7 rfl rfl ?_) | (refine hS.ld 7 rfl rfl ?_) | (refine hS.hd0 0 rfl rfl ?_) | (refine hS.hd 0 rfl rfl ?_) | (refine hS.hd0 1 rfl rfl ?_) | (refine hS.hd 1 rfl rfl ?_) | (refine hS.hd0 2 rfl rfl ?_) | (refine hS.hd 2 rfl rfl ?_) | (refine hS.hd0 3 rfl rfl ?_) | (refine hS.hd 3 rfl rfl ?_) | (refine hS.hd0 4 rfl rfl ?_) | (refine hS.hd 4 rfl rfl ?_) | (refine hS.hd0 5 rfl rfl ?_) | (refine hS.hd 5 rfl rfl ?_) | (refine hS.hd0 6 rfl rfl ?_) | (refine hS.hd 6 rfl rfl ?_) | (refine hS.hd0 7 rfl rfl ?_) | (refine hS.hd 7 rfl rfl ?_) | (refine hS.st0 0 rfl rfl rfl ?_; clear hS; intro _ hS) | (refine hS.st 0 rfl rfl rfl ?_; clear hS; intro _ hS) | (refine hS.st0 1 rfl rfl rfl ?_; clear hS; intro _ hS) | (refine hS.st 1 rfl rfl rfl ?_; clear hS; intro _ hS) | (refine hS.st0 2 rfl rfl rfl ?_; clear hS; intro _ hS) | (refine hS.st 2 rfl rfl rfl ?_; clear hS; intro _ hS) | (refine hS.st0 3 rfl rfl rfl ?_; clear hS; intro _ hS) | (refine hS.st 3 rfl rfl rfl ?_; clear hS; intro _ hS) | (refine hS.st0 4 rfl rfl rfl ?_; clear hS; intro _ hS) | (refine hS.st 4 rfl rfl rfl ?_; clear hS; intro _ hS) | (refine hS.st0 5 rfl rfl rfl ?_; clear hS; intro _ hS) | (refine hS.st 5 rfl rfl rfl ?_; clear hS; intro _ hS) | (refine hS.st0 6 rfl rfl rfl ?_; clear hS; intro _ hS) | (refine hS.st 6 rfl rfl rfl ?_; clear hS; intro _ hS) | (refine hS.st0 7 rfl rfl rfl ?_; clear hS; intro _ hS) | (refine hS.st 7 rfl rfl rfl ?_; clear hS; intro _ hS) | (refine bnd_mk (by decide) (by decide) ?_) | (refine so_i rfl ?_))
    refine within_k ?_
    repeat (first | (refine asI_i rfl ?_) | (refine asB_i rfl ?_) | (refine asP_i rfl ?_) | (refine asS_i rfl ?_) | (refine asY_i rfl ?_) | (refine asM_i rfl ?_) | (refine asA_i rfl rfl ?_) | (refine asT_i rfl rfl ?_) | (refine lv_i ?_) | (refine St.nw hS ?_; clear hS; intro _ _ hS) | (refine St.dw hS ?_; clear hS; intro _ hS _) | (refine hS.ld0 0 rfl rfl ?_) | (refine hS.ld 0 rfl rfl ?_) | (refine hS.ld0 1 rfl rfl ?_) | (refine hS.ld 1 rfl rfl ?_) | (refine hS.ld0 2 rfl rfl ?_) | (refine hS.ld 2 rfl rfl ?_) | (refine hS.ld0 3 rfl rfl ?_) | (refine hS.ld 3 rfl rfl ?_) | (refine hS.ld0 4 rfl rfl ?_) | (refine hS.ld 4 rfl rfl ?_) | (refine hS.ld0 5 rfl rfl ?_) | (refine hS.ld 5 rfl rfl ?_) | (refine hS.ld0 6 rfl rfl ?_) | (refine hS.ld 6 rfl rfl ?_) | (refine hS.ld0 7 rfl rfl ?_) | (refine hS.ld 7 rfl rfl ?_) | (refine hS.hd0 0 rfl rfl ?_) | (refine hS.hd 0 rfl rfl ?_) | (refine hS.hd0 1 rfl rfl ?_) | (refine hS.hd 1 rfl rfl ?_) | (refine hS.hd0 2 rfl rfl ?_) | (refine hS.hd 2 rfl rfl ?_) | (refine hS.hd0 3 rfl rfl ?_) | (refine hS.hd 3 rfl rfl ?_) | (refine hS.hd0 4 rfl rfl ?_) | (refine hS.hd 4 rfl rfl ?_) | (refine hS.hd0 5 rfl rfl ?_) | (refine hS.hd 5 rfl rfl ?_) | (refine hS.hd0 6 rfl rfl ?_) | (refine hS.hd 6 rfl rfl ?_) | (refine hS.hd0 7 rfl rfl ?_) | (refine hS.hd 7 rfl rfl ?_) | (refine hS.st0 0 rfl rfl rfl ?_; clear hS; intro _ hS) | (refine hS.st 0 rfl rfl rfl ?_; clear hS; intro _ hS) | (refine hS.st0 1 rfl rfl rfl ?_; clear hS; intro _ hS) | (refine hS.st 1 rfl rfl rfl ?_; clear hS; intro _ hS) | (refine hS.st0 2 rfl rfl rfl ?_; clear hS; intro _ hS) | (refine hS.st 2 rfl rfl rfl ?_; clear hS; intro _ hS) | (refine hS.st0 3 rfl rfl rfl ?_; clear hS; intro _ hS) | (refine hS.st 3 rfl rfl rfl ?_; clear hS; intro _ hS) | (refine hS.st0 4 rfl rfl rfl ?_; clear hS; intro _ hS) | (refine hS.st 4 rfl rfl rfl ?_; clear hS; intro _ hS) | (refine hS.st0 5 rfl rfl rfl ?_; clear hS; intro _ hS) | (refine hS.st 5 rfl rfl rfl ?_; clear hS; intro _ hS) | (refine hS.st0 6 rfl rfl rfl ?_; clear hS; intro _ hS) | (refine hS.st 6 rfl rfl rfl ?_; clear hS; intro _ hS) | (refine hS.st0 7 rfl rfl rfl ?_; clear hS; intro _ hS) | (refine hS.st 7 rfl rfl rfl ?_; clear hS; intro _ hS) | (refine bnd_mk (by decide) (by decide) ?_) | (refine so_i rfl ?_))
    refine cond_split (fun h => hJ _ _ ⟨?_, hS.ext⟩) (fun h => ?_)
    · have h' : within b.y = false := by simpa using h
      simp [Bx.right, h']
    have h2 : within b.y = true := by simpa using h
    repeat (first | (refine asI_i rfl ?_) | (refine asB_i rfl ?_) | (refine asP_i rfl ?_) | (refine asS_i rfl ?_) | (refine asY_i rfl ?_) | (refine asM_i rfl ?_) | (refine asA_i rfl rfl ?_) | (refine asT_i rfl rfl ?_) | (refine lv_i ?_) | (refine St.nw hS ?_; clear hS; intro _ _ hS) | (refine St.dw hS ?_; clear hS; intro _ hS _) | (refine hS.ld0 0 rfl rfl ?_) | (refine hS.ld 0 rfl rfl ?_) | (refine hS.ld0 1 rfl rfl ?_) | (refine hS.ld 1 rfl rfl ?_) | (refine hS.ld0 2 rfl rfl ?_) | (refine hS.ld 2 rfl rfl ?_) | (refine hS.ld0 3 rfl rfl ?_) | (refine hS.ld 3 rfl rfl ?_) | (refine hS.ld0 4 rfl rfl ?_) | (refine hS.ld 4 rfl rfl ?_) | (refine hS.ld0 5 rfl rfl ?_) | (refine hS.ld 5 rfl rfl ?_) | (refine hS.ld0 6 rfl rfl ?_) | (refine hS.ld 6 rfl rfl ?_) | (refine hS.ld0 7 rfl rfl ?_) | (refine hS.ld 7 rfl rfl ?_) | (refine hS.hd0 0 rfl rfl ?_) | (refine hS.hd 0 rfl rfl ?_) | (refine hS.hd0 1 rfl rfl ?_) | (refine hS.hd 1 rfl rfl ?_) | (refine hS.hd0 2 rfl rfl ?_) | (refine hS.hd 2 rfl rfl ?_) | (refine hS.hd0 3 rfl rfl ?_) | (refine hS.hd 3 rfl rfl ?_) | (refine hS.hd0 4 rfl rfl ?_) | (refine hS.hd 4 rfl rfl ?_) | (refine hS.hd0 5 rfl rfl ?_) | (refine hS.hd 5 rfl rfl ?_) | (refine hS.hd0 6 rfl rfl ?_) | (refine hS.hd 6 rfl rfl ?_) | (refine hS.hd0 7 rfl rfl ?_) | (refine hS.hd 7 rfl rfl ?_) | (refine hS.st0 0 rfl rfl rfl ?_; clear hS; intro _ hS) | (refine hS.st 0 rfl rfl rfl ?_; clear hS; intro _ hS) | (refine hS.st0 1 rfl rfl rfl ?_; clear hS; intro _ hS) | (refine hS.st 1 rfl rfl rfl ?_; clear hS; intro _ hS) | (refine hS.st0 2 rfl rfl rfl ?_; clear hS; intro _ hS) | (refine hS.st 2 rfl rfl rfl ?_; clear hS; intro _ hS) | (refine hS.st0 3 rfl rfl rfl ?_; clear hS; intro _ hS) | (refine hS.st 3 rfl rfl rfl ?_; clear hS; intro _ hS) | (refine hS.st0 4 rfl rfl rfl ?_; clear hS; intro _ hS) | (refine hS.st 4 rfl rfl rfl ?_; clear hS; intro _ hS) | (refine hS.st0 5 rfl rfl rfl ?_; clear hS; intro _ hS) | (refine hS.st 5 rfl rfl rfl ?_; clear hS; intro _ hS) | (refine hS.st0 6 rfl rfl rfl ?_; clear hS; intro _ hS) | (refine hS.st 6 rfl rfl rfl ?_; clear hS; intro _ hS) | (refine hS.st0 7 rfl rfl rfl ?_; clear hS; intro _ hS) | (refine hS.st 7 rfl rfl rfl ?_; clear hS; intro _ hS) | (refine bnd_mk (by decide) (by decide) ?_) | (refine so_i rfl ?_))
    refine cond_split (fun h => hJ _ _ ⟨?_, hS.ext⟩) (fun h => ?_)
    · have h' : ¬ (1 ≤ b.r) := by simpa using h
      simp [Bx.right, h']
    have h3 : 1 ≤ b.r := by simpa using h
    repeat (first | (refine asI_i rfl ?_) | (refine asB_i rfl ?_) | (refine asP_i rfl ?_) | (refine asS_i rfl ?_) | (refine asY_i rfl ?_) | (refine asM_i rfl ?_) | (refine asA_i rfl rfl ?_) | (refine asT_i rfl rfl ?_) | (refine lv_i ?_) | (refine St.nw hS ?_; clear hS; intro _ _ hS) | (refine St.dw hS ?_; clear hS; intro _ hS _) | (refine hS.ld0 0 rfl rfl ?_) | (refine hS.ld 0 rfl rfl ?_) | (refine hS.ld0 1 rfl rfl ?_) | (refine hS.ld 1 rfl rfl ?_) | (refine hS.ld0 2 rfl rfl ?_) | (refine hS.ld 2 rfl rfl ?_) | (refine hS.ld0 3 rfl rfl ?_) | (refine hS.ld 3 rfl rfl ?_) | (refine hS.ld0 4 rfl rfl ?_) | (refine hS.ld 4 rfl rfl ?_) | (refine hS.ld0 5 rfl rfl ?_) | (refine hS.ld 5 rfl rfl ?_) | (refine hS.ld0 6 rfl rfl ?_) | (refine hS.ld 6 rfl rfl ?_) | (refine hS.ld0 7 rfl rfl ?_) | (refine hS.ld 7 rfl rfl ?_) | (refine hS.hd0 0 rfl rfl ?_) | (refine hS.hd 0 rfl rfl ?_) | (refine hS.hd0 1 rfl rfl ?_) | (refine hS.hd 1 rfl rfl ?_) | (refine hS.hd0 2 rfl rfl ?_) | (refine hS.hd 2 rfl rfl ?_) | (refine hS.hd0 3 rfl rfl ?_) | (refine hS.hd 3 rfl rfl ?_) | (refine hS.hd0 4 rfl rfl ?_) | (refine hS.hd 4 rfl rfl ?_) | (refine hS.hd0 5 rfl rfl ?_) | (refine hS.hd 5 rfl rfl ?_) | (refine hS.hd0 6 rfl rfl ?_) | (refine hS.hd 6 rfl rfl ?_) | (refine hS.hd0 7 rfl rfl ?_) | (refine hS.hd 7 rfl rfl ?_) | (refine hS.st0 0 rfl rfl rfl ?_; clear hS; intro _ hS) | (refine hS.st 0 rfl rfl rfl ?_; clear hS; intro _ hS) | (refine hS.st0 1 rfl rfl rfl ?_; clear hS; intro _ hS) | (refine hS.st 1 rfl rfl rfl ?_; clear hS; intro _ hS) | (refine hS.st0 2 rfl rfl rfl ?_; clear hS; intro _ hS) | (refine hS.st 2 rfl rfl rfl ?_; clear hS; intro _ hS) | (refine hS.st0 3 rfl rfl rfl ?_; clear hS; intro _ hS) | (refine hS.st 3 rfl rfl rfl ?_; clear hS; intro _ hS) | (refine hS.st0 4 rfl rfl rfl ?_; clear hS; intro _ hS) | (refine hS.st 4 rfl rfl rfl ?_; clear hS; intro _ hS) | (refine hS.st0 5 rfl rfl rfl ?_; clear hS; intro _ hS) | (refine hS.st 5 rfl rfl rfl ?_; clear hS; intro _ hS) | (refine hS.st0 6 rfl rfl rfl ?_; clear hS; intro _ hS) | (refine hS.st 6 rfl rfl rfl ?_; clear hS; intro _ hS) | (refine hS.st0 7 rfl rfl rfl ?_; clear hS; intro _ hS) | (refine hS.st 7 rfl rfl rfl ?_; clear hS; intro _ hS) | (refine bnd_mk (by decide) (by decide) ?_) | (refine so_i rfl ?_))
    refine hJ _ _ ⟨?_, hS.ext⟩
    have e : (!b.right) = decide (b.r > 1099511627776) := by
      simp only [Bx.right, h1, h2, decide_eq_true h3, Bool.true_and]
      rw [← decide_not]
      congr 1
      apply propext
      omega
    rw [e]

theorem parts_k {x y : Int} {w : World} {K : Value → World → Prop} (hK : ∀ w', Ext no w w' → K (vv x y) w') : cl Tryd.prog 56 #[vv x y] w K := by
  apply F56_calls
  unfold F56
  have hS := St.start w
  repeat (first | (refine asI_i rfl ?_) | (refine asB_i rfl ?_) | (refine asP_i rfl ?_) | (refine asS_i rfl ?_) | (refine asY_i rfl ?_) | (refine asM_i rfl ?_) | (refine asA_i rfl rfl ?_) | (refine asT_i rfl rfl ?_) | (refine lv_i ?_) | (refine St.nw hS ?_; clear hS; intro _ _ hS) | (refine St.dw hS ?_; clear hS; intro _ hS _) | (refine hS.ld0 0 rfl rfl ?_) | (refine hS.ld 0 rfl rfl ?_) | (refine hS.ld0 1 rfl rfl ?_) | (refine hS.ld 1 rfl rfl ?_) | (refine hS.ld0 2 rfl rfl ?_) | (refine hS.ld 2 rfl rfl ?_) | (refine hS.ld0 3 rfl rfl ?_) | (refine hS.ld 3 rfl rfl ?_) | (refine hS.ld0 4 rfl rfl ?_) | (refine hS.ld 4 rfl rfl ?_) | (refine hS.ld0 5 rfl rfl ?_) | (refine hS.ld 5 rfl rfl ?_) | (refine hS.ld0 6 rfl rfl ?_) | (refine hS.ld 6 rfl rfl ?_) | (refine hS.ld0 7 rfl rfl ?_) | (refine hS.ld 7 rfl rfl ?_) | (refine hS.hd0 0 rfl rfl ?_) | (refine hS.hd 0 rfl rfl ?_) | (refine hS.hd0 1 rfl rfl ?_) | (refine hS.hd 1 rfl rfl ?_) | (refine hS.hd0 2 rfl rfl ?_) | (refine hS.hd 2 rfl rfl ?_) | (refine hS.hd0 3 rfl rfl ?_) | (refine hS.hd 3 rfl rfl ?_) | (refine hS.hd0 4 rfl rfl ?_) | (refine hS.hd 4 rfl rfl ?_) | (refine hS.hd0 5 rfl rfl ?_) | (refine hS.hd 5 rfl rfl ?_) | (refine hS.hd0 6 rfl rfl ?_) | (refine hS.hd 6 rfl rfl ?_) | (refine hS.hd0 7 rfl rfl ?_) | (refine hS.hd 7 rfl rfl ?_) | (refine hS.st0 0 rfl rfl rfl ?_; clear hS; intro _ hS) | (refine hS.st 0 rfl rfl rfl ?_; clear hS; intro _ hS) | (refine hS.st0 1 rfl rfl rfl ?_; clear hS; intro _ hS) | (refine hS.st 1 rfl rfl rfl ?_; clear hS; intro _ hS) | (refine hS.st0 2 rfl rfl rfl ?_; clear hS; intro _ hS) | (refine hS.st 2 rfl rfl rfl ?_; clear hS; intro _ hS) | (refine hS.st0 3 rfl rfl rfl ?_; clear hS; intro _ hS) | (refine hS.st 3 rfl rfl rfl ?_; clear hS; intro _ hS) | (refine hS.st0 4 rfl rfl rfl ?_; clear hS; intro _ hS) | (refine hS.st 4 rfl rfl rfl ?_; clear hS; intro _ hS) | (refine hS.st0 5 rfl rfl rfl ?_; clear hS; intro _ hS) | (refine hS.st 5 rfl rfl rfl ?_; clear hS; intro _ hS) | (refine hS.st0 6 rfl rfl rfl ?_; clear hS; intro _ hS) | (refine hS.st 6 rfl rfl rfl ?_; clear hS; intro _ hS) | (refine hS.st0 7 rfl rfl rfl ?_; clear hS; intro _ hS) | (refine hS.st 7 rfl rfl rfl ?_; clear hS; intro _ hS) | (refine bnd_mk (by decide) (by decide) ?_) | (refine so_i rfl ?_))
  exact hK _ hS.ext

/-- what may be: of boxes that may be, the parts are small -/
theorem right_at {b : Bx} (h : b.right = true) (k : Bool) : -1152921504606846976 ≤ b.at k ∧ b.at k ≤ 1152921504606846976 := by
  obtain ⟨h1, h2, _⟩ := right_iff.1 h
  cases k
  · exact h1
  · exact h2

theorem adiff_le {p q : Int} (hp : -1152921504606846976 ≤ p ∧ p ≤ 1152921504606846976) (hq : -1152921504606846976 ≤ q ∧ q ≤ 1152921504606846976) : 0 ≤ adiff p q ∧ adiff p q ≤ 2305843009213693952 := by
  unfold adiff; split <;> omega

theorem gap_le {a b : Bx} (ha : a.right = true) (hb : b.right = true) (k : Bool) : -2199023255552 ≤ gap a b k ∧ gap a b k ≤ 2305843009213693952 := by
  have := adiff_le (right_at ha k) (right_at hb k)
  have h3 := (right_iff.1 ha).2.2
  have h4 := (right_iff.1 hb).2.2
  unfold gap
  omega

/-- the closure in gaps -/
theorem one_k {a b : Bx} (ha : a.right = true) (hb : b.right = true) {w0 w : World} {rx ry ra rb : Nat} {L : List (Nat × List Value × TypeId)}
    (hS : St w0 w ((rx, [.int .i64 a.x, .int .i64 a.y], 97) :: (ry, [.int .i64 b.x, .int .i64 b.y], 97) :: (rb, b.cells, 38) :: (ra, a.cells, 38) :: L)) (k : Bool) {K : Value → World → Prop}
    (hK : ∀ w', Ext no w w' → K (.int .i64 (gap a b k)) w') :
    cl Tryd.prog 57 #[.int .i64 (if k then 1 else 0), .pointer (some ⟨rx, 0, none⟩), .pointer (some ⟨ry, 0, none⟩), .pointer (some ⟨ra, 0, none⟩), .pointer (some ⟨rb, 0, none⟩)] w K := by
  have h1 := right_at ha k
  have h2 := right_at hb k
  have h3 := (right_iff.1 ha).2.2
  have h4 := (right_iff.1 hb).2.2
  have hg := adiff_le h1 h2
  have e : ∀ w', Ext no w w' → K (.int .i64 (IntKind.wrap .i64 (IntKind.wrap .i64 ((if (IntKind.wrap .i64 (b.at k - a.at k)) > (IntKind.wrap .i64 (a.at k - b.at k)) then (IntKind.wrap .i64 (b.at k - a.at k)) else (IntKind.wrap .i64 (a.at k - b.at k))) - a.r) - b.r))) w' := by
    intro w' x'
    rw [wr64 (n := b.at k - a.at k) (by omega) (by omega), wr64 (n := a.at k - b.at k) (by omega) (by omega)]
    have := hK w' x'
    unfold gap at this
    unfold adiff at hg this
    generalize (if b.at k - a.at k > a.at k - b.at k then b.at k - a.at k else a.at k - b.at k) = D at *
    rw [wr64 (n := D - a.r) (by omega) (by omega), wr64 (n := D - a.r - b.r) (by omega) (by omega)]
    exact this
  apply F57_calls
  unfold F57
  refine lv_i (St.dw hS ?_)
  clear hS
  intro w' hS x
  cases k
  · refine dr_i (bnd_mk (by decide) (by decide) (hS.ld0 0 rfl rfl (asI_i rfl (dr_i (bnd_mk (by decide) (by decide) (hS.ld0 1 rfl rfl (asI_i rfl ?_)))))))
    refine dr_i (bnd_mk (by decide) (by decide) (hS.ld0 1 rfl rfl (asI_i rfl (dr_i (bnd_mk (by decide) (by decide) (hS.ld0 0 rfl rfl (asI_i rfl ?_)))))))
    refine dr_i (hS.ld 3 rfl rfl (asI_i rfl (dr_i (hS.ld 2 rfl rfl (asI_i rfl (lv_i (e _ x)))))))
  · refine dr_i (bnd_mk (by decide) (by decide) (hS.ld 0 rfl rfl (asI_i rfl (dr_i (bnd_mk (by decide) (by decide) (hS.ld 1 rfl rfl (asI_i rfl ?_)))))))
    refine dr_i (bnd_mk (by decide) (by decide) (hS.ld 1 rfl rfl (asI_i rfl (dr_i (bnd_mk (by decide) (by decide) (hS.ld 0 rfl rfl (asI_i rfl ?_)))))))
    refine dr_i (hS.ld 3 rfl rfl (asI_i rfl (dr_i (hS.ld 2 rfl rfl (asI_i rfl (lv_i (e _ x)))))))

theorem gaps_k {a b : Bx} (ha : a.right = true) (hb : b.right = true) {w : World} {K : Value → World → Prop}
    (hK : ∀ w', Ext no w w' → K (vv (gap a b false) (gap a b true)) w') : cl Tryd.prog 44 #[a.v, b.v] w K := by
  apply F44_calls
  unfold F44
  have hS := St.start w
  refine St.nw hS ?_
  clear hS
  intro ra wa hS
  refine St.nw hS ?_
  clear hS
  intro rb wb hS
  refine St.nw hS ?_
  clear hS
  intro ro wo hS
  refine jn_of (fun s w' => ∃ rx ry, s = [.pointer (some ⟨rx, 0, none⟩), .pointer (some ⟨ry, 0, none⟩)] ∧ St w w' [(rx, [.int .i64 a.x, .int .i64 a.y], 97), (ry, [.int .i64 b.x, .int .i64 b.y], 97), (ro, [.int .i64 0, .int .i64 0], 97), (rb, b.cells, 38), (ra, a.cells, 38)]) ?_ ?_
  · clear hS
    rintro _ w' ⟨rx, ry, rfl, hS⟩
    have hT : ∀ {w'}, St w w' [(rx, [.int .i64 a.x, .int .i64 a.y], 97), (ry, [.int .i64 b.x, .int .i64 b.y], 97), (ro, [.int .i64 0, .int .i64 0], 97), (rb, b.cells, 38), (ra, a.cells, 38)] →
        St w w' [(rx, [.int .i64 a.x, .int .i64 a.y], 97), (ry, [.int .i64 b.x, .int .i64 b.y], 97), (rb, b.cells, 38), (ra, a.cells, 38)] := fun h =>
      ⟨h.ext, fun c hc => h.kn c (by simp only [List.mem_cons] at hc ⊢; rcases hc with h | h | h | h | h <;> simp [h]), h.nd.sublist (by simp)⟩
    repeat (first | (refine asI_i rfl ?_) | (refine asB_i rfl ?_) | (refine asP_i rfl ?_) | (refine asS_i rfl ?_) | (refine asY_i rfl ?_) | (refine asM_i rfl ?_) | (refine asA_i rfl rfl ?_) | (refine asT_i rfl rfl ?_) | (refine lv_i ?_))
    refine one_k ha hb (hT hS) false ?_
    intro w1 x1
    have hS := hS.to x1
    refine asI_i rfl (one_k ha hb (hT hS) true ?_)
    intro w2 x2
    have hS := hS.to x2
    repeat (first | (refine asI_i rfl ?_) | (refine asB_i rfl ?_) | (refine asP_i rfl ?_) | (refine asS_i rfl ?_) | (refine asY_i rfl ?_) | (refine asM_i rfl ?_) | (refine asA_i rfl rfl ?_) | (refine asT_i rfl rfl ?_) | (refine lv_i ?_) | (refine St.nw hS ?_; clear hS; intro _ _ hS) | (refine St.dw hS ?_; clear hS; intro _ hS _) | (refine hS.ld0 0 rfl rfl ?_) | (refine hS.ld 0 rfl rfl ?_) | (refine hS.ld0 1 rfl rfl ?_) | (refine hS.ld 1 rfl rfl ?_) | (refine hS.ld0 2 rfl rfl ?_) | (refine hS.ld 2 rfl rfl ?_) | (refine hS.ld0 3 rfl rfl ?_) | (refine hS.ld 3 rfl rfl ?_) | (refine hS.ld0 4 rfl rfl ?_) | (refine hS.ld 4 rfl rfl ?_) | (refine hS.ld0 5 rfl rfl ?_) | (refine hS.ld 5 rfl rfl ?_) | (refine hS.ld0 6 rfl rfl ?_) | (refine hS.ld 6 rfl rfl ?_) | (refine hS.ld0 7 rfl rfl ?_) | (refine hS.ld 7 rfl rfl ?_) | (refine hS.hd0 0 rfl rfl ?_) | (refine hS.hd 0 rfl rfl ?_) | (refine hS.hd0 1 rfl rfl ?_) | (refine hS.hd 1 rfl rfl ?_) | (refine hS.hd0 2 rfl rfl ?_) | (refine hS.hd 2 rfl rfl ?_) | (refine hS.hd0 3 rfl rfl ?_) | (refine hS.hd 3 rfl rfl ?_) | (refine hS.hd0 4 rfl rfl ?_) | (refine hS.hd 4 rfl rfl ?_) | (refine hS.hd0 5 rfl rfl ?_) | (refine hS.hd 5 rfl rfl ?_) | (refine hS.hd0 6 rfl rfl ?_) | (refine hS.hd 6 rfl rfl ?_) | (refine hS.hd0 7 rfl rfl ?_) | (refine hS.hd 7 rfl rfl ?_) | (refine hS.st0 0 rfl rfl rfl ?_; clear hS; intro _ hS) | (refine hS.st 0 rfl rfl rfl ?_; clear hS; intro _ hS) | (refine hS.st0 1 rfl rfl rfl ?_; clear hS; intro _ hS) | (refine hS.st 1 rfl rfl rfl ?_; clear hS; intro _ hS) | (refine hS.st0 2 rfl rfl rfl ?_; clear hS; intro _ hS) | (refine hS.st 2 rfl rfl rfl ?_; clear hS; intro _ hS) | (refine hS.st0 3 rfl rfl rfl ?_; clear hS; intro _ hS) | (refine hS.st 3 rfl rfl rfl ?_; clear hS; intro _ hS) | (refine hS.st0 4 rfl rfl rfl ?_; clear hS; intro _ hS) | (refine hS.st 4 rfl rfl rfl ?_; clear hS; intro _ hS) | (refine hS.st0 5 rfl rfl rfl ?_; clear hS; intro _ hS) | (refine hS.st 5 rfl rfl rfl ?_; clear hS; intro _ hS) | (refine hS.st0 6 rfl rfl rfl ?_; clear hS; intro _ hS) | (refine hS.st 6 rfl rfl rfl ?_; clear hS; intro _ hS) | (refine hS.st0 7 rfl rfl rfl ?_; clear hS; intro _ hS) | (refine hS.st 7 rfl rfl rfl ?_; clear hS; intro _ hS) | (refine bnd_mk (by decide) (by decide) ?_) | (refine so_i rfl ?_))
    exact hK _ hS.ext
  · intro J hJ
    repeat' (first | (refine parts_k ?_; intro _ x; replace hS := hS.to x; clear x) | (refine asI_i rfl ?_) | (refine asB_i rfl ?_) | (refine asP_i rfl ?_) | (refine asS_i rfl ?_) | (refine asY_i rfl ?_) | (refine asM_i rfl ?_) | (refine asA_i rfl rfl ?_) | (refine asT_i rfl rfl ?_) | (refine lv_i ?_) | (refine St.nw hS ?_; clear hS; intro _ _ hS) | (refine St.dw hS ?_; clear hS; intro _ hS _) | (refine hS.ld0 0 rfl rfl ?_) | (refine hS.ld 0 rfl rfl ?_) | (refine hS.ld0 1 rfl rfl ?_) | (refine hS.ld 1 rfl rfl ?_) | (refine hS.ld0 2 rfl rfl ?_) | (refine hS.ld 2 rfl rfl ?_) | (refine hS.ld0 3 rfl rfl ?_) | (refine hS.ld 3 rfl rfl ?_) | (refine hS.ld0 4 rfl rfl ?_) | (refine hS.ld 4 rfl rfl ?_) | (refine hS.ld0 5 rfl rfl ?_) | (refine hS.ld 5 rfl rfl ?_) | (refine hS.ld0 6 rfl rfl ?_) | (refine hS.ld 6 rfl rfl ?_) | (refine hS.ld0 7 rfl rfl ?_) | (refine hS.ld 7 rfl rfl ?_) | (refine hS.hd0 0 rfl rfl ?_) | (refine hS.hd 0 rfl rfl ?_) | (refine hS.hd0 1 rfl rfl ?_) | (refine hS.hd 1 rfl rfl ?_) | (refine hS.hd0 2 rfl rfl ?_) | (refine hS.hd 2 rfl rfl ?_) | (refine hS.hd0 3 rfl rfl ?_) | (refine hS.hd 3 rfl rfl ?_) | (refine hS.hd0 4 rfl rfl ?_) | (refine hS.hd 4 rfl rfl ?_) | (refine hS.hd0 5 rfl rfl ?_) | (refine hS.hd 5 rfl rfl ?_) | (refine hS.hd0 6 rfl rfl ?_) | (refine hS.hd 6 rfl rfl ?_) | (refine hS.hd0 7 rfl rfl ?_) | (refine hS.hd 7 rfl rfl ?_) | (refine hS.st0 0 rfl rfl rfl ?_; clear hS; intro _ hS) | (refine hS.st 0 rfl rfl rfl ?_; clear hS; intro _ hS) | (refine hS.st0 1 rfl rfl rfl ?_; clear hS; intro _ hS) | (refine hS.st 1 rfl rfl rfl ?_; clear hS; intro _ hS) | (refine hS.st0 2 rfl rfl rfl ?_; clear hS; intro _ hS) | (refine hS.st 2 rfl rfl rfl ?_; clear hS; intro _ hS) | (refine hS.st0 3 rfl rfl rfl ?_; clear hS; intro _ hS) | (refine hS.st 3 rfl rfl rfl ?_; clear hS; intro _ hS) | (refine hS.st0 4 rfl rfl rfl ?_; clear hS; intro _ hS) | (refine hS.st 4 rfl rfl rfl ?_; clear hS; intro _ hS) | (refine hS.st0 5 rfl rfl rfl ?_; clear hS; intro _ hS) | (refine hS.st 5 rfl rfl rfl ?_; clear hS; intro _ hS) | (refine hS.st0 6 rfl rfl rfl ?_; clear hS; intro _ hS) | (refine hS.st 6 rfl rfl rfl ?_; clear hS; intro _ hS) | (refine hS.st0 7 rfl rfl rfl ?_; clear hS; intro _ hS) | (refine hS.st 7 rfl rfl rfl ?_; clear hS; intro _ hS) | (refine bnd_mk (by decide) (by decide) ?_) | (refine so_i rfl ?_) | (refine And.intro ?_ ?_))
    all_goals first | exact hJ _ _ ⟨_, _, rfl, hS⟩ | exact hJ _ _ ⟨_, _, rfl, hS.swap⟩

/-- what is told of two boxes -/
def gapV (a b : Bx) : Int × Int × Int := if a.right = true ∧ b.right = true then (gap a b false, gap a b true, 0) else (0, 0, 60)
def t3 (p : Int × Int × Int) : Value := .tuple #[.int .i64 p.1, .int .i64 p.2.1, .int .i64 p.2.2]

theorem rightE_ne {b : Bx} : (b.rightE != 0) = !b.right := by
  unfold Bx.rightE
  cases b.right <;> rfl

theorem gap_k {a b : Bx} {w : World} {K : Value → World → Prop} (hK : ∀ w', Ext no w w' → K (t3 (gapV a b)) w') : cl Tryd.prog 29 #[a.v, b.v] w K := by
  apply F29_calls
  unfold F29
  have hS := St.start w
  refine St.nw hS ?_
  clear hS
  intro ra wa hS
  refine St.nw hS ?_
  clear hS
  intro rb wb hS
  repeat (first | (refine asI_i rfl ?_) | (refine asB_i rfl ?_) | (refine asP_i rfl ?_) | (refine asS_i rfl ?_) | (refine asY_i rfl ?_) | (refine asM_i rfl ?_) | (refine asA_i rfl rfl ?_) | (refine asT_i rfl rfl ?_) | (refine lv_i ?_))
  refine jn_of (fun s w' => s = [.bool (!(a.right && b.right))] ∧ St w w' [(rb, b.cells, 38), (ra, a.cells, 38)]) ?_ ?_
  · clear hS
    rintro _ w' ⟨rfl, hS⟩
    refine asB_i rfl (cond_split (fun h => ?_) (fun h => ?_))
    · repeat (first | (refine asI_i rfl ?_) | (refine asB_i rfl ?_) | (refine asP_i rfl ?_) | (refine asS_i rfl ?_) | (refine asY_i rfl ?_) | (refine asM_i rfl ?_) | (refine asA_i rfl rfl ?_) | (refine asT_i rfl rfl ?_) | (refine lv_i ?_))
      have : gapV a b = (0, 0, 60) := by
        unfold gapV
        rw [if_neg]
        rintro ⟨h1, h2⟩
        rw [h1, h2] at h
        cases h
      have hk := hK _ hS.ext
      rw [this] at hk
      exact hk
    · have h' : a.right = true ∧ b.right = true := by simpa using h
      have hv : gapV a b = (gap a b false, gap a b true, 0) := by unfold gapV; rw [if_pos h']
      repeat (first | (refine gaps_k h'.1 h'.2 ?_; intro _ x; replace hS := hS.to x; clear x) | (refine asI_i rfl ?_) | (refine asB_i rfl ?_) | (refine asP_i rfl ?_) | (refine asS_i rfl ?_) | (refine asY_i rfl ?_) | (refine asM_i rfl ?_) | (refine asA_i rfl rfl ?_) | (refine asT_i rfl rfl ?_) | (refine lv_i ?_) | (refine St.nw hS ?_; clear hS; intro _ _ hS) | (refine St.dw hS ?_; clear hS; intro _ hS _) | (refine hS.ld0 0 rfl rfl ?_) | (refine hS.ld 0 rfl rfl ?_) | (refine hS.ld0 1 rfl rfl ?_) | (refine hS.ld 1 rfl rfl ?_) | (refine hS.ld0 2 rfl rfl ?_) | (refine hS.ld 2 rfl rfl ?_) | (refine hS.ld0 3 rfl rfl ?_) | (refine hS.ld 3 rfl rfl ?_) | (refine hS.ld0 4 rfl rfl ?_) | (refine hS.ld 4 rfl rfl ?_) | (refine hS.ld0 5 rfl rfl ?_) | (refine hS.ld 5 rfl rfl ?_) | (refine hS.ld0 6 rfl rfl ?_) | (refine hS.ld 6 rfl rfl ?_) | (refine hS.ld0 7 rfl rfl ?_) | (refine hS.ld 7 rfl rfl ?_) | (refine hS.hd0 0 rfl rfl ?_) | (refine hS.hd 0 rfl rfl ?_) | (refine hS.hd0 1 rfl rfl ?_) | (refine hS.hd 1 rfl rfl ?_) | (refine hS.hd0 2 rfl rfl ?_) | (refine hS.hd 2 rfl rfl ?_) | (refine hS.hd0 3 rfl rfl ?_) | (refine hS.hd 3 rfl rfl ?_) | (refine hS.hd0 4 rfl rfl ?_) | (refine hS.hd 4 rfl rfl ?_) | (refine hS.hd0 5 rfl rfl ?_) | (refine hS.hd 5 rfl rfl ?_) | (refine hS.hd0 6 rfl rfl ?_) | (refine hS.hd 6 rfl rfl ?_) | (refine hS.hd0 7 rfl rfl ?_) | (refine hS.hd 7 rfl rfl ?_) | (refine hS.st0 0 rfl rfl rfl ?_; clear hS; intro _ hS) | (refine hS.st 0 rfl rfl rfl ?_; clear hS; intro _ hS) | (refine hS.st0 1 rfl rfl rfl ?_; clear hS; intro _ hS) | (refine hS.st 1 rfl rfl rfl ?_; clear hS; intro _ hS) | (refine hS.st0 2 rfl rfl rfl ?_; clear hS; intro _ hS) | (refine hS.st 2 rfl rfl rfl ?_; clear hS; intro _ hS) | (refine hS.st0 3 rfl rfl rfl ?_; clear hS; intro _ hS) | (refine hS.st 3 rfl rfl rfl ?_; clear hS; intro _ hS) | (refine hS.st0 4 rfl rfl rfl ?_; clear hS; intro _ hS) | (refine hS.st 4 rfl rfl rfl ?_; clear hS; intro _ hS) | (refine hS.st0 5 rfl rfl rfl ?_; clear hS; intro _ hS) | (refine hS.st 5 rfl rfl rfl ?_; clear hS; intro _ hS) | (refine hS.st0 6 rfl rfl rfl ?_; clear hS; intro _ hS) | (refine hS.st 6 rfl rfl rfl ?_; clear hS; intro _ hS) | (refine hS.st0 7 rfl rfl rfl ?_; clear hS; intro _ hS) | (refine hS.st 7 rfl rfl rfl ?_; clear hS; intro _ hS) | (refine bnd_mk (by decide) (by decide) ?_) | (refine so_i rfl ?_))
      have hk := hK _ hS.ext
      rw [hv] at hk
      exact hk
  · intro J hJ
    repeat (first | (refine right_k ?_; intro _ x; replace hS := hS.to x; clear x) | (refine asI_i rfl ?_) | (refine asB_i rfl ?_) | (refine asP_i rfl ?_) | (refine asS_i rfl ?_) | (refine asY_i rfl ?_) | (refine asM_i rfl ?_) | (refine asA_i rfl rfl ?_) | (refine asT_i rfl rfl ?_) | (refine lv_i ?_) | (refine St.nw hS ?_; clear hS; intro _ _ hS) | (refine St.dw hS ?_; clear hS; intro _ hS _) | (refine hS.ld0 0 rfl rfl ?_) | (refine hS.ld 0 rfl rfl ?_) | (refine hS.ld0 1 rfl rfl ?_) | (refine hS.ld 1 rfl rfl ?_) | (refine hS.ld0 2 rfl rfl ?_) | (refine hS.ld 2 rfl rfl ?_) | (refine hS.ld0 3 rfl rfl ?_) | (refine hS.ld 3 rfl rfl ?_) | (refine hS.ld0 4 rfl rfl ?_) | (refine hS.ld 4 rfl rfl ?_) | (refine hS.ld0 5 rfl rfl ?_) | (refine hS.ld 5 rfl rfl ?_) | (refine hS.ld0 6 rfl rfl ?_) | (refine hS.ld 6 rfl rfl ?_) | (refine hS.ld0 7 rfl rfl ?_) | (refine hS.ld 7 rfl rfl ?_) | (refine hS.hd0 0 rfl rfl ?_) | (refine hS.hd 0 rfl rfl ?_) | (refine hS.hd0 1 rfl rfl ?_) | (refine hS.hd 1 rfl rfl ?_) | (refine hS.hd0 2 rfl rfl ?_) | (refine hS.hd 2 rfl rfl ?_) | (refine hS.hd0 3 rfl rfl ?_) | (refine hS.hd 3 rfl rfl ?_) | (refine hS.hd0 4 rfl rfl ?_) | (refine hS.hd 4 rfl rfl ?_) | (refine hS.hd0 5 rfl rfl ?_) | (refine hS.hd 5 rfl rfl ?_) | (refine hS.hd0 6 rfl rfl ?_) | (refine hS.hd 6 rfl rfl ?_) | (refine hS.hd0 7 rfl rfl ?_) | (refine hS.hd 7 rfl rfl ?_) | (refine hS.st0 0 rfl rfl rfl ?_; clear hS; intro _ hS) | (refine hS.st 0 rfl rfl rfl ?_; clear hS; intro _ hS) | (refine hS.st0 1 rfl rfl rfl ?_; clear hS; intro _ hS) | (refine hS.st 1 rfl rfl rfl ?_; clear hS; intro _ hS) | (refine hS.st0 2 rfl rfl rfl ?_; clear hS; intro _ hS) | (refine hS.st 2 rfl rfl rfl ?_; clear hS; intro _ hS) | (refine hS.st0 3 rfl rfl rfl ?_; clear hS; intro _ hS) | (refine hS.st 3 rfl rfl rfl ?_; clear hS; intro _ hS) | (refine hS.st0 4 rfl rfl rfl ?_; clear hS; intro _ hS) | (refine hS.st 4 rfl rfl rfl ?_; clear hS; intro _ hS) | (refine hS.st0 5 rfl rfl rfl ?_; clear hS; intro _ hS) | (refine hS.st 5 rfl rfl rfl ?_; clear hS; intro _ hS) | (refine hS.st0 6 rfl rfl rfl ?_; clear hS; intro _ hS) | (refine hS.st 6 rfl rfl rfl ?_; clear hS; intro _ hS) | (refine hS.st0 7 rfl rfl rfl ?_; clear hS; intro _ hS) | (refine hS.st 7 rfl rfl rfl ?_; clear hS; intro _ hS) | (refine bnd_mk (by decide) (by decide) ?_) | (refine so_i rfl ?_))
    refine cond_split (fun h => hJ _ _ ⟨?_, hS⟩) (fun h => ?_)
    · rw [rightE_ne] at h
      have : a.right = false := by simpa using h
      simp [this]
    · rw [rightE_ne] at h
      have h1 : a.right = true := by simpa using h
      repeat (first | (refine right_k ?_; intro _ x; replace hS := hS.to x; clear x) | (refine asI_i rfl ?_) | (refine asB_i rfl ?_) | (refine asP_i rfl ?_) | (refine asS_i rfl ?_) | (refine asY_i rfl ?_) | (refine asM_i rfl ?_) | (refine asA_i rfl rfl ?_) | (refine asT_i rfl rfl ?_) | (refine lv_i ?_) | (refine St.nw hS ?_; clear hS; intro _ _ hS) | (refine St.dw hS ?_; clear hS; intro _ hS _) | (refine hS.ld0 0 rfl rfl ?_) | (refine hS.ld 0 rfl rfl ?_) | (refine hS.ld0 1 rfl rfl ?_) | (refine hS.ld 1 rfl rfl ?_) | (refine hS.ld0 2 rfl rfl ?_) | (refine hS.ld 2 rfl rfl ?_) | (refine hS.ld0 3 rfl rfl ?_) | (refine hS.ld 3 rfl rfl ?_) | (refine hS.ld0 4 rfl rfl ?_) | (refine hS.ld 4 rfl rfl ?_) | (refine hS.ld0 5 rfl rfl ?_) | (refine hS.ld 5 rfl rfl ?_) | (refine hS.ld0 6 rfl rfl ?_) | (refine hS.ld 6 rfl rfl ?_) | (refine hS.ld0 7 rfl rfl ?_) | (refine hS.ld 7 rfl rfl ?_) | (refine hS.hd0 0 rfl rfl ?_) | (refine hS.hd 0 rfl rfl ?_) | (refine hS.hd0 1 rfl rfl ?_) | (refine hS.hd 1 rfl rfl ?_) | (refine hS.hd0 2 rfl rfl ?_) | (refine hS.hd 2 rfl rfl ?_) | (refine hS.hd0 3 rfl rfl ?_) | (refine hS.hd 3 rfl rfl ?_) | (refine hS.hd0 4 rfl rfl ?_) | (refine hS.hd 4 rfl rfl ?_) | (refine hS.hd0 5 rfl rfl ?_) | (refine hS.hd 5 rfl rfl ?_) | (refine hS.hd0 6 rfl rfl ?_) | (refine hS.hd 6 rfl rfl ?_) | (refine hS.hd0 7 rfl rfl ?_) | (refine hS.hd 7 rfl rfl ?_) | (refine hS.st0 0 rfl rfl rfl ?_; clear hS; intro _ hS) | (refine hS.st 0 rfl rfl rfl ?_; clear hS; intro _ hS) | (refine hS.st0 1 rfl rfl rfl ?_; clear hS; intro _ hS) | (refine hS.st 1 rfl rfl rfl ?_; clear hS; intro _ hS) | (refine hS.st0 2 rfl rfl rfl ?_; clear hS; intro _ hS) | (refine hS.st 2 rfl rfl rfl ?_; clear hS; intro _ hS) | (refine hS.st0 3 rfl rfl rfl ?_; clear hS; intro _ hS) | (refine hS.st 3 rfl rfl rfl ?_; clear hS; intro _ hS) | (refine hS.st0 4 rfl rfl rfl ?_; clear hS; intro _ hS) | (refine hS.st 4 rfl rfl rfl ?_; clear hS; intro _ hS) | (refine hS.st0 5 rfl rfl rfl ?_; clear hS; intro _ hS) | (refine hS.st 5 rfl rfl rfl ?_; clear hS; intro _ hS) | (refine hS.st0 6 rfl rfl rfl ?_; clear hS; intro _ hS) | (refine hS.st 6 rfl rfl rfl ?_; clear hS; intro _ hS) | (refine hS.st0 7 rfl rfl rfl ?_; clear hS; intro _ hS) | (refine hS.st 7 rfl rfl rfl ?_; clear hS; intro _ hS) | (refine bnd_mk (by decide) (by decide) ?_) | (refine so_i rfl ?_))
      refine hJ _ _ ⟨?_, hS⟩
      rw [rightE_ne, h1]
      rfl

/-- whether two meet -/
def meetV (a b : Bx) : Bool × Int := (decide ((gapV a b).1 < 0) && decide ((gapV a b).2.1 < 0), (gapV a b).2.2)
def t2 (p : Bool × Int) : Value := .tuple #[.bool p.1, .int .i64 p.2]

theorem meet_k {a b : Bx} {w : World} {K : Value → World → Prop} (hK : ∀ w', Ext no w w' → K (t2 (meetV a b)) w') : cl Tryd.prog 12 #[a.v, b.v] w K := by
  apply F12_calls
  unfold F12
  have hS := St.start w
  repeat (first | (refine gap_k ?_; intro _ x; replace hS := hS.to x; clear x) | (refine asI_i rfl ?_) | (refine asB_i rfl ?_) | (refine asP_i rfl ?_) | (refine asS_i rfl ?_) | (refine asY_i rfl ?_) | (refine asM_i rfl ?_) | (refine asA_i rfl rfl ?_) | (refine asT_i rfl rfl ?_) | (refine lv_i ?_) | (refine St.nw hS ?_; clear hS; intro _ _ hS) | (refine St.dw hS ?_; clear hS; intro _ hS _) | (refine hS.ld0 0 rfl rfl ?_) | (refine hS.ld 0 rfl rfl ?_) | (refine hS.ld0 1 rfl rfl ?_) | (refine hS.ld 1 rfl rfl ?_) | (refine hS.ld0 2 rfl rfl ?_) | (refine hS.ld 2 rfl rfl ?_) | (refine hS.ld0 3 rfl rfl ?_) | (refine hS.ld 3 rfl rfl ?_) | (refine hS.ld0 4 rfl rfl ?_) | (refine hS.ld 4 rfl rfl ?_) | (refine hS.ld0 5 rfl rfl ?_) | (refine hS.ld 5 rfl rfl ?_) | (refine hS.ld0 6 rfl rfl ?_) | (refine hS.ld 6 rfl rfl ?_) | (refine hS.ld0 7 rfl rfl ?_) | (refine hS.ld 7 rfl rfl ?_) | (refine hS.hd0 0 rfl rfl ?_) | (refine hS.hd 0 rfl rfl ?_) | (refine hS.hd0 1 rfl rfl ?_) | (refine hS.hd 1 rfl rfl ?_) | (refine hS.hd0 2 rfl rfl ?_) | (refine hS.hd 2 rfl rfl ?_) | (refine hS.hd0 3 rfl rfl ?_) | (refine hS.hd 3 rfl rfl ?_) | (refine hS.hd0 4 rfl rfl ?_) | (refine hS.hd 4 rfl rfl ?_) | (refine hS.hd0 5 rfl rfl ?_) | (refine hS.hd 5 rfl rfl ?_) | (refine hS.hd0 6 rfl rfl ?_) | (refine hS.hd 6 rfl rfl ?_) | (refine hS.hd0 7 rfl rfl ?_) | (refine hS.hd 7 rfl rfl ?_) | (refine hS.st0 0 rfl rfl rfl ?_; clear hS; intro _ hS) | (refine hS.st 0 rfl rfl rfl ?_; clear hS; intro _ hS) | (refine hS.st0 1 rfl rfl rfl ?_; clear hS; intro _ hS) | (refine hS.st 1 rfl rfl rfl ?_; clear hS; intro _ hS) | (refine hS.st0 2 rfl rfl rfl ?_; clear hS; intro _ hS) | (refine hS.st 2 rfl rfl rfl ?_; clear hS; intro _ hS) | (refine hS.st0 3 rfl rfl rfl ?_; clear hS; intro _ hS) | (refine hS.st 3 rfl rfl rfl ?_; clear hS; intro _ hS) | (refine hS.st0 4 rfl rfl rfl ?_; clear hS; intro _ hS) | (refine hS.st 4 rfl rfl rfl ?_; clear hS; intro _ hS) | (refine hS.st0 5 rfl rfl rfl ?_; clear hS; intro _ hS) | (refine hS.st 5 rfl rfl rfl ?_; clear hS; intro _ hS) | (refine hS.st0 6 rfl rfl rfl ?_; clear hS; intro _ hS) | (refine hS.st 6 rfl rfl rfl ?_; clear hS; intro _ hS) | (refine hS.st0 7 rfl rfl rfl ?_; clear hS; intro _ hS) | (refine hS.st 7 rfl rfl rfl ?_; clear hS; intro _ hS) | (refine bnd_mk (by decide) (by decide) ?_) | (refine so_i rfl ?_))
  refine jn_mk (cond_split (fun h => ?_) (fun h => ?_))
  · repeat (first | (refine asI_i rfl ?_) | (refine asB_i rfl ?_) | (refine asP_i rfl ?_) | (refine asS_i rfl ?_) | (refine asY_i rfl ?_) | (refine asM_i rfl ?_) | (refine asA_i rfl rfl ?_) | (refine asT_i rfl rfl ?_) | (refine lv_i ?_))
    have hk := hK _ hS.ext
    unfold t2 meetV at hk
    rw [h] at hk
    exact hk
  · repeat (first | (refine asI_i rfl ?_) | (refine asB_i rfl ?_) | (refine asP_i rfl ?_) | (refine asS_i rfl ?_) | (refine asY_i rfl ?_) | (refine asM_i rfl ?_) | (refine asA_i rfl rfl ?_) | (refine asT_i rfl rfl ?_) | (refine lv_i ?_))
    have hk := hK _ hS.ext
    unfold t2 meetV at hk
    rw [h] at hk
    exact hk

theorem gapV_bad {a b : Bx} (h : (gapV a b).2.2 ≠ 0) : (gapV a b).1 = 0 ∧ (gapV a b).2.1 = 0 := by
  unfold gapV at h ⊢
  split
  · rename_i hh
    rw [if_pos hh] at h
    exact absurd rfl h
  · exact ⟨rfl, rfl⟩

/-! ### Near -/
def nearV (px py qx qy r : Int) : Bool := decide (0 ≤ r) && decide (adiff px qx ≤ r) && decide (adiff py qy ≤ r)

def I64 (n : Int) : Prop := -9223372036854775808 ≤ n ∧ n ≤ 9223372036854775807

theorem wru64 {n : Int} : IntKind.wrap .u64 n = n % 18446744073709551616 := by simp [IntKind.wrap, IntKind.bits, IntKind.signed]

end Go.Proofs.YtamobmjfdiecbaaDoor

/- Fp: small whole numbers as floats of 64 bits: written and read back, added, subtracted, compared exactly. Conditions: their size. -/
namespace Go.Fp
open Ieee

/-- the word of a whole number -/
def F (n : Int) : Nat := double.write (.number (decide (n < 0)) n.natAbs 0)

theorem log_le {m : Nat} (h0 : m ≠ 0) (h : m < 2 ^ 53) : m.log2 ≤ 52 := by
  have := (Nat.log2_lt h0).2 h
  omega

theorem log_bound {m : Nat} (h0 : m ≠ 0) : 2 ^ m.log2 ≤ m ∧ m < 2 ^ (m.log2 + 1) := ⟨Nat.log2_self_le h0, Nat.lt_log2_self⟩

theorem kept_bound {m : Nat} (h0 : m ≠ 0) (h : m < 2 ^ 53) : 2 ^ 52 ≤ m * 2 ^ (52 - m.log2) ∧ m * 2 ^ (52 - m.log2) < 2 ^ 53 := by
  obtain ⟨h1, h2⟩ := log_bound h0
  have hl := log_le h0 h
  have e1 : 2 ^ m.log2 * 2 ^ (52 - m.log2) = 2 ^ 52 := by rw [← Nat.pow_add]; congr 1; omega
  have e2 : 2 ^ (m.log2 + 1) * 2 ^ (52 - m.log2) = 2 ^ 53 := by rw [← Nat.pow_add]; congr 1; omega
  constructor
  · rw [← e1]; exact Nat.mul_le_mul_right _ h1
  · rw [← e2]; exact Nat.mul_lt_mul_of_pos_right h2 (Nat.two_pow_pos _)

theorem log_mul {m k : Nat} (h0 : m ≠ 0) : (m * 2 ^ k).log2 = m.log2 + k := by
  obtain ⟨h1, h2⟩ := log_bound h0
  have hne : m * 2 ^ k ≠ 0 := Nat.mul_ne_zero h0 (Nat.ne_of_gt (Nat.two_pow_pos k))
  have a : m.log2 + k ≤ (m * 2 ^ k).log2 := (Nat.le_log2 hne).2 (by rw [Nat.pow_add]; exact Nat.mul_le_mul_right _ h1)
  have b : (m * 2 ^ k).log2 < m.log2 + k + 1 := (Nat.log2_lt hne).2 (by
    have : m.log2 + k + 1 = (m.log2 + 1) + k := by omega
    rw [this, Nat.pow_add]
    exact Nat.mul_lt_mul_of_pos_right h2 (Nat.two_pow_pos k))
  omega

theorem cut_exact {s : Bool} {a d : Nat} (hd : d ≤ (a * 2 ^ d).log2 + 2) : Toward.even.cut s (a * 2 ^ d) d = a := by
  unfold Toward.cut
  have hm : min d ((a * 2 ^ d).log2 + 2) = d := Nat.min_eq_left hd
  have hg : 1 <<< min d ((a * 2 ^ d).log2 + 2) = 2 ^ d := by rw [hm, Nat.shiftLeft_eq, Nat.one_mul]
  simp only [hg, Nat.mul_div_cancel _ (Nat.two_pow_pos d), Nat.mul_mod_left]
  simp

/-- the word of a number, whatever the place it is told at -/
theorem nearest_at {s : Bool} {m k : Nat} (h0 : m ≠ 0) (h : m < 2 ^ 53) :
    double.nearest s (m * 2 ^ k) (-(k : Int)) = double.word s ((m.log2 + 1022) * 2 ^ 52 + m * 2 ^ (52 - m.log2)) := by
  have hl := log_le h0 h
  have hne : m * 2 ^ k ≠ 0 := Nat.mul_ne_zero h0 (Nat.ne_of_gt (Nat.two_pow_pos k))
  have kb := kept_bound h0 h
  unfold Format.nearest
  rw [if_neg hne]
  have hlast : max (-(k : Int) + ((m * 2 ^ k).log2 : Int) - (double.fractionBits : Int)) double.leastPlace = (m.log2 : Int) - 52 := by
    rw [log_mul h0]
    simp only [double, Format.leastPlace]
    omega
  simp only [hlast]
  have hkept : Toward.even.cut s ((m * 2 ^ k) <<< (-(k : Int) - ((m.log2 : Int) - 52)).toNat) (((m.log2 : Int) - 52) - -(k : Int)).toNat = m * 2 ^ (52 - m.log2) := by
    by_cases hc : k ≤ 52 - m.log2
    · have e1 : (-(k : Int) - ((m.log2 : Int) - 52)).toNat = 52 - m.log2 - k := by omega
      have e2 : (((m.log2 : Int) - 52) - -(k : Int)).toNat = 0 := by omega
      have e3 : (m * 2 ^ k) <<< (52 - m.log2 - k) = m * 2 ^ (52 - m.log2) * 2 ^ 0 := by
        rw [Nat.shiftLeft_eq, Nat.mul_assoc, ← Nat.pow_add, Nat.pow_zero, Nat.mul_one]
        congr 2
        omega
      rw [e1, e2, e3, cut_exact (Nat.zero_le _)]
    · have e1 : (-(k : Int) - ((m.log2 : Int) - 52)).toNat = 0 := by omega
      have e2 : (((m.log2 : Int) - 52) - -(k : Int)).toNat = k - (52 - m.log2) := by omega
      have e4 : (m * 2 ^ k) <<< 0 = (m * 2 ^ (52 - m.log2)) * 2 ^ (k - (52 - m.log2)) := by
        rw [Nat.shiftLeft_eq, Nat.pow_zero, Nat.mul_one, Nat.mul_assoc, ← Nat.pow_add]
        congr 2
        omega
      rw [e1, e2, e4, cut_exact]
      have hne2 : m * 2 ^ (52 - m.log2) ≠ 0 := by omega
      rw [log_mul hne2]
      omega
  rw [hkept]
  have hplace : ((m.log2 : Int) - 52 - double.leastPlace).toNat = m.log2 + 1022 := by
    simp only [double, Format.leastPlace]
    omega
  rw [hplace]
  have hmin : min ((m.log2 + 1022) * double.binade + m * 2 ^ (52 - m.log2)) double.infRung = (m.log2 + 1022) * 2 ^ 52 + m * 2 ^ (52 - m.log2) := by
    simp only [double, Format.binade, Format.infRung]
    omega
  rw [hmin]

theorem F_zero : F 0 = 0 := by decide

theorem F_eq {n : Int} (h0 : n ≠ 0) (h : n.natAbs < 2 ^ 53) : F n = double.word (decide (n < 0)) ((n.natAbs.log2 + 1022) * 2 ^ 52 + n.natAbs * 2 ^ (52 - n.natAbs.log2)) := by
  have hm : n.natAbs ≠ 0 := by omega
  have := nearest_at (s := decide (n < 0)) (k := 0) hm h
  rw [Nat.pow_zero, Nat.mul_one] at this
  exact this

theorem read_word {s : Bool} {m : Nat} (h0 : m ≠ 0) (h : m < 2 ^ 53) : double.read (double.word s ((m.log2 + 1022) * 2 ^ 52 + m * 2 ^ (52 - m.log2))) = .number s (m * 2 ^ (52 - m.log2)) ((m.log2 : Int) - 52) := by
  have kb := kept_bound h0 h
  have hl := log_le h0 h
  generalize m * 2 ^ (52 - m.log2) = q at *
  have e52 : (2 : Nat) ^ 52 = 4503599627370496 := by decide
  have e53 : (2 : Nat) ^ 53 = 9007199254740992 := by decide
  have e63 : (2 : Nat) ^ 63 = 9223372036854775808 := by decide
  have hr : (m.log2 + 1022) * 2 ^ 52 + q < 2 ^ 63 := by omega
  have hw : double.word s ((m.log2 + 1022) * 2 ^ 52 + q) / double.signWeight % 2 = s.toNat ∧ double.word s ((m.log2 + 1022) * 2 ^ 52 + q) % double.signWeight = (m.log2 + 1022) * 2 ^ 52 + q := by
    have hs : double.signWeight = 2 ^ 63 := rfl
    rw [hs]
    cases s
    · simp only [Format.word, Bool.false_eq_true, if_false, Bool.toNat_false]
      omega
    · simp only [Format.word, if_true, hs, Bool.toNat_true]
      omega
  unfold Format.read
  simp only [hw.1, hw.2]
  have hb : double.binade = 2 ^ 52 := rfl
  have hi : double.infRung = 2047 * 2 ^ 52 := rfl
  have hp : double.leastPlace = -1074 := rfl
  rw [hb, hi, hp, if_neg (by omega), if_pos (by omega)]
  have hd : ((m.log2 + 1022) * 2 ^ 52 + q) / 2 ^ 52 = m.log2 + 1023 := by omega
  have hm : 2 ^ 52 + ((m.log2 + 1022) * 2 ^ 52 + q) % 2 ^ 52 = q := by omega
  rw [hd, hm]
  have hn : (s.toNat == 1) = s := by cases s <;> rfl
  have hpl : (-1074 : Int) + ((m.log2 + 1023 - 1 : Nat) : Int) = (m.log2 : Int) - 52 := by omega
  rw [hn, hpl]

/-- what a whole number's word stands for -/
theorem read_F {n : Int} (h : n.natAbs < 2 ^ 53) : ∃ k : Nat, double.read (F n) = .number (decide (n < 0)) (n.natAbs * 2 ^ k) (-(k : Int)) := by
  by_cases h0 : n = 0
  · subst h0
    have hr : double.read 0 = .number false 0 (-1074) := rfl
    obtain ⟨k, hk⟩ : ∃ k : Nat, -(k : Int) = -1074 := ⟨1074, rfl⟩
    have e : (0 : Int).natAbs * 2 ^ k = 0 := Nat.zero_mul _
    refine ⟨k, ?_⟩
    rw [F_zero, hr, e, hk]
    rfl
  · have hm : n.natAbs ≠ 0 := by omega
    have hl := log_le hm h
    refine ⟨52 - n.natAbs.log2, ?_⟩
    rw [F_eq h0 h, read_word hm h]
    have : ((n.natAbs.log2 : Int) - 52) = -((52 - n.natAbs.log2 : Nat) : Int) := by omega
    rw [this]

/-- any telling of a whole number is written as its word -/
theorem write_at {n : Int} {k : Nat} {s : Bool} (h : n.natAbs < 2 ^ 53) (hs : s = decide (n < 0)) : double.write (.number s (n.natAbs * 2 ^ k) (-(k : Int))) = F n := by
  subst hs
  show double.nearest _ _ _ = _
  by_cases h0 : n = 0
  · subst h0
    rw [F_zero]
    have : (0 : Int).natAbs * 2 ^ k = 0 := by simp
    rw [this]
    unfold Format.nearest
    rw [if_pos rfl]
    rfl
  · have hm : n.natAbs ≠ 0 := by omega
    rw [nearest_at hm h, F_eq h0 h]

theorem signed_at (n : Int) (k u : Nat) : signed (decide (n < 0)) (n.natAbs * 2 ^ k) u = n * ((2 ^ (k + u) : Nat) : Int) := by
  unfold signed
  rw [Nat.shiftLeft_eq, Nat.mul_assoc, ← Nat.pow_add]
  by_cases h : n < 0
  · rw [if_pos (by simpa using h), Int.natCast_mul, ← Int.neg_mul]
    congr 1
    omega
  · rw [if_neg (by simpa using h), Int.natCast_mul]
    congr 1
    omega

/-- sums of data told at places -/
theorem sum_at {a b : Int} {k l : Nat} {s t : Bool} (hs : a ≠ 0 → s = decide (a < 0)) (ht : b ≠ 0 → t = decide (b < 0)) (hst : a + b = 0 → (s && t) = false) (h : (a + b).natAbs < 2 ^ 53) :
    ((Datum.number s (a.natAbs * 2 ^ k) (-(k : Int))).sum (.number t (b.natAbs * 2 ^ l) (-(l : Int)))).map double.write = some (F (a + b)) := by
  have sg : ∀ (n : Int) (s : Bool) (k u : Nat), (n ≠ 0 → s = decide (n < 0)) → signed s (n.natAbs * 2 ^ k) u = n * ((2 ^ (k + u) : Nat) : Int) := by
    intro n s k u hn
    by_cases h0 : n = 0
    · subst h0
      unfold signed
      have : (0 : Int).natAbs * 2 ^ k = 0 := Nat.zero_mul _
      rw [this, Nat.zero_shiftLeft]
      simp
    · rw [hn h0]
      exact signed_at n k u
  obtain ⟨m, hm⟩ : ∃ m : Nat, min (-(k : Int)) (-(l : Int)) = -(m : Int) := ⟨max k l, by omega⟩
  simp only [Datum.sum, hm, Option.map_some]
  have hk : k ≤ m := by omega
  have hl : l ≤ m := by omega
  have e1 : (-(k : Int) - -(m : Int)).toNat = m - k := by omega
  have e2 : (-(l : Int) - -(m : Int)).toNat = m - l := by omega
  rw [e1, e2, sg a s k (m - k) hs, sg b t l (m - l) ht]
  have e3 : k + (m - k) = m := by omega
  have e4 : l + (m - l) = m := by omega
  rw [e3, e4, ← Int.add_mul]
  have hp : 0 < ((2 ^ m : Nat) : Int) := by
    have := Nat.two_pow_pos m
    omega
  generalize hc : a + b = c at *
  have ec : (c * ((2 ^ m : Nat) : Int)).natAbs = c.natAbs * 2 ^ m := by rw [Int.natAbs_mul, Int.natAbs_natCast]
  rw [ec]
  by_cases h0 : c = 0
  · have hz : c * ((2 ^ m : Nat) : Int) = 0 := by rw [h0, Int.zero_mul]
    rw [if_pos hz, hst h0]
    rw [write_at h (by rw [h0]; rfl)]
  · have hz : c * ((2 ^ m : Nat) : Int) ≠ 0 := Int.mul_ne_zero h0 (Int.ne_of_gt hp)
    rw [if_neg hz]
    have hlt : decide (c * ((2 ^ m : Nat) : Int) < 0) = decide (c < 0) := by
      congr 1
      apply propext
      constructor
      · intro hh
        by_cases hc0 : c < 0
        · exact hc0
        · have : 0 ≤ c * ((2 ^ m : Nat) : Int) := Int.mul_nonneg (by omega) (Int.le_of_lt hp)
          omega
      · intro hh
        exact Int.mul_neg_of_neg_of_pos hh hp
    rw [hlt, write_at h rfl]

theorem add_F {a b : Int} (ha : a.natAbs < 2 ^ 53) (hb : b.natAbs < 2 ^ 53) (h : (a + b).natAbs < 2 ^ 53) : double.add (F a) (F b) = some (F (a + b)) := by
  obtain ⟨k, hk⟩ := read_F ha
  obtain ⟨l, hl⟩ := read_F hb
  unfold Format.add
  rw [hk, hl]
  refine sum_at (fun _ => rfl) (fun _ => rfl) (fun h0 => ?_) h
  by_cases h1 : a < 0
  · have : ¬ b < 0 := by omega
    simp [this]
  · simp [h1]

theorem sub_F {a b : Int} (ha : a.natAbs < 2 ^ 53) (hb : b.natAbs < 2 ^ 53) (h : (a - b).natAbs < 2 ^ 53) : double.sub (F a) (F b) = some (F (a - b)) := by
  obtain ⟨k, hk⟩ := read_F ha
  obtain ⟨l, hl⟩ := read_F hb
  unfold Format.sub
  rw [hk, hl]
  have hn : b.natAbs = (-b).natAbs := (Int.natAbs_neg b).symm
  show ((Datum.number _ _ _).sum (.number (!decide (b < 0)) (b.natAbs * 2 ^ l) _)).map _ = _
  rw [hn]
  have e : a - b = a + -b := Int.sub_eq_add_neg
  rw [e]
  refine sum_at (fun _ => rfl) (fun h0 => ?_) (fun h0 => ?_) (by rw [← e]; exact h)
  · by_cases h1 : b < 0
    · rw [decide_eq_true h1, decide_eq_false (show ¬ -b < 0 by omega)]
      rfl
    · rw [decide_eq_false h1, decide_eq_true (show -b < 0 by omega)]
      rfl
  · by_cases h1 : a < 0
    · have : b < 0 := by omega
      simp [this]
    · simp [h1]

theorem toInt_at {n : Int} {k : Nat} : (Datum.number (decide (n < 0)) (n.natAbs * 2 ^ k) (-(k : Int))).toInt .zero = some n := by
  have hc : Toward.zero.cut (decide (n < 0)) ((n.natAbs * 2 ^ k) <<< (-(k : Int)).toNat) (-(-(k : Int))).toNat = n.natAbs := by
    have e1 : (-(k : Int)).toNat = 0 := by omega
    have e2 : (-(-(k : Int))).toNat = k := by omega
    rw [e1, e2, Nat.shiftLeft_eq, Nat.pow_zero, Nat.mul_one]
    unfold Toward.cut
    by_cases h0 : n.natAbs = 0
    · have : n.natAbs * 2 ^ k = 0 := by rw [h0, Nat.zero_mul]
      rw [this, h0]
      simp
    · have hm : min k ((n.natAbs * 2 ^ k).log2 + 2) = k := Nat.min_eq_left (by rw [log_mul h0]; omega)
      have hg : 1 <<< min k ((n.natAbs * 2 ^ k).log2 + 2) = 2 ^ k := by rw [hm, Nat.shiftLeft_eq, Nat.one_mul]
      simp only [hg, Nat.mul_div_cancel _ (Nat.two_pow_pos k)]
      simp
  unfold Datum.toInt Datum.integral
  simp only [hc]
  congr 1
  have := signed_at n 0 0
  simp only [Nat.pow_zero, Nat.mul_one, Nat.add_zero] at this
  rw [this]
  simp

theorem toInt_F {n : Int} (h : n.natAbs < 2 ^ 53) : (double.read (F n)).toInt .zero = some n := by
  obtain ⟨k, hk⟩ := read_F h
  rw [hk, toInt_at]

theorem order_F {a b : Int} (ha : a.natAbs < 2 ^ 53) (hb : b.natAbs < 2 ^ 53) : double.order (F a) (F b) = some (compare a b) := by
  obtain ⟨k, hk⟩ := read_F ha
  obtain ⟨l, hl⟩ := read_F hb
  unfold Format.order
  rw [hk, hl]
  obtain ⟨m, hm⟩ : ∃ m : Nat, min (-(k : Int)) (-(l : Int)) = -(m : Int) := ⟨max k l, by omega⟩
  simp only [Datum.order, hm]
  have e1 : (-(k : Int) - -(m : Int)).toNat = m - k := by omega
  have e2 : (-(l : Int) - -(m : Int)).toNat = m - l := by omega
  rw [e1, e2, signed_at, signed_at, show k + (m - k) = m by omega, show l + (m - l) = m by omega]
  have hp : 0 < ((2 ^ m : Nat) : Int) := by
    have := Nat.two_pow_pos m
    omega
  congr 1
  simp only [compare, compareOfLessAndEq]
  have h1 : (a * ((2 ^ m : Nat) : Int) < b * ((2 ^ m : Nat) : Int)) = (a < b) := propext ⟨fun h => Int.lt_of_mul_lt_mul_right h (Int.le_of_lt hp), fun h => Int.mul_lt_mul_of_pos_right h hp⟩
  have h2 : (a * ((2 ^ m : Nat) : Int) = b * ((2 ^ m : Nat) : Int)) = (a = b) := propext ⟨fun h => Int.eq_of_mul_eq_mul_right (Int.ne_of_gt hp) h, fun h => by rw [h]⟩
  simp only [h1, h2]

theorem mul_F {a b : Int} (ha : a.natAbs < 2 ^ 53) (hb : b.natAbs < 2 ^ 53) (h : (a * b).natAbs < 2 ^ 53) (h0 : a * b = 0 → (decide (a < 0) ^^ decide (b < 0)) = false) : double.mul (F a) (F b) = some (F (a * b)) := by
  obtain ⟨k, hk⟩ := read_F ha
  obtain ⟨l, hl⟩ := read_F hb
  unfold Format.mul
  rw [hk, hl]
  simp only [Datum.product, Option.map_some]
  have e1 : a.natAbs * 2 ^ k * (b.natAbs * 2 ^ l) = (a * b).natAbs * 2 ^ (k + l) := by
    rw [Int.natAbs_mul, Nat.pow_add]
    simp only [Nat.mul_assoc, Nat.mul_left_comm]
  have e2 : -(k : Int) + -(l : Int) = -((k + l : Nat) : Int) := by omega
  rw [e1, e2, write_at h]
  by_cases hz : a * b = 0
  · rw [h0 hz, hz]
    rfl
  · have hane : a ≠ 0 := fun e => hz (by rw [e, Int.zero_mul])
    have hbne : b ≠ 0 := fun e => hz (by rw [e, Int.mul_zero])
    by_cases h1 : a < 0
    · by_cases h2 : b < 0
      · have : 0 < a * b := Int.mul_pos_of_neg_of_neg h1 h2
        rw [decide_eq_true h1, decide_eq_true h2, decide_eq_false (by omega)]
        rfl
      · have : a * b < 0 := Int.mul_neg_of_neg_of_pos h1 (by omega)
        rw [decide_eq_true h1, decide_eq_false h2, decide_eq_true this]
        rfl
    · by_cases h2 : b < 0
      · have : a * b < 0 := Int.mul_neg_of_pos_of_neg (by omega) h2
        rw [decide_eq_false h1, decide_eq_true h2, decide_eq_true this]
        rfl
      · have : 0 < a * b := Int.mul_pos (by omega) (by omega)
        rw [decide_eq_false h1, decide_eq_false h2, decide_eq_false (by omega)]
        rfl
end Go.Fp

/- Fn: floats of 64 bits that stand for small whole numbers, -0 for 0 too: sums, differences, products, order. Conditions: their size. -/
namespace Go.Fp
open Ieee

/-- the word stands for a whole number -/
def N (x : Nat) (n : Int) : Prop := n.natAbs < 2 ^ 53 ∧ (x = F n ∨ (n = 0 ∧ x = 9223372036854775808))

theorem N_F {n : Int} (h : n.natAbs < 2 ^ 53) : N (F n) n := ⟨h, .inl rfl⟩
theorem N_lit {x : Nat} {n : Int} (h : n.natAbs < 2 ^ 53) (e : F n = x) : N x n := ⟨h, .inl e.symm⟩

theorem N.read {x : Nat} {n : Int} (h : N x n) : ∃ (s : Bool) (k : Nat), double.read x = .number s (n.natAbs * 2 ^ k) (-(k : Int)) ∧ (n ≠ 0 → s = decide (n < 0)) := by
  obtain ⟨hn, rfl | ⟨rfl, rfl⟩⟩ := h
  · obtain ⟨k, hk⟩ := read_F hn
    exact ⟨_, k, hk, fun _ => rfl⟩
  · have hr : double.read 9223372036854775808 = .number true 0 (-1074) := rfl
    obtain ⟨k, hk⟩ : ∃ k : Nat, -(k : Int) = -1074 := ⟨1074, rfl⟩
    have e : (0 : Int).natAbs * 2 ^ k = 0 := Nat.zero_mul _
    exact ⟨true, k, by rw [hr, e, hk], fun h => absurd rfl h⟩

/-- what is written of a whole number told at a place, whatever the sign of a zero -/
theorem write_N {n : Int} {k : Nat} {s : Bool} (h : n.natAbs < 2 ^ 53) (hs : n ≠ 0 → s = decide (n < 0)) : N (double.write (.number s (n.natAbs * 2 ^ k) (-(k : Int)))) n := by
  by_cases h0 : n = 0
  · subst h0
    refine ⟨h, ?_⟩
    have : (0 : Int).natAbs * 2 ^ k = 0 := Nat.zero_mul _
    rw [this]
    have hw : double.write (.number s 0 (-(k : Int))) = double.word s 0 := by
      show double.nearest _ _ _ = _
      unfold Format.nearest
      rw [if_pos rfl]
    rw [hw]
    cases s
    · exact .inl rfl
    · exact .inr ⟨rfl, rfl⟩
  · rw [write_at h (hs h0)]
    exact N_F h

theorem sg_at (n : Int) (s : Bool) (k u : Nat) (hn : n ≠ 0 → s = decide (n < 0)) : signed s (n.natAbs * 2 ^ k) u = n * ((2 ^ (k + u) : Nat) : Int) := by
  by_cases h0 : n = 0
  · subst h0
    unfold signed
    have : (0 : Int).natAbs * 2 ^ k = 0 := Nat.zero_mul _
    rw [this, Nat.zero_shiftLeft]
    simp
  · rw [hn h0]
    exact signed_at n k u

theorem sum_N {a b : Int} {k l : Nat} {s t : Bool} (hs : a ≠ 0 → s = decide (a < 0)) (ht : b ≠ 0 → t = decide (b < 0)) (h : (a + b).natAbs < 2 ^ 53) :
    ∃ z, ((Datum.number s (a.natAbs * 2 ^ k) (-(k : Int))).sum (.number t (b.natAbs * 2 ^ l) (-(l : Int)))).map double.write = some z ∧ N z (a + b) := by
  obtain ⟨m, hm⟩ : ∃ m : Nat, min (-(k : Int)) (-(l : Int)) = -(m : Int) := ⟨max k l, by omega⟩
  simp only [Datum.sum, hm, Option.map_some]
  refine ⟨_, rfl, ?_⟩
  have hk : k ≤ m := by omega
  have hl : l ≤ m := by omega
  have e1 : (-(k : Int) - -(m : Int)).toNat = m - k := by omega
  have e2 : (-(l : Int) - -(m : Int)).toNat = m - l := by omega
  rw [e1, e2, sg_at a s k (m - k) hs, sg_at b t l (m - l) ht]
  have e3 : k + (m - k) = m := by omega
  have e4 : l + (m - l) = m := by omega
  rw [e3, e4, ← Int.add_mul]
  have hp : 0 < ((2 ^ m : Nat) : Int) := by
    have := Nat.two_pow_pos m
    omega
  generalize hc : a + b = c at *
  have ec : (c * ((2 ^ m : Nat) : Int)).natAbs = c.natAbs * 2 ^ m := by rw [Int.natAbs_mul, Int.natAbs_natCast]
  rw [ec]
  refine write_N h fun h0 => ?_
  have hz : c * ((2 ^ m : Nat) : Int) ≠ 0 := Int.mul_ne_zero h0 (Int.ne_of_gt hp)
  rw [if_neg hz]
  congr 1
  apply propext
  constructor
  · intro hh
    by_cases hc0 : c < 0
    · exact hc0
    · have : 0 ≤ c * ((2 ^ m : Nat) : Int) := Int.mul_nonneg (by omega) (Int.le_of_lt hp)
      omega
  · intro hh
    exact Int.mul_neg_of_neg_of_pos hh hp

theorem add_N {x y : Nat} {a b : Int} (hx : N x a) (hy : N y b) (h : (a + b).natAbs < 2 ^ 53) : ∃ z, double.add x y = some z ∧ N z (a + b) := by
  obtain ⟨s, k, hk, hs⟩ := hx.read
  obtain ⟨t, l, hl, ht⟩ := hy.read
  unfold Format.add
  rw [hk, hl]
  exact sum_N hs ht h

theorem sub_N {x y : Nat} {a b : Int} (hx : N x a) (hy : N y b) (h : (a - b).natAbs < 2 ^ 53) : ∃ z, double.sub x y = some z ∧ N z (a - b) := by
  obtain ⟨s, k, hk, hs⟩ := hx.read
  obtain ⟨t, l, hl, ht⟩ := hy.read
  unfold Format.sub
  rw [hk, hl]
  have hn : b.natAbs = (-b).natAbs := (Int.natAbs_neg b).symm
  show ∃ z, ((Datum.number _ _ _).sum (.number (!t) (b.natAbs * 2 ^ l) _)).map _ = _ ∧ _
  rw [hn]
  have e : a - b = a + -b := Int.sub_eq_add_neg
  rw [e]
  refine sum_N hs (fun h0 => ?_) (by rw [← e]; exact h)
  rw [ht (by omega)]
  by_cases h1 : b < 0
  · rw [decide_eq_true h1, decide_eq_false (show ¬ -b < 0 by omega)]
    rfl
  · rw [decide_eq_false h1, decide_eq_true (show -b < 0 by omega)]
    rfl

theorem mul_N {x y : Nat} {a b : Int} (hx : N x a) (hy : N y b) (h : (a * b).natAbs < 2 ^ 53) : ∃ z, double.mul x y = some z ∧ N z (a * b) := by
  obtain ⟨s, k, hk, hs⟩ := hx.read
  obtain ⟨t, l, hl, ht⟩ := hy.read
  unfold Format.mul
  rw [hk, hl]
  simp only [Datum.product, Option.map_some]
  refine ⟨_, rfl, ?_⟩
  have e1 : a.natAbs * 2 ^ k * (b.natAbs * 2 ^ l) = (a * b).natAbs * 2 ^ (k + l) := by
    rw [Int.natAbs_mul, Nat.pow_add]
    simp only [Nat.mul_assoc, Nat.mul_left_comm]
  have e2 : -(k : Int) + -(l : Int) = -((k + l : Nat) : Int) := by omega
  rw [e1, e2]
  refine write_N h fun hz => ?_
  have hane : a ≠ 0 := fun e => hz (by rw [e, Int.zero_mul])
  have hbne : b ≠ 0 := fun e => hz (by rw [e, Int.mul_zero])
  rw [hs hane, ht hbne]
  by_cases h1 : a < 0
  · by_cases h2 : b < 0
    · have : 0 < a * b := Int.mul_pos_of_neg_of_neg h1 h2
      rw [decide_eq_true h1, decide_eq_true h2, decide_eq_false (by omega)]
      rfl
    · have : a * b < 0 := Int.mul_neg_of_neg_of_pos h1 (by omega)
      rw [decide_eq_true h1, decide_eq_false h2, decide_eq_true this]
      rfl
  · by_cases h2 : b < 0
    · have : a * b < 0 := Int.mul_neg_of_pos_of_neg (by omega) h2
      rw [decide_eq_false h1, decide_eq_true h2, decide_eq_true this]
      rfl
    · have : 0 < a * b := Int.mul_pos (by omega) (by omega)
      rw [decide_eq_false h1, decide_eq_false h2, decide_eq_false (by omega)]
      rfl

theorem order_N {x y : Nat} {a b : Int} (hx : N x a) (hy : N y b) : double.order x y = some (compare a b) := by
  obtain ⟨s, k, hk, hs⟩ := hx.read
  obtain ⟨t, l, hl, ht⟩ := hy.read
  unfold Format.order
  rw [hk, hl]
  obtain ⟨m, hm⟩ : ∃ m : Nat, min (-(k : Int)) (-(l : Int)) = -(m : Int) := ⟨max k l, by omega⟩
  simp only [Datum.order, hm]
  have e1 : (-(k : Int) - -(m : Int)).toNat = m - k := by omega
  have e2 : (-(l : Int) - -(m : Int)).toNat = m - l := by omega
  rw [e1, e2, sg_at a s k _ hs, sg_at b t l _ ht, show k + (m - k) = m by omega, show l + (m - l) = m by omega]
  have hp : 0 < ((2 ^ m : Nat) : Int) := by
    have := Nat.two_pow_pos m
    omega
  congr 1
  simp only [compare, compareOfLessAndEq]
  have h1 : (a * ((2 ^ m : Nat) : Int) < b * ((2 ^ m : Nat) : Int)) = (a < b) := propext ⟨fun h => Int.lt_of_mul_lt_mul_right h (Int.le_of_lt hp), fun h => Int.mul_lt_mul_of_pos_right h hp⟩
  have h2 : (a * ((2 ^ m : Nat) : Int) = b * ((2 ^ m : Nat) : Int)) = (a = b) := propext ⟨fun h => Int.eq_of_mul_eq_mul_right (Int.ne_of_gt hp) h, fun h => by rw [h]⟩
  simp only [h1, h2]

theorem toInt_N {x : Nat} {n : Int} (h : N x n) : (double.read x).toInt .zero = some n := by
  obtain ⟨hn, rfl | ⟨rfl, rfl⟩⟩ := h
  · exact toInt_F hn
  · rfl
theorem N.at {x : Nat} {a b : Int} (h : N x a) (e : a = b) : N x b := e ▸ h
theorem N.lt {x : Nat} {a : Int} (h : N x a) : a.natAbs < 9007199254740992 := h.1
end Go.Fp

/- Lt: floats of package math, and cells of package lattice, told as contracts over whole numbers. Conditions: those of each theorem, on its arguments. -/
namespace Go.Proofs.YtamobmjfdiecbaaDoor
open Go Go.Sx Go.Fp

theorem asC_i {k : FloatKind} {v : Value} {x y : Nat} {K : Nat → Nat → Prop} (e : v = .complex k x y) (h : K x y) : asC k v K := ⟨x, y, e, h⟩
def mag (x : Int) : Int := if x < 0 then -x else x
theorem nearest_F (n : Int) : FloatKind.nearest .f64 n = F n := rfl

theorem so_add {x y : Nat} {a b : Int} {K : Nat → Prop} (hx : N x a) (hy : N y b) (h : (a + b).natAbs < 2 ^ 53) (hK : ∀ z, N z (a + b) → K z) : so ((FloatKind.format .f64).add x y) K := by
  obtain ⟨z, hz, hn⟩ := add_N hx hy h
  exact so_i hz (hK z hn)
theorem so_sub {x y : Nat} {a b : Int} {K : Nat → Prop} (hx : N x a) (hy : N y b) (h : (a - b).natAbs < 2 ^ 53) (hK : ∀ z, N z (a - b) → K z) : so ((FloatKind.format .f64).sub x y) K := by
  obtain ⟨z, hz, hn⟩ := sub_N hx hy h
  exact so_i hz (hK z hn)
theorem so_mul {x y : Nat} {a b : Int} {K : Nat → Prop} (hx : N x a) (hy : N y b) (h : (a * b).natAbs < 2 ^ 53) (hK : ∀ z, N z (a * b) → K z) : so ((FloatKind.format .f64).mul x y) K := by
  obtain ⟨z, hz, hn⟩ := mul_N hx hy h
  exact so_i hz (hK z hn)

theorem N_zero : N 0 0 := N_lit (by decide) (by decide)
theorem N_one : N 4607182418800017408 1 := N_lit (by decide) (by decide)
theorem N_mone : N 13830554455654793216 (-1) := N_lit (by decide) (by decide)

theorem ord_eq {x y : Nat} {a b : Int} (hx : N x a) (hy : N y b) : ((FloatKind.format .f64).order x y == some .eq) = decide (a = b) := by
  have : (FloatKind.format .f64).order x y = some (compare a b) := order_N hx hy
  rw [this]
  simp only [compare, compareOfLessAndEq]
  split
  · have : a ≠ b := by omega
    simp [this]
  · split <;> simp_all
theorem ord_lt {x y : Nat} {a b : Int} (hx : N x a) (hy : N y b) : ((FloatKind.format .f64).order x y == some .lt) = decide (a < b) := by
  have : (FloatKind.format .f64).order x y = some (compare a b) := order_N hx hy
  rw [this]
  simp only [compare, compareOfLessAndEq]
  split
  · simp_all
  · split <;> simp_all
theorem ord_gt {x y : Nat} {a b : Int} (hx : N x a) (hy : N y b) : ((FloatKind.format .f64).order x y == some .gt) = decide (b < a) := by
  have : (FloatKind.format .f64).order x y = some (compare a b) := order_N hx hy
  rw [this]
  simp only [compare, compareOfLessAndEq]
  split
  · have : ¬ b < a := by omega
    simp [this]
  · split
    · have : ¬ b < a := by omega
      simp [this]
    · have : b < a := by omega
      simp [this]

/-! ### what the model itself has -/
theorem bits_k {x : Nat} {w : World} {K : Value → World → Prop} (hK : K (.int .u64 (x : Int)) w) : xt Tryd.prog 84 #[.float .f64 x] w K :=
  ⟨_, w, by rw [run_callFunc_extern Tryd.func84 (by kernel_rfl) (by kernel_rfl) (by kernel_rfl) (e := Extern.MathFloatBits.float64bits) (by kernel_rfl)]; rfl, hK⟩
theorem frombits_k {x : Nat} {w : World} {K : Value → World → Prop} (hK : K (.float .f64 x) w) : xt Tryd.prog 83 #[.int .u64 (x : Int)] w K :=
  ⟨_, w, by rw [run_callFunc_extern Tryd.func83 (by kernel_rfl) (by kernel_rfl) (by kernel_rfl) (e := Extern.MathFloatBits.float64frombits) (by kernel_rfl)]; rfl, hK⟩
theorem archTrunc_k {x : Nat} {s : Bool} {m : Nat} {i : Int} (hd : FloatKind.f64.decode x = .number s m i) {w : World} {K : Value → World → Prop} (hK : K (.float .f64 (FloatKind.f64.encode ((Ieee.Datum.number s m i).integral .zero))) w) : xt Tryd.prog 85 #[.float .f64 x] w K := by
  refine ⟨_, w, ?_, hK⟩
  rw [run_callFunc_extern Tryd.func85 (by kernel_rfl) (by kernel_rfl) (by kernel_rfl) (e := Extern.MathFloor.toIntegral "math.archTrunc" .zero) (by kernel_rfl)]
  have e : Extern.MathFloor.toIntegral "math.archTrunc" .zero #[.float .f64 x] = (match FloatKind.f64.decode x with
    | .nan s t =>
      if FloatKind.f64.format.quiet t = t then pure (.float .f64 x) else do
      let kept ← choose (.extern "math.Floor,Ceil,Trunc,RoundToEven.signallingNaN kept" 2)
      pure (.float .f64 (if kept == 1 then x else FloatKind.f64.encode (.nan s (FloatKind.f64.format.quiet t))))
    | d => pure (.float .f64 (FloatKind.f64.encode (d.integral .zero)))) := rfl
  rw [e, hd]
  rfl

theorem wrapU64 {n : Int} (h : 0 ≤ n) (h' : n < 18446744073709551616) : IntKind.wrap .u64 n = n := by
  have : IntKind.wrap .u64 n = n % 18446744073709551616 := by simp [IntKind.wrap, IntKind.bits, IntKind.signed]
  rw [this]; omega

theorem andNot_top {x : Nat} (h : x < 18446744073709551616) : Go.bits .andNot .u64 (x : Int) 9223372036854775808 = ((x % 9223372036854775808 : Nat) : Int) := by
  have e2 : (~~~ (BitVec.ofInt IntKind.u64.bits (9223372036854775808 : Int))).toNat = 2 ^ 63 - 1 := by decide
  have hx : x < 2 ^ IntKind.u64.bits := by simpa [IntKind.bits] using h
  simp only [Go.bits, BitVec.toNat_and, ofInt_nat _ _ hx, e2, and_mask]
  have : x % 2 ^ 63 < 2 ^ 63 := Nat.mod_lt _ (by decide)
  exact wrapU64 (by omega) (by omega)

theorem abs_k {x : Nat} (hx : x < 18446744073709551616) {w : World} {K : Value → World → Prop} (hK : K (.float .f64 (x % 9223372036854775808)) w) : cl Tryd.prog 70 #[.float .f64 x] w K := by
  apply F70_calls
  unfold F70
  refine bits_k (asI_i rfl ?_)
  rw [andNot_top hx]
  exact frombits_k (asF_i rfl hK)

theorem N_word {x : Nat} {n : Int} (h : N x n) : x < 18446744073709551616 ∧ N (x % 9223372036854775808) (mag n) := by
  have hn := h.1
  have hm : (mag n).natAbs < 2 ^ 53 := by unfold mag; split <;> omega
  obtain ⟨_, rfl | ⟨rfl, rfl⟩⟩ := h
  · by_cases h0 : n = 0
    · subst h0
      rw [F_zero]
      exact ⟨by decide, N_zero⟩
    · have ha : (mag n).natAbs = n.natAbs := by unfold mag; split <;> omega
      have hmz : mag n ≠ 0 := by unfold mag; split <;> omega
      have hpos : ¬ mag n < 0 := by unfold mag; split <;> omega
      have e1 := F_eq h0 hn
      have e2 := F_eq hmz hm
      rw [ha, decide_eq_false hpos] at e2
      have kb := kept_bound (m := n.natAbs) (by omega) hn
      have hl := log_le (m := n.natAbs) (by omega) hn
      generalize n.natAbs * 2 ^ (52 - n.natAbs.log2) = q at *
      have e52 : (2 : Nat) ^ 52 = 4503599627370496 := by decide
      have e53 : (2 : Nat) ^ 53 = 9007199254740992 := by decide
      have hr : (n.natAbs.log2 + 1022) * 2 ^ 52 + q < 9223372036854775808 := by omega
      generalize (n.natAbs.log2 + 1022) * 2 ^ 52 + q = r at *
      have hs : Ieee.double.signWeight = 9223372036854775808 := rfl
      have hw : F n = r ∨ F n = 9223372036854775808 + r := by
        rw [e1]
        unfold Ieee.Format.word
        rw [hs]
        split
        · exact .inr rfl
        · exact .inl rfl
      have hw2 : F (mag n) = r := by
        rw [e2]
        rfl
      refine ⟨by omega, hm, .inl ?_⟩
      rw [hw2]
      omega
  · exact ⟨by decide, N_zero⟩

theorem absN_k {x : Nat} {n : Int} (hx : N x n) {w : World} {K : Value → World → Prop} (hK : ∀ z, N z (mag n) → K (.float .f64 z) w) : cl Tryd.prog 70 #[.float .f64 x] w K :=
  abs_k (N_word hx).1 (hK _ (N_word hx).2)

theorem trunc_N {s : Bool} {n : Int} {k : Nat} (h : n.natAbs < 2 ^ 53) (hs : n ≠ 0 → s = decide (n < 0)) : N (FloatKind.f64.encode ((Ieee.Datum.number s (n.natAbs * 2 ^ k) (-(k : Int))).integral .zero)) n := by
  have hc : Ieee.Toward.zero.cut s ((n.natAbs * 2 ^ k) <<< (-(k : Int)).toNat) (-(-(k : Int))).toNat = n.natAbs := by
    have e1 : (-(k : Int)).toNat = 0 := by omega
    have e2 : (-(-(k : Int))).toNat = k := by omega
    rw [e1, e2, Nat.shiftLeft_eq, Nat.pow_zero, Nat.mul_one]
    unfold Ieee.Toward.cut
    by_cases h0 : n.natAbs = 0
    · have : n.natAbs * 2 ^ k = 0 := by rw [h0, Nat.zero_mul]
      rw [this, h0]
      simp
    · have hm : min k ((n.natAbs * 2 ^ k).log2 + 2) = k := Nat.min_eq_left (by rw [log_mul h0]; omega)
      have hg : 1 <<< min k ((n.natAbs * 2 ^ k).log2 + 2) = 2 ^ k := by rw [hm, Nat.shiftLeft_eq, Nat.one_mul]
      simp only [hg, Nat.mul_div_cancel _ (Nat.two_pow_pos k)]
      simp
  unfold Ieee.Datum.integral
  simp only [hc]
  have := write_N (n := n) (k := 0) (s := s) h hs
  rw [Nat.pow_zero, Nat.mul_one] at this
  exact this

theorem truncN_k {x : Nat} {n : Int} (hx : N x n) {w : World} {K : Value → World → Prop} (hK : ∀ z, N z n → K (.float .f64 z) w) : cl Tryd.prog 71 #[.float .f64 x] w K := by
  apply F71_calls
  unfold F71
  obtain ⟨s, k, hk, hs⟩ := hx.read
  exact archTrunc_k hk (asF_i rfl (hK _ (trunc_N hx.1 hs)))

theorem wholeN_k {x : Nat} {n : Int} (hx : N x n) {w : World} {K : Value → World → Prop} (hK : K (.bool (decide (mag n ≤ 1048576))) w) : cl Tryd.prog 66 #[.float .f64 x] w K := by
  apply F66_calls
  unfold F66
  refine jn_mk (absN_k hx ?_)
  intro z hz
  refine asF_i rfl ?_
  have hM : N 4697254411347427328 1048576 := N_lit (by decide) (by decide)
  rw [ord_lt hz hM, ord_eq hz hM]
  refine cond_split (fun h => truncN_k hx ?_) (fun h => asB_i rfl ?_)
  · intro y hy
    refine asF_i rfl (asB_i rfl ?_)
    rw [ord_eq hx hy]
    have : mag n ≤ 1048576 := by
      simp only [Bool.or_eq_true, decide_eq_true_eq] at h
      omega
    rw [decide_eq_true this] at hK
    simpa using hK
  · have : ¬ mag n ≤ 1048576 := by
      simp only [Bool.or_eq_false_iff, decide_eq_false_iff_not] at h
      omega
    rw [decide_eq_false this] at hK
    exact hK

theorem whole15_k {w : World} {K : Value → World → Prop} (hK : K (.bool false) w) : cl Tryd.prog 66 #[.float .f64 4609434218613702656] w K := by
  apply F66_calls
  unfold F66
  refine jn_mk (abs_k (by decide) (asF_i rfl (cond_t (by decide) ?_)))
  apply F71_calls
  unfold F71
  refine archTrunc_k (s := false) (m := 6755399441055744) (i := -52) (by decide) (asF_i rfl (asF_i rfl (asB_i rfl ?_)))
  have : ((FloatKind.format .f64).order 4609434218613702656 (FloatKind.f64.encode ((Ieee.Datum.number false 6755399441055744 (-52)).integral .zero)) == some .eq) = false := by decide
  rw [this]
  exact hK

def isCell (a b : Int) : Bool := decide (mag a ≤ 1048576) && decide (mag b ≤ 1048576)

theorem cell_k {x y : Nat} {a b : Int} (hx : N x a) (hy : N y b) {w : World} {K : Value → World → Prop} (hK : K (.bool (isCell a b)) w) : cl Tryd.prog 59 #[.complex .f64 x y] w K := by
  apply F59_calls
  unfold F59
  refine jn_mk (wholeN_k hx (asB_i rfl (cond_split (fun h => wholeN_k hy (asB_i rfl (asB_i rfl ?_))) (fun h => asB_i rfl ?_))))
  · simpa [isCell, h] using hK
  · simpa [isCell, h] using hK

end Go.Proofs.YtamobmjfdiecbaaDoor

/- Fb: floats of 64 bits that come of great whole numbers are great. Conditions: their size. -/
namespace Go.Fp
open Ieee

theorem cut_bound (s : Bool) (a d : Nat) (hd : d ≤ a.log2 + 2) : a / 2 ^ d ≤ Toward.even.cut s a d ∧ Toward.even.cut s a d ≤ a / 2 ^ d + 1 := by
  unfold Toward.cut
  have hm : min d (a.log2 + 2) = d := Nat.min_eq_left hd
  have hg : 1 <<< min d (a.log2 + 2) = 2 ^ d := by rw [hm, Nat.shiftLeft_eq, Nat.one_mul]
  simp only [hg]
  have hb : ∀ b : Bool, b.toNat ≤ 1 := by intro b; cases b <;> decide
  exact ⟨Nat.le_add_right _ _, Nat.add_le_add_left (hb _) _⟩

theorem big_F {q : Int} (h1 : 9007199254740992 ≤ q.natAbs) (h2 : q.natAbs < 18446744073709551616) :
    ∃ r mag, ∃ place : Nat, F q = double.word (decide (q < 0)) r ∧ r < 9223372036854775808 ∧ double.read r = .number false mag (place : Int) ∧ 4503599627370496 ≤ mag ∧ 1 ≤ place := by
  have hm0 : q.natAbs ≠ 0 := by omega
  generalize hs : decide (q < 0) = s
  generalize hm : q.natAbs = m at *
  have hL1 : 53 ≤ m.log2 := (Nat.le_log2 hm0).2 h1
  have hL2 : m.log2 < 64 := (Nat.log2_lt hm0).2 h2
  obtain ⟨b1, b2⟩ := log_bound hm0
  have e1 : F q = double.nearest s m 0 := by
    unfold F
    rw [hs, hm]
    rfl
  have hlast : max ((0 : Int) + (m.log2 : Int) - (double.fractionBits : Int)) double.leastPlace = (m.log2 : Int) - 52 := by
    simp only [double, Format.leastPlace]
    omega
  have hk := cut_bound s m (m.log2 - 52) (by omega)
  have hlow : 4503599627370496 ≤ m / 2 ^ (m.log2 - 52) := by
    rw [Nat.le_div_iff_mul_le (Nat.two_pow_pos _)]
    have : 4503599627370496 * 2 ^ (m.log2 - 52) = 2 ^ m.log2 := by
      have : (4503599627370496 : Nat) = 2 ^ 52 := by decide
      rw [this, ← Nat.pow_add]
      congr 1; omega
    rw [this]
    exact b1
  have hhigh : m / 2 ^ (m.log2 - 52) < 9007199254740992 := by
    rw [Nat.div_lt_iff_lt_mul (Nat.two_pow_pos _)]
    have : 9007199254740992 * 2 ^ (m.log2 - 52) = 2 ^ (m.log2 + 1) := by
      have : (9007199254740992 : Nat) = 2 ^ 53 := by decide
      rw [this, ← Nat.pow_add]
      congr 1; omega
    rw [this]
    exact b2
  generalize hkk : Toward.even.cut s m (m.log2 - 52) = kept at hk
  have hnear : double.nearest s m 0 = double.word s ((m.log2 + 1022) * 4503599627370496 + kept) := by
    unfold Format.nearest
    rw [if_neg hm0]
    simp only [hlast]
    have e2 : ((0 : Int) - ((m.log2 : Int) - 52)).toNat = 0 := by omega
    have e3 : ((m.log2 : Int) - 52 - 0).toNat = m.log2 - 52 := by omega
    have e4 : m <<< 0 = m := by simp
    rw [e2, e3, e4, hkk]
    have hplace : ((m.log2 : Int) - 52 - double.leastPlace).toNat = m.log2 + 1022 := by
      simp only [double, Format.leastPlace]
      omega
    rw [hplace]
    have hmin : min ((m.log2 + 1022) * double.binade + kept) double.infRung = (m.log2 + 1022) * 4503599627370496 + kept := by
      have hb : double.binade = 4503599627370496 := rfl
      have hi : double.infRung = 9218868437227405312 := rfl
      rw [hb, hi]
      exact Nat.min_eq_left (by omega)
    rw [hmin]
  refine ⟨(m.log2 + 1022) * 4503599627370496 + kept, 4503599627370496 + ((m.log2 + 1022) * 4503599627370496 + kept) % 4503599627370496, ((m.log2 + 1022) * 4503599627370496 + kept) / 4503599627370496 - 1 - 1074, by rw [e1, hnear], by omega, ?_, by omega, by omega⟩
  unfold Format.read
  have hb : double.binade = 4503599627370496 := rfl
  have hi : double.infRung = 2047 * 4503599627370496 := rfl
  have hp : double.leastPlace = -1074 := rfl
  have hw : double.signWeight = 9223372036854775808 := rfl
  simp only [hb, hi, hp, hw]
  have hr : (m.log2 + 1022) * 4503599627370496 + kept < 9223372036854775808 := by omega
  rw [Nat.mod_eq_of_lt hr, Nat.div_eq_of_lt hr, if_neg (by omega), if_pos (by omega)]
  congr 1
  omega

theorem big_order {r mag place : Nat} (hr : double.read r = .number false mag (place : Int)) (h1 : 4503599627370496 ≤ mag) : double.order r 4697254411347427328 = some .gt := by
  have hM : double.read 4697254411347427328 = .number false 4503599627370496 (-32) := rfl
  unfold Format.order
  rw [hr, hM]
  show some (compare (signed false mag ((place : Int) - min (place : Int) (-32)).toNat) (signed false 4503599627370496 ((-32 : Int) - min (place : Int) (-32)).toNat)) = _
  have e1 : min (place : Int) (-32) = -32 := by omega
  rw [e1]
  have e2 : ((place : Int) - -32).toNat = place + 32 := by omega
  have e3 : ((-32 : Int) - -32).toNat = 0 := rfl
  rw [e2, e3]
  have s1 : signed false mag (place + 32) = ((mag * 2 ^ (place + 32) : Nat) : Int) := by
    unfold signed
    rw [if_neg (by decide), Nat.shiftLeft_eq]
  have s2 : signed false 4503599627370496 0 = ((4503599627370496 : Nat) : Int) := by
    unfold signed
    rw [if_neg (by decide), Nat.shiftLeft_eq, Nat.pow_zero, Nat.mul_one]
  rw [s1, s2]
  have hp : 4294967296 ≤ 2 ^ (place + 32) := by
    have : 2 ^ 32 ≤ 2 ^ (place + 32) := Nat.pow_le_pow_right (by decide) (by omega)
    have e : (2 : Nat) ^ 32 = 4294967296 := by decide
    omega
  have h2 : mag * 4294967296 ≤ mag * 2 ^ (place + 32) := Nat.mul_le_mul_left _ hp
  generalize mag * 2 ^ (place + 32) = x at *
  have hc : compare (x : Int) ((4503599627370496 : Nat) : Int) = .gt := by
    simp only [compare, compareOfLessAndEq]
    rw [if_neg (by omega), if_neg (by omega)]
  rw [hc]
end Go.Fp

/- GrC: in which cells points lie, and which boxes touch: what package grid tells, as contracts over whole numbers. Conditions: those of each theorem, on its arguments. -/
namespace Go.Proofs.YtamobmjfdiecbaaDoor
open Go Go.Sx Go.Fp
attribute [local irreducible] jn lv ld st nw asI asB asP asS asY asM asF asA asT lp rn ru rq cl dw dr bnd bn2 nz nn hd hr so eqW

/-- Go's quotient, and the one that is rounded down -/
theorem floor_div {n s : Int} (hs : 1 ≤ s) : n / s = if n.tmod s < 0 then n.tdiv s - 1 else n.tdiv s := by
  have h1 := Int.mul_tdiv_add_tmod n s
  have h2 : n.tmod s < s := Int.tmod_lt_of_pos n (by omega)
  have h3 : -s < n.tmod s := Int.lt_tmod_of_pos n (by omega)
  have h4 := Int.mul_ediv_add_emod n s
  have h5 := Int.emod_nonneg n (show s ≠ 0 by omega)
  have h6 := Int.emod_lt_of_pos n (show 0 < s by omega)
  generalize n.tdiv s = t at *
  generalize n / s = d at *
  generalize n.tmod s = m at *
  generalize n % s = r at *
  have hd : s * (d - t) = m - r := by rw [Int.mul_sub]; omega
  split
  · rcases Int.lt_or_le (d - t) (-1) with h | h
    · have : s * (d - t) ≤ s * -2 := Int.mul_le_mul_of_nonneg_left (by omega) (by omega)
      omega
    · rcases Int.lt_or_le (d - t) 0 with h' | h'
      · omega
      · have : s * 0 ≤ s * (d - t) := Int.mul_le_mul_of_nonneg_left (by omega) (by omega)
        omega
  · rcases Int.lt_or_le (d - t) 0 with h | h
    · have : s * (d - t) ≤ s * -1 := Int.mul_le_mul_of_nonneg_left (by omega) (by omega)
      omega
    · rcases Int.lt_or_le 0 (d - t) with h' | h'
      · have : s * 1 ≤ s * (d - t) := Int.mul_le_mul_of_nonneg_left (by omega) (by omega)
        omega
      · omega

theorem div_bound {n s : Int} (hs : 1 ≤ s) : (0 ≤ n → 0 ≤ n / s ∧ n / s ≤ n) ∧ (n < 0 → n ≤ n / s ∧ n / s < 0) := by
  have h4 := Int.mul_ediv_add_emod n s
  have h5 := Int.emod_nonneg n (show s ≠ 0 by omega)
  have h6 := Int.emod_lt_of_pos n (show 0 < s by omega)
  generalize n / s = d at *
  generalize n % s = r at *
  constructor
  · intro hn
    have h0 : 0 ≤ d := by
      rcases Int.lt_or_le d 0 with h | h
      · have : s * d ≤ s * -1 := Int.mul_le_mul_of_nonneg_left (by omega) (by omega)
        omega
      · exact h
    have : 1 * d ≤ s * d := Int.mul_le_mul_of_nonneg_right hs h0
    omega
  · intro hn
    have h0 : d < 0 := by
      rcases Int.lt_or_le d 0 with h | h
      · exact h
      · have : s * 0 ≤ s * d := Int.mul_le_mul_of_nonneg_left (by omega) (by omega)
        omega
    have h7 : s * (d + 1) ≤ 1 * (d + 1) := by
      have : (s - 1) * (d + 1) ≤ 0 := Int.mul_nonpos_of_nonneg_of_nonpos (by omega) (by omega)
      have e : (s - 1) * (d + 1) = s * (d + 1) - 1 * (d + 1) := Int.sub_mul _ _ _
      omega
    rw [Int.mul_add] at h7
    omega

theorem floor_k {n s : Int} (hn : -9223372036854775808 ≤ n ∧ n ≤ 9223372036854775807) (hs : 1 ≤ s) {w : World} {K : Value → World → Prop} (hK : K (.float .f64 (F (n / s))) w) : cl Tryd.prog 65 #[.int .i64 n, .int .i64 s] w K := by
  have hb := div_bound (n := n) hs
  have hf := floor_div (n := n) hs
  have hsg : 0 ≤ n → 0 ≤ n.tmod s := fun h => Int.tmod_nonneg s h
  have ht : -9223372036854775808 ≤ n.tdiv s ∧ n.tdiv s ≤ 9223372036854775807 ∧ (n.tmod s < 0 → -9223372036854775807 ≤ n.tdiv s) := by
    split at hf
    · omega
    · omega
  apply F65_calls
  unfold F65
  refine nz_mk (by omega) (lv_i (jn_mk (nz_mk (by omega) ?_)))
  rw [wr64 (n := n.tdiv s) (by omega) (by omega)]
  refine cond_split (fun h => ?_) (fun h => ?_)
  · have h' : n.tmod s < 0 := of_decide_eq_true h
    rw [if_pos h'] at hf
    have := ht.2.2 h'
    rw [wr64 (by omega) (by omega), ← hf]
    exact lv_i (asI_i rfl hK)
  · have h' : ¬ n.tmod s < 0 := of_decide_eq_false h
    rw [if_neg h'] at hf
    rw [← hf]
    exact asI_i rfl hK

theorem gcell_k {s x y : Int} (hx : -9223372036854775808 ≤ x ∧ x ≤ 9223372036854775807) (hy : -9223372036854775808 ≤ y ∧ y ≤ 9223372036854775807) (hs : 1 ≤ s) {w : World} {K : Value → World → Prop}
    (hK : K (.complex .f64 (F (x / s)) (F (y / s))) w) : cl Tryd.prog 58 #[.int .i64 s, .int .i64 x, .int .i64 y] w K := by
  apply F58_calls
  unfold F58
  exact floor_k hx hs (asF_i rfl (floor_k hy hs (asF_i rfl hK)))

theorem wholeF_k {q : Int} (hq : q.natAbs < 18446744073709551616) {w : World} {K : Value → World → Prop} (hK : K (.bool (decide (mag q ≤ 1048576))) w) : cl Tryd.prog 66 #[.float .f64 (F q)] w K := by
  by_cases hb : q.natAbs < 2 ^ 53
  · exact wholeN_k (N_F hb) hK
  · have hb' : 9007199254740992 ≤ q.natAbs := by
      have : (2 : Nat) ^ 53 = 9007199254740992 := by decide
      omega
    obtain ⟨r, m, place, h1, h2, h3, h4, h5⟩ := big_F hb' hq
    have hF : F q = r ∨ F q = 9223372036854775808 + r := by
      rw [h1]
      unfold Ieee.Format.word
      have hs : Ieee.double.signWeight = 9223372036854775808 := rfl
      rw [hs]
      split
      · exact .inr rfl
      · exact .inl rfl
    have hw : F q < 18446744073709551616 ∧ F q % 9223372036854775808 = r := by omega
    have hno : ¬ mag q ≤ 1048576 := by
      unfold mag
      split <;> omega
    rw [decide_eq_false hno] at hK
    apply F66_calls
    unfold F66
    refine jn_mk (abs_k hw.1 (asF_i rfl ?_))
    rw [hw.2]
    have ho : (FloatKind.format .f64).order r 4697254411347427328 = some .gt := big_order h3 h4
    rw [ho]
    exact cond_f rfl (asB_i rfl hK)

theorem cellF_k {a b : Int} (ha : a.natAbs < 18446744073709551616) (hb : b.natAbs < 18446744073709551616) {w : World} {K : Value → World → Prop} (hK : K (.bool (isCell a b)) w) : cl Tryd.prog 59 #[.complex .f64 (F a) (F b)] w K := by
  apply F59_calls
  unfold F59
  refine jn_mk (wholeF_k ha (asB_i rfl (cond_split (fun h => wholeF_k hb (asB_i rfl (asB_i rfl ?_))) (fun h => asB_i rfl ?_))))
  · simpa [isCell, h] using hK
  · simpa [isCell, h] using hK

theorem isCell_iff {a b : Int} : isCell a b = true ↔ (-1048576 ≤ a ∧ a ≤ 1048576) ∧ (-1048576 ≤ b ∧ b ≤ 1048576) := by
  unfold isCell mag
  simp only [Bool.and_eq_true, decide_eq_true_eq]
  split <;> split <;> omega

def sideOk (s : Int) : Bool := decide (1 ≤ s) && decide (s ≤ 1099511627776)
theorem side_k {s : Int} {w : World} {K : Value → World → Prop} (hK : K (.bool (sideOk s)) w) : cl Tryd.prog 51 #[.int .i64 s] w K := by
  apply F51_calls
  unfold F51
  refine jn_mk (cond_split (fun h => asB_i rfl ?_) (fun h => asB_i rfl ?_))
  · simpa [sideOk, h] using hK
  · simpa [sideOk, h] using hK

/-- the cells of a row, and of rows, told by their numbers -/
def rowC (x y : Int) (n : Nat) : List (Int × Int) := (List.range n).map fun (i : Nat) => (x + (i : Int), y)
def rowsC (x y : Int) (wide tall : Nat) : List (Int × Int) := (List.range tall).flatMap fun (j : Nat) => rowC x (y + (j : Int)) wide
theorem rowC_length (x y : Int) (n : Nat) : (rowC x y n).length = n := by simp [rowC]
theorem rowC_succ (x y : Int) (n : Nat) : rowC x y (n + 1) = rowC x y n ++ [(x + (n : Int), y)] := by simp [rowC, List.range_succ]
theorem rowsC_succ (x y : Int) (n t : Nat) : rowsC x y n (t + 1) = rowsC x y n t ++ rowC x (y + (t : Int)) n := by simp [rowsC, List.range_succ]
theorem rowsC_length (x y : Int) (n : Nat) : ∀ t, (rowsC x y n t).length = t * n
  | 0 => by simp [rowsC]
  | t + 1 => by rw [rowsC_succ, List.length_append, rowsC_length x y n t, rowC_length, Nat.add_mul, Nat.one_mul]
structure Span where
  lx : Int
  ly : Int
  hx : Int
  hy : Int
def spanOf (s : Int) (b : Bx) : Span := ⟨(b.x - b.r) / s, (b.y - b.r) / s, (b.x + b.r - 1) / s, (b.y + b.r - 1) / s⟩
def Span.ok (p : Span) : Bool := isCell p.lx p.ly && isCell p.hx p.hy
def Span.wide (p : Span) : Int := p.hx - p.lx + 1
def Span.tall (p : Span) : Int := p.hy - p.ly + 1
def cellsE (s : Int) (b : Bx) : Int :=
  if sideOk s = true then if b.right = true then if (spanOf s b).ok = true then if (spanOf s b).wide * (spanOf s b).tall > 1024 then 2 else 0 else 40 else 60 else 1
def cellsL' (s : Int) (b : Bx) : List (Int × Int) := if cellsE s b = 0 then rowsC (spanOf s b).lx (spanOf s b).ly (spanOf s b).wide.toNat (spanOf s b).tall.toNat else []
def cv (p : Int × Int) : Value := .complex .f64 (F p.1) (F p.2)

set_option maxRecDepth 100000 in
theorem sC : SlT Tryd.prog 99 107 (.complex .f64 0 0) 16 := ⟨rfl, ⟨_, rfl, rfl, rfl, rfl⟩, rfl⟩

theorem span_le {s : Int} {b : Bx} (hs : 1 ≤ s) (hb : b.right = true) : (spanOf s b).lx ≤ (spanOf s b).hx ∧ (spanOf s b).ly ≤ (spanOf s b).hy := by
  have h := right_iff.1 hb
  unfold spanOf
  exact ⟨Int.ediv_le_ediv (by omega) (by omega), Int.ediv_le_ediv (by omega) (by omega)⟩

theorem F_add {a b : Int} {K : Nat → Prop} (ha : a.natAbs < 2 ^ 52) (hb : b.natAbs < 2 ^ 52) (hK : K (F (a + b))) : so ((FloatKind.format .f64).add (F a) (F b)) K :=
  so_i (add_F (by omega) (by omega) (by omega)) hK
theorem F_sub {a b : Int} {K : Nat → Prop} (ha : a.natAbs < 2 ^ 52) (hb : b.natAbs < 2 ^ 52) (hK : K (F (a - b))) : so ((FloatKind.format .f64).sub (F a) (F b)) K :=
  so_i (sub_F (by omega) (by omega) (by omega)) hK
theorem f2i_F {n : Int} (h : n.natAbs < 2 ^ 53) {K : Int → Prop} (hK : K n) : f2i .f64 (F n) .i64 K := by
  have e1 : IntKind.min .i64 = -9223372036854775808 := by decide
  have e2 : IntKind.max .i64 = 9223372036854775807 := by decide
  have e3 : (2 : Nat) ^ 53 = 9007199254740992 := by decide
  exact ⟨n, toInt_F h, by omega, by omega, hK⟩
theorem F_one : F 1 = 4607182418800017408 := by decide

theorem cells_k {s : Int} {b : Bx} {w : World} {K : Value → World → Prop}
    (hK : ∀ p c w', Ext no w w' → Row w' w.heap.size 107 p c ((cellsL' s b).map cv) → K (.tuple #[.slice p (cellsL' s b).length c, .int .i64 (cellsE s b)]) w') :
    cl Tryd.prog 46 #[.int .i64 s, b.v] w K := by
  have bad : ∀ e, cellsE s b = e → e ≠ 0 → ∀ w', Ext no w w' → K (.tuple #[.slice none 0 0, .int .i64 e]) w' := by
    intro e he h0 w' hx
    have hl : cellsL' s b = [] := by unfold cellsL'; rw [if_neg (by rw [he]; exact h0)]
    have := hK none 0 w' hx (by rw [hl]; exact Row.nil _ _ _)
    rw [hl, he] at this
    exact this
  apply F46_calls
  unfold F46
  have hS := St.start w
  repeat (first | (refine asI_i rfl ?_) | (refine asB_i rfl ?_) | (refine asP_i rfl ?_) | (refine asS_i rfl ?_) | (refine asY_i rfl ?_) | (refine asM_i rfl ?_) | (refine asA_i rfl rfl ?_) | (refine asT_i rfl rfl ?_) | (refine lv_i ?_) | (refine St.nw hS ?_; clear hS; intro _ _ hS) | (refine St.dw hS ?_; clear hS; intro _ hS _) | (refine hS.ld0 0 rfl rfl ?_) | (refine hS.ld 0 rfl rfl ?_) | (refine hS.ld0 1 rfl rfl ?_) | (refine hS.ld 1 rfl rfl ?_) | (refine hS.ld0 2 rfl rfl ?_) | (refine hS.ld 2 rfl rfl ?_) | (refine hS.ld0 3 rfl rfl ?_) | (refine hS.ld 3 rfl rfl ?_) | (refine hS.ld0 4 rfl rfl ?_) | (refine hS.ld 4 rfl rfl ?_) | (refine hS.ld0 5 rfl rfl ?_) | (refine hS.ld 5 rfl rfl ?_) | (refine hS.ld0 6 rfl rfl ?_) | (refine hS.ld 6 rfl rfl ?_) | (refine hS.ld0 7 rfl rfl ?_) | (refine hS.ld 7 rfl rfl ?_) | (refine hS.hd0 0 rfl rfl ?_) | (refine hS.hd 0 rfl rfl ?_) | (refine hS.hd0 1 rfl rfl ?_) | (refine hS.hd 1 rfl rfl ?_) | (refine hS.hd0 2 rfl rfl ?_) | (refine hS.hd 2 rfl rfl ?_) | (refine hS.hd0 3 rfl rfl ?_) | (refine hS.hd 3 rfl rfl ?_) | (refine hS.hd0 4 rfl rfl ?_) | (refine hS.hd 4 rfl rfl ?_) | (refine hS.hd0 5 rfl rfl ?_) | (refine hS.hd 5 rfl rfl ?_) | (refine hS.hd0 6 rfl rfl ?_) | (refine hS.hd 6 rfl rfl ?_) | (refine hS.hd0 7 rfl rfl ?_) | (refine hS.hd 7 rfl rfl ?_) | (refine hS.st0 0 rfl rfl rfl ?_; clear hS; intro _ hS) | (refine hS.st 0 rfl rfl rfl ?_; clear hS; intro _ hS) | (refine hS.st0 1 rfl rfl rfl ?_; clear hS; intro _ hS) | (refine hS.st 1 rfl rfl rfl ?_; clear hS; intro _ hS) | (refine hS.st0 2 rfl rfl rfl ?_; clear hS; intro _ hS) | (refine hS.st 2 rfl rfl rfl ?_; clear hS; intro _ hS) | (refine hS.st0 3 rfl rfl rfl ?_; clear hS; intro _ hS) | (refine hS.st 3 rfl rfl rfl ?_; clear hS; intro _ hS) | (refine hS.st0 4 rfl rfl rfl ?_; clear hS; intro _ hS) | (refine hS.st 4 rfl rfl rfl ?_; clear hS; intro _ hS) | (refine hS.st0 5 rfl rfl rfl ?_; clear hS; intro _ hS) | (refine hS.st 5 rfl rfl rfl ?_; clear hS; intro _ hS) | (refine hS.st0 6 rfl rfl rfl ?_; clear hS; intro _ hS) | (refine hS.st 6 rfl rfl rfl ?_; clear hS; intro _ hS) | (refine hS.st0 7 rfl rfl rfl ?_; clear hS; intro _ hS) | (refine hS.st 7 rfl rfl rfl ?_; clear hS; intro _ hS) | (refine bnd_mk (by decide) (by decide) ?_) | (refine so_i rfl ?_))
  refine side_k ?_
  repeat (first | (refine asI_i rfl ?_) | (refine asB_i rfl ?_) | (refine asP_i rfl ?_) | (refine asS_i rfl ?_) | (refine asY_i rfl ?_) | (refine asM_i rfl ?_) | (refine asA_i rfl rfl ?_) | (refine asT_i rfl rfl ?_) | (refine lv_i ?_))
  refine cond_split (fun h => ?_) (fun h => ?_)
  · refine lv_i (bad 1 ?_ (by decide) _ hS.ext)
    unfold cellsE
    rw [if_neg (by simpa using h)]
  have hs : sideOk s = true := by simpa using h
  have hs1 : 1 ≤ s ∧ s ≤ 1099511627776 := by simpa [sideOk] using hs
  repeat (first | (refine right_k (b := b) ?_; intro _ x; replace hS := hS.to x; clear x) | (refine asI_i rfl ?_) | (refine asB_i rfl ?_) | (refine asP_i rfl ?_) | (refine asS_i rfl ?_) | (refine asY_i rfl ?_) | (refine asM_i rfl ?_) | (refine asA_i rfl rfl ?_) | (refine asT_i rfl rfl ?_) | (refine lv_i ?_) | (refine St.nw hS ?_; clear hS; intro _ _ hS) | (refine St.dw hS ?_; clear hS; intro _ hS _) | (refine hS.ld0 0 rfl rfl ?_) | (refine hS.ld 0 rfl rfl ?_) | (refine hS.ld0 1 rfl rfl ?_) | (refine hS.ld 1 rfl rfl ?_) | (refine hS.ld0 2 rfl rfl ?_) | (refine hS.ld 2 rfl rfl ?_) | (refine hS.ld0 3 rfl rfl ?_) | (refine hS.ld 3 rfl rfl ?_) | (refine hS.ld0 4 rfl rfl ?_) | (refine hS.ld 4 rfl rfl ?_) | (refine hS.ld0 5 rfl rfl ?_) | (refine hS.ld 5 rfl rfl ?_) | (refine hS.ld0 6 rfl rfl ?_) | (refine hS.ld 6 rfl rfl ?_) | (refine hS.ld0 7 rfl rfl ?_) | (refine hS.ld 7 rfl rfl ?_) | (refine hS.hd0 0 rfl rfl ?_) | (refine hS.hd 0 rfl rfl ?_) | (refine hS.hd0 1 rfl rfl ?_) | (refine hS.hd 1 rfl rfl ?_) | (refine hS.hd0 2 rfl rfl ?_) | (refine hS.hd 2 rfl rfl ?_) | (refine hS.hd0 3 rfl rfl ?_) | (refine hS.hd 3 rfl rfl ?_) | (refine hS.hd0 4 rfl rfl ?_) | (refine hS.hd 4 rfl rfl ?_) | (refine hS.hd0 5 rfl rfl ?_) | (refine hS.hd 5 rfl rfl ?_) | (refine hS.hd0 6 rfl rfl ?_) | (refine hS.hd 6 rfl rfl ?_) | (refine hS.hd0 7 rfl rfl ?_) | (refine hS.hd 7 rfl rfl ?_) | (refine hS.st0 0 rfl rfl rfl ?_; clear hS; intro _ hS) | (refine hS.st 0 rfl rfl rfl ?_; clear hS; intro _ hS) | (refine hS.st0 1 rfl rfl rfl ?_; clear hS; intro _ hS) | (refine hS.st 1 rfl rfl rfl ?_; clear hS; intro _ hS) | (refine hS.st0 2 rfl rfl rfl ?_; clear hS; intro _ hS) | (refine hS.st 2 rfl rfl rfl ?_; clear hS; intro _ hS) | (refine hS.st0 3 rfl rfl rfl ?_; clear hS; intro _ hS) | (refine hS.st 3 rfl rfl rfl ?_; clear hS; intro _ hS) | (refine hS.st0 4 rfl rfl rfl ?_; clear hS; intro _ hS) | (refine hS.st 4 rfl rfl rfl ?_; clear hS; intro _ hS) | (refine hS.st0 5 rfl rfl rfl ?_; clear hS; intro _ hS) | (refine hS.st 5 rfl rfl rfl ?_; clear hS; intro _ hS) | (refine hS.st0 6 rfl rfl rfl ?_; clear hS; intro _ hS) | (refine hS.st 6 rfl rfl rfl ?_; clear hS; intro _ hS) | (refine hS.st0 7 rfl rfl rfl ?_; clear hS; intro _ hS) | (refine hS.st 7 rfl rfl rfl ?_; clear hS; intro _ hS) | (refine bnd_mk (by decide) (by decide) ?_) | (refine so_i rfl ?_))
  refine cond_split (fun h => ?_) (fun h => ?_)
  · refine lv_i (bad 60 ?_ (by decide) _ hS.ext)
    unfold cellsE
    have hr : ¬ b.right = true := by
      intro hr
      unfold Bx.rightE at h
      rw [if_pos hr] at h
      simp at h
    rw [if_pos hs, if_neg hr]
  have hr : b.right = true := by
    unfold Bx.rightE at h
    by_cases hr : b.right = true
    · exact hr
    · rw [if_neg hr] at h; simp at h
  have hb := right_iff.1 hr
  repeat (first | (refine asI_i rfl ?_) | (refine asB_i rfl ?_) | (refine asP_i rfl ?_) | (refine asS_i rfl ?_) | (refine asY_i rfl ?_) | (refine asM_i rfl ?_) | (refine asA_i rfl rfl ?_) | (refine asT_i rfl rfl ?_) | (refine lv_i ?_) | (refine St.nw hS ?_; clear hS; intro _ _ hS) | (refine St.dw hS ?_; clear hS; intro _ hS _) | (refine hS.ld0 0 rfl rfl ?_) | (refine hS.ld 0 rfl rfl ?_) | (refine hS.ld0 1 rfl rfl ?_) | (refine hS.ld 1 rfl rfl ?_) | (refine hS.ld0 2 rfl rfl ?_) | (refine hS.ld 2 rfl rfl ?_) | (refine hS.ld0 3 rfl rfl ?_) | (refine hS.ld 3 rfl rfl ?_) | (refine hS.ld0 4 rfl rfl ?_) | (refine hS.ld 4 rfl rfl ?_) | (refine hS.ld0 5 rfl rfl ?_) | (refine hS.ld 5 rfl rfl ?_) | (refine hS.ld0 6 rfl rfl ?_) | (refine hS.ld 6 rfl rfl ?_) | (refine hS.ld0 7 rfl rfl ?_) | (refine hS.ld 7 rfl rfl ?_) | (refine hS.hd0 0 rfl rfl ?_) | (refine hS.hd 0 rfl rfl ?_) | (refine hS.hd0 1 rfl rfl ?_) | (refine hS.hd 1 rfl rfl ?_) | (refine hS.hd0 2 rfl rfl ?_) | (refine hS.hd 2 rfl rfl ?_) | (refine hS.hd0 3 rfl rfl ?_) | (refine hS.hd 3 rfl rfl ?_) | (refine hS.hd0 4 rfl rfl ?_) | (refine hS.hd 4 rfl rfl ?_) | (refine hS.hd0 5 rfl rfl ?_) | (refine hS.hd 5 rfl rfl ?_) | (refine hS.hd0 6 rfl rfl ?_) | (refine hS.hd 6 rfl rfl ?_) | (refine hS.hd0 7 rfl rfl ?_) | (refine hS.hd 7 rfl rfl ?_) | (refine hS.st0 0 rfl rfl rfl ?_; clear hS; intro _ hS) | (refine hS.st 0 rfl rfl rfl ?_; clear hS; intro _ hS) | (refine hS.st0 1 rfl rfl rfl ?_; clear hS; intro _ hS) | (refine hS.st 1 rfl rfl rfl ?_; clear hS; intro _ hS) | (refine hS.st0 2 rfl rfl rfl ?_; clear hS; intro _ hS) | (refine hS.st 2 rfl rfl rfl ?_; clear hS; intro _ hS) | (refine hS.st0 3 rfl rfl rfl ?_; clear hS; intro _ hS) | (refine hS.st 3 rfl rfl rfl ?_; clear hS; intro _ hS) | (refine hS.st0 4 rfl rfl rfl ?_; clear hS; intro _ hS) | (refine hS.st 4 rfl rfl rfl ?_; clear hS; intro _ hS) | (refine hS.st0 5 rfl rfl rfl ?_; clear hS; intro _ hS) | (refine hS.st 5 rfl rfl rfl ?_; clear hS; intro _ hS) | (refine hS.st0 6 rfl rfl rfl ?_; clear hS; intro _ hS) | (refine hS.st 6 rfl rfl rfl ?_; clear hS; intro _ hS) | (refine hS.st0 7 rfl rfl rfl ?_; clear hS; intro _ hS) | (refine hS.st 7 rfl rfl rfl ?_; clear hS; intro _ hS) | (refine bnd_mk (by decide) (by decide) ?_) | (refine so_i rfl ?_))
  have e1 : IntKind.wrap .i64 (b.x - b.r) = b.x - b.r := wr64 (by omega) (by omega)
  have e2 : IntKind.wrap .i64 (b.y - b.r) = b.y - b.r := wr64 (by omega) (by omega)
  have e3 : IntKind.wrap .i64 (IntKind.wrap .i64 (b.x + b.r) - 1) = b.x + b.r - 1 := by rw [wr64 (n := b.x + b.r) (by omega) (by omega), wr64 (by omega) (by omega)]
  have e4 : IntKind.wrap .i64 (IntKind.wrap .i64 (b.y + b.r) - 1) = b.y + b.r - 1 := by rw [wr64 (n := b.y + b.r) (by omega) (by omega), wr64 (by omega) (by omega)]
  rw [e1, e2]
  refine gcell_k (by omega) (by omega) hs1.1 (asC_i rfl ?_)
  repeat (first | (refine asI_i rfl ?_) | (refine asB_i rfl ?_) | (refine asP_i rfl ?_) | (refine asS_i rfl ?_) | (refine asY_i rfl ?_) | (refine asM_i rfl ?_) | (refine asA_i rfl rfl ?_) | (refine asT_i rfl rfl ?_) | (refine lv_i ?_) | (refine St.nw hS ?_; clear hS; intro _ _ hS) | (refine St.dw hS ?_; clear hS; intro _ hS _) | (refine hS.ld0 0 rfl rfl ?_) | (refine hS.ld 0 rfl rfl ?_) | (refine hS.ld0 1 rfl rfl ?_) | (refine hS.ld 1 rfl rfl ?_) | (refine hS.ld0 2 rfl rfl ?_) | (refine hS.ld 2 rfl rfl ?_) | (refine hS.ld0 3 rfl rfl ?_) | (refine hS.ld 3 rfl rfl ?_) | (refine hS.ld0 4 rfl rfl ?_) | (refine hS.ld 4 rfl rfl ?_) | (refine hS.ld0 5 rfl rfl ?_) | (refine hS.ld 5 rfl rfl ?_) | (refine hS.ld0 6 rfl rfl ?_) | (refine hS.ld 6 rfl rfl ?_) | (refine hS.ld0 7 rfl rfl ?_) | (refine hS.ld 7 rfl rfl ?_) | (refine hS.hd0 0 rfl rfl ?_) | (refine hS.hd 0 rfl rfl ?_) | (refine hS.hd0 1 rfl rfl ?_) | (refine hS.hd 1 rfl rfl ?_) | (refine hS.hd0 2 rfl rfl ?_) | (refine hS.hd 2 rfl rfl ?_) | (refine hS.hd0 3 rfl rfl ?_) | (refine hS.hd 3 rfl rfl ?_) | (refine hS.hd0 4 rfl rfl ?_) | (refine hS.hd 4 rfl rfl ?_) | (refine hS.hd0 5 rfl rfl ?_) | (refine hS.hd 5 rfl rfl ?_) | (refine hS.hd0 6 rfl rfl ?_) | (refine hS.hd 6 rfl rfl ?_) | (refine hS.hd0 7 rfl rfl ?_) | (refine hS.hd 7 rfl rfl ?_) | (refine hS.st0 0 rfl rfl rfl ?_; clear hS; intro _ hS) | (refine hS.st 0 rfl rfl rfl ?_; clear hS; intro _ hS) | (refine hS.st0 1 rfl rfl rfl ?_; clear hS; intro _ hS) | (refine hS.st 1 rfl rfl rfl ?_; clear hS; intro _ hS) | (refine hS.st0 2 rfl rfl rfl ?_; clear hS; intro _ hS) | (refine hS.st 2 rfl rfl rfl ?_; clear hS; intro _ hS) | (refine hS.st0 3 rfl rfl rfl ?_; clear hS; intro _ hS) | (refine hS.st 3 rfl rfl rfl ?_; clear hS; intro _ hS) | (refine hS.st0 4 rfl rfl rfl ?_; clear hS; intro _ hS) | (refine hS.st 4 rfl rfl rfl ?_; clear hS; intro _ hS) | (refine hS.st0 5 rfl rfl rfl ?_; clear hS; intro _ hS) | (refine hS.st 5 rfl rfl rfl ?_; clear hS; intro _ hS) | (refine hS.st0 6 rfl rfl rfl ?_; clear hS; intro _ hS) | (refine hS.st 6 rfl rfl rfl ?_; clear hS; intro _ hS) | (refine hS.st0 7 rfl rfl rfl ?_; clear hS; intro _ hS) | (refine hS.st 7 rfl rfl rfl ?_; clear hS; intro _ hS) | (refine bnd_mk (by decide) (by decide) ?_) | (refine so_i rfl ?_))
  rw [e3, e4]
  refine gcell_k (by omega) (by omega) hs1.1 (asC_i rfl ?_)
  repeat (first | (refine asI_i rfl ?_) | (refine asB_i rfl ?_) | (refine asP_i rfl ?_) | (refine asS_i rfl ?_) | (refine asY_i rfl ?_) | (refine asM_i rfl ?_) | (refine asA_i rfl rfl ?_) | (refine asT_i rfl rfl ?_) | (refine lv_i ?_) | (refine St.nw hS ?_; clear hS; intro _ _ hS) | (refine St.dw hS ?_; clear hS; intro _ hS _) | (refine hS.ld0 0 rfl rfl ?_) | (refine hS.ld 0 rfl rfl ?_) | (refine hS.ld0 1 rfl rfl ?_) | (refine hS.ld 1 rfl rfl ?_) | (refine hS.ld0 2 rfl rfl ?_) | (refine hS.ld 2 rfl rfl ?_) | (refine hS.ld0 3 rfl rfl ?_) | (refine hS.ld 3 rfl rfl ?_) | (refine hS.ld0 4 rfl rfl ?_) | (refine hS.ld 4 rfl rfl ?_) | (refine hS.ld0 5 rfl rfl ?_) | (refine hS.ld 5 rfl rfl ?_) | (refine hS.ld0 6 rfl rfl ?_) | (refine hS.ld 6 rfl rfl ?_) | (refine hS.ld0 7 rfl rfl ?_) | (refine hS.ld 7 rfl rfl ?_) | (refine hS.hd0 0 rfl rfl ?_) | (refine hS.hd 0 rfl rfl ?_) | (refine hS.hd0 1 rfl rfl ?_) | (refine hS.hd 1 rfl rfl ?_) | (refine hS.hd0 2 rfl rfl ?_) | (refine hS.hd 2 rfl rfl ?_) | (refine hS.hd0 3 rfl rfl ?_) | (refine hS.hd 3 rfl rfl ?_) | (refine hS.hd0 4 rfl rfl ?_) | (refine hS.hd 4 rfl rfl ?_) | (refine hS.hd0 5 rfl rfl ?_) | (refine hS.hd 5 rfl rfl ?_) | (refine hS.hd0 6 rfl rfl ?_) | (refine hS.hd 6 rfl rfl ?_) | (refine hS.hd0 7 rfl rfl ?_) | (refine hS.hd 7 rfl rfl ?_) | (refine hS.st0 0 rfl rfl rfl ?_; clear hS; intro _ hS) | (refine hS.st 0 rfl rfl rfl ?_; clear hS; intro _ hS) | (refine hS.st0 1 rfl rfl rfl ?_; clear hS; intro _ hS) | (refine hS.st 1 rfl rfl rfl ?_; clear hS; intro _ hS) | (refine hS.st0 2 rfl rfl rfl ?_; clear hS; intro _ hS) | (refine hS.st 2 rfl rfl rfl ?_; clear hS; intro _ hS) | (refine hS.st0 3 rfl rfl rfl ?_; clear hS; intro _ hS) | (refine hS.st 3 rfl rfl rfl ?_; clear hS; intro _ hS) | (refine hS.st0 4 rfl rfl rfl ?_; clear hS; intro _ hS) | (refine hS.st 4 rfl rfl rfl ?_; clear hS; intro _ hS) | (refine hS.st0 5 rfl rfl rfl ?_; clear hS; intro _ hS) | (refine hS.st 5 rfl rfl rfl ?_; clear hS; intro _ hS) | (refine hS.st0 6 rfl rfl rfl ?_; clear hS; intro _ hS) | (refine hS.st 6 rfl rfl rfl ?_; clear hS; intro _ hS) | (refine hS.st0 7 rfl rfl rfl ?_; clear hS; intro _ hS) | (refine hS.st 7 rfl rfl rfl ?_; clear hS; intro _ hS) | (refine bnd_mk (by decide) (by decide) ?_) | (refine so_i rfl ?_))
  have hsp : spanOf s b = ⟨(b.x - b.r) / s, (b.y - b.r) / s, (b.x + b.r - 1) / s, (b.y + b.r - 1) / s⟩ := rfl
  have hle := span_le hs1.1 hr
  have d1 := div_bound (n := b.x - b.r) hs1.1
  have d2 := div_bound (n := b.y - b.r) hs1.1
  have d3 := div_bound (n := b.x + b.r - 1) hs1.1
  have d4 := div_bound (n := b.y + b.r - 1) hs1.1
  have hE : cellsE s b = if (spanOf s b).ok = true then if (spanOf s b).wide * (spanOf s b).tall > 1024 then 2 else 0 else 40 := by
    unfold cellsE
    rw [if_pos hs, if_pos hr]
  unfold cellsL' at hK
  generalize hp : spanOf s b = p at *
  obtain ⟨lx, ly, hx, hy⟩ := p
  simp only [Span.mk.injEq] at hsp
  obtain ⟨rfl, rfl, rfl, rfl⟩ := hsp
  generalize (b.x - b.r) / s = lx at *
  generalize (b.y - b.r) / s = ly at *
  generalize (b.x + b.r - 1) / s = ux at *
  generalize (b.y + b.r - 1) / s = uy at *
  simp only at hle
  have na : lx.natAbs < 18446744073709551616 ∧ ly.natAbs < 18446744073709551616 ∧ ux.natAbs < 18446744073709551616 ∧ uy.natAbs < 18446744073709551616 := by
    refine ⟨?_, ?_, ?_, ?_⟩
    · rcases Int.lt_or_le (b.x - b.r) 0 with h | h
      · have := d1.2 h; omega
      · have := d1.1 h; omega
    · rcases Int.lt_or_le (b.y - b.r) 0 with h | h
      · have := d2.2 h; omega
      · have := d2.1 h; omega
    · rcases Int.lt_or_le (b.x + b.r - 1) 0 with h | h
      · have := d3.2 h; omega
      · have := d3.1 h; omega
    · rcases Int.lt_or_le (b.y + b.r - 1) 0 with h | h
      · have := d4.2 h; omega
      · have := d4.1 h; omega
  clear d1 d2 d3 d4 e1 e2 e3 e4
  refine jn_of (fun t w' => t = [.bool (!(Span.mk lx ly ux uy).ok)] ∧ Ext no w w') ?_ ?_
  · rintro _ w1 ⟨rfl, hx1⟩
    refine asB_i rfl (cond_split (fun h => ?_) (fun h => ?_))
    · refine lv_i (bad 40 ?_ (by decide) _ hx1)
      rw [hE, if_neg (by simpa using h)]
    have hok : (Span.mk lx ly ux uy).ok = true := by simpa using h
    rw [if_pos hok] at hE
    have hc : ((-1048576 ≤ lx ∧ lx ≤ 1048576) ∧ (-1048576 ≤ ly ∧ ly ≤ 1048576)) ∧ ((-1048576 ≤ ux ∧ ux ≤ 1048576) ∧ (-1048576 ≤ uy ∧ uy ≤ 1048576)) := by
      simp only [Span.ok, Bool.and_eq_true, isCell_iff] at hok
      exact hok
    refine F_sub (by omega) (by omega) (F_sub (by omega) (by omega) (f2i_F (by omega) (f2i_F (by omega) (lv_i (lv_i ?_)))))
    have hwd : (Span.mk lx ly ux uy).wide = ux - lx + 1 := rfl
    have htl : (Span.mk lx ly ux uy).tall = uy - ly + 1 := rfl
    rw [wr64 (n := ux - lx + 1) (by omega) (by omega), wr64 (n := uy - ly + 1) (by omega) (by omega)]
    rw [hwd, htl] at hE hK
    generalize hW : ux - lx + 1 = W at *
    generalize hT : uy - ly + 1 = T at *
    have hW1 : 1 ≤ W ∧ W ≤ 2097153 := by omega
    have hT1 : 1 ≤ T ∧ T ≤ 2097153 := by omega
    have hWT : 1 ≤ W * T ∧ W * T ≤ 2097153 * 2097153 := by
      constructor
      · have : 1 * 1 ≤ W * T := Int.mul_le_mul hW1.1 hT1.1 (by decide) (by omega)
        omega
      · exact Int.mul_le_mul hW1.2 hT1.2 (by omega) (by decide)
    rw [wr64 (n := W * T) (by omega) (by omega)]
    refine cond_split (fun h => ?_) (fun h => ?_)
    · refine lv_i (bad 2 ?_ (by decide) _ hx1)
      rw [hE, if_pos (of_decide_eq_true h)]
    have hle : ¬ W * T > 1024 := of_decide_eq_false h
    rw [if_neg hle] at hE
    rw [if_pos hE, hE] at hK
    obtain ⟨Wn, rfl⟩ : ∃ n : Nat, W = (n : Int) := ⟨W.toNat, by omega⟩
    obtain ⟨Tn, rfl⟩ : ∃ n : Nat, T = (n : Int) := ⟨T.toNat, by omega⟩
    simp only [Int.toNat_natCast] at hK
    have hcap : ((Wn : Int) * (Tn : Int)) = ((Wn * Tn : Nat) : Int) := by simp
    rw [hcap] at hle hWT ⊢
    have hcap1 : Wn * Tn ≤ 1024 := by omega
    refine sC.make0 (by omega) (le_maxLen (by omega)) ?_
    intro w2 hrow hx2
    refine asS_i rfl ?_
    have hx02 := hx1.trans hx2
    have hvs : ∀ (lst : List (Int × Int)), (∀ u ∈ lst.map cv, Sx.one u = true) := by
      intro lst u hu
      simp only [List.mem_map] at hu
      obtain ⟨q, _, rfl⟩ := hu
      rfl
    refine lp_mk (fun t : Nat × (Option Addr × Nat × Nat) => [.complex .f64 (F lx) (F (ly + (t.1 : Int))), .slice t.2.1 t.2.2.1 t.2.2.2, .int .i64 (t.1 : Int)])
      (fun m t w' => m = Tn - t.1 ∧ t.1 ≤ Tn ∧ Ext no w w' ∧ t.2.2.1 = (rowsC lx ly Wn t.1).length ∧ Row w' w.heap.size 107 t.2.1 t.2.2.2 ((rowsC lx ly Wn t.1).map cv)) Tn (0, (some ⟨w1.heap.size, 0, none⟩, 0, Wn * Tn)) (by simp) ⟨rfl, Nat.zero_le _, hx02, rfl, hrow.mono hx1.size⟩ ?_
    rintro _ ⟨j, p, n, c⟩ w3 ⟨rfl, hj, hx3, hn, hr3⟩ J hJ
    simp only at hj hn hr3 hJ ⊢
    subst hn
    refine asC_i rfl (asS_i rfl (asI_i rfl (cond_split (fun h => ?_) (fun h => ?_))))
    · have hjT : j < Tn := by
        have := of_decide_eq_true h
        omega
      refine lp_mk (fun t : Nat × (Option Addr × Nat × Nat) => [.slice t.2.1 t.2.2.1 t.2.2.2, .complex .f64 (F (lx + (t.1 : Int))) (F (ly + (j : Int))), .int .i64 (t.1 : Int)])
        (fun m t w' => m = Wn - t.1 ∧ t.1 ≤ Wn ∧ Ext no w w' ∧ t.2.2.1 = (rowsC lx ly Wn j ++ rowC lx (ly + (j : Int)) t.1).length ∧ Row w' w.heap.size 107 t.2.1 t.2.2.2 ((rowsC lx ly Wn j ++ rowC lx (ly + (j : Int)) t.1).map cv)) Wn (0, (p, (rowsC lx ly Wn j).length, c)) (by simp)
        ⟨rfl, Nat.zero_le _, hx3, by simp [rowC], by simpa [rowC] using hr3⟩ ?_
      rintro _ ⟨i, p, n, c⟩ w4 ⟨rfl, hi, hx4, hn, hr4⟩ J2 hJ2
      simp only at hi hn hr4 hJ2 ⊢
      subst hn
      refine asS_i rfl (asC_i rfl (asI_i rfl (cond_split (fun h => ?_) (fun h => ?_))))
      · have hiW : i < Wn := by
          have := of_decide_eq_true h
          omega
        have hlen : (rowsC lx ly Wn j ++ rowC lx (ly + (j : Int)) i).length = j * Wn + i := by
          rw [List.length_append, rowsC_length, rowC_length]
        have hlen2 : j * Wn + i < 1024 := by
          have : (j + 1) * Wn ≤ Tn * Wn := Nat.mul_le_mul_right _ hjT
          rw [Nat.add_mul, Nat.mul_comm Tn Wn] at this
          omega
        refine sC.app1 hr4 (by simp) hx4.size rfl (le_maxLen (by omega)) (by omega) ?_
        intro p' c' w5 hr5 hE5 hM5
        have hx5 : Ext no w w5 := hx4.then hE5 fun k hk hkb => by
          obtain ⟨q, hq, rfl⟩ := hkb
          have := (hr4.at hq).1
          omega
        refine asS_i rfl ?_
        rw [← F_one, ← F_zero]
        refine F_add (by omega) (by decide) (F_add (by omega) (by decide) ?_)
        have ei : IntKind.wrap .i64 ((i : Int) + 1) = ((i + 1 : Nat) : Int) := by rw [wr64 (by omega) (by omega)]; omega
        rw [ei, Int.add_zero]
        have eF : lx + (i : Int) + 1 = lx + ((i + 1 : Nat) : Int) := by omega
        rw [eF]
        have erow : rowC lx (ly + (j : Int)) (i + 1) = rowC lx (ly + (j : Int)) i ++ [(lx + (i : Int), ly + (j : Int))] := by
          simp [rowC, List.range_succ]
        refine hJ2 (Wn - (i + 1)) (i + 1, (p', (rowsC lx ly Wn j ++ rowC lx (ly + (j : Int)) i).length + 1, c')) w5 (by omega) ⟨rfl, hiW, hx5, ?_, ?_⟩
        · simp only [erow, List.length_append, List.length_singleton]
          omega
        · simp only [erow]
          rw [← List.append_assoc, List.map_append]
          exact hr5
      · have hiW : i = Wn := by
          have := of_decide_eq_false h
          omega
        subst hiW
        rw [← F_one, ← F_zero]
        refine F_add (by omega) (by decide) (F_add (by omega) (by decide) ?_)
        have ej : IntKind.wrap .i64 ((j : Int) + 1) = ((j + 1 : Nat) : Int) := by rw [wr64 (by omega) (by omega)]; omega
        rw [ej, Int.add_zero]
        have eF : ly + (j : Int) + 1 = ly + ((j + 1 : Nat) : Int) := by omega
        rw [eF]
        have erows : rowsC lx ly i (j + 1) = rowsC lx ly i j ++ rowC lx (ly + (j : Int)) i := by
          simp [rowsC, List.range_succ]
        refine hJ (Tn - (j + 1)) (j + 1, (p, (rowsC lx ly i j ++ rowC lx (ly + (j : Int)) i).length, c)) w4 (by omega) ⟨rfl, hjT, hx4, ?_, ?_⟩
        · simp only [erows]
        · simp only [erows]
          exact hr4
    · have hjT : j = Tn := by
        have := of_decide_eq_false h
        omega
      subst hjT
      exact lv_i (hK p c w3 hx3 hr3)
  · intro J hJ
    refine cellF_k na.1 na.2.1 (asB_i rfl (cond_split (fun h => hJ _ _ ⟨?_, hS.ext⟩) (fun h => cellF_k na.2.2.1 na.2.2.2 (asB_i rfl (hJ _ _ ⟨?_, hS.ext⟩)))))
    · simp only [Span.ok]
      have : isCell lx ly = false := by simpa using h
      rw [this]; rfl
    · simp only [Span.ok]
      have : isCell lx ly = true := by simpa using h
      rw [this]; rfl
end Go.Proofs.YtamobmjfdiecbaaDoor

/- Rn: rows of one's own whose elements take several cells: appends, clones, writes, in the words of Sx. No condition. -/
namespace Go.Sx
open Go Go.RowKit

/-- a row of n elements of s cells each, of one's own -/
structure RowN (w : World) (base : Nat) (e : TypeId) (s : Nat) (p : Option Addr) (c n : Nat) (xs : List Value) : Prop where
  own : w.ownsRow base e s (.slice p n c) n xs

theorem RowN.nil (w : World) (base : Nat) (e : TypeId) (s : Nat) : RowN w base e s none 0 0 [] := ⟨World.ownsRow_nil w base e s⟩

theorem RowN.len {w : World} {base : Nat} {e : TypeId} {s : Nat} {p : Option Addr} {c n : Nat} {xs : List Value} (h : RowN w base e s p c n xs) : xs.length = n * s := h.own.1

theorem RowN.mono {w : World} {base base' : Nat} {e : TypeId} {s : Nat} {p : Option Addr} {c n : Nat} {xs : List Value} (h : RowN w base e s p c n xs) (hb : base' ≤ base) : RowN w base' e s p c n xs := by
  refine ⟨h.own.1, ?_⟩
  rcases h.own.2 with hx | ⟨g, cap, cur, hv, hb', rest⟩
  · exact .inl hx
  · exact .inr ⟨g, cap, cur, hv, Nat.le_trans hb hb', rest⟩

theorem RowN.cases {w : World} {base : Nat} {e : TypeId} {s : Nat} {p : Option Addr} {c n : Nat} {xs : List Value} (h : RowN w base e s p c n xs) :
    (p = none ∧ c = 0 ∧ n = 0 ∧ xs = []) ∨ ∃ g cur, p = some ⟨g, 0, none⟩ ∧ base ≤ g ∧ w.heap[g]? = some (.cells cur e (0, 0)) ∧ n ≤ c ∧ c ≤ maxLen ∧ cur.size = c * s ∧ cur.toList.take (n * s) = xs := by
  rcases h.own.2 with ⟨hv, hn⟩ | ⟨g, cap, cur, hv, hb, hg, h1, h2, h3, h4⟩
  · simp only [Value.slice.injEq] at hv
    have hl := h.own.1
    rw [hn] at hl
    exact .inl ⟨hv.1, hv.2.2, hn, List.eq_nil_of_length_eq_zero (by simpa using hl)⟩
  · simp only [Value.slice.injEq, true_and] at hv
    obtain ⟨rfl, rfl⟩ := hv
    exact .inr ⟨g, cur, rfl, hb, hg, h1, h2, h3, h4⟩

theorem RowN.at {w : World} {base : Nat} {e : TypeId} {s : Nat} {p : Option Addr} {c n : Nat} {xs : List Value} (h : RowN w base e s p c n xs) {a : Addr} (hp : p = some a) : base ≤ a.block ∧ a.block < w.heap.size := by
  rcases h.cases with ⟨rfl, _⟩ | ⟨g, cur, rfl, hb, hg, _⟩
  · cases hp
  · cases hp; exact ⟨hb, blk_lt hg⟩

theorem RowN.none {w : World} {base : Nat} {e : TypeId} {s : Nat} {p : Option Addr} {c n : Nat} {xs : List Value} (h : RowN w base e s p c n xs) (hp : p = none) : n = 0 ∧ xs = [] := by
  rcases h.cases with ⟨_, _, h1, h2⟩ | ⟨g, cur, rfl, _⟩
  · exact ⟨h1, h2⟩
  · cases hp

theorem RowN.le_max {w : World} {base : Nat} {e : TypeId} {s : Nat} {p : Option Addr} {c n : Nat} {xs : List Value} (h : RowN w base e s p c n xs) : n ≤ c := by
  rcases h.cases with ⟨_, rfl, rfl, _⟩ | ⟨g, cur, rfl, _, _, h, _⟩
  · exact Nat.le_refl _
  · exact h

theorem RowN.reads {w : World} {base : Nat} {e : TypeId} {s : Nat} {p : Option Addr} {c n : Nat} {xs : List Value} (h : RowN w base e s p c n xs) : Reads w p xs := by
  rcases h.cases with ⟨_, _, _, rfl⟩ | ⟨g, cur, rfl, hb, hg, h1, h2, h3, h4⟩
  · exact .inl rfl
  · refine .inr ⟨g, 0, rfl, fun i v hv => ?_⟩
    rw [blk_cell hg, Nat.zero_add]
    rw [← h4, List.getElem?_take] at hv
    split at hv
    · simpa using hv
    · cases hv

theorem RowN.ext {M : Nat → Prop} {w w' : World} (hx : Ext M w w') {base : Nat} {e : TypeId} {s : Nat} {p : Option Addr} {c n : Nat} {xs : List Value} (h : RowN w base e s p c n xs)
    (hm : ∀ a, p = some a → ¬ M a.block) : RowN w' base e s p c n xs := by
  refine ⟨hx.own h.own fun g hg => ?_⟩
  cases p with
  | none => simp [Value.ownBlock] at hg
  | some a =>
    simp only [Value.ownBlock, Option.some.injEq] at hg
    exact hg ▸ hm a rfl

theorem RowN.keep {w w' : World} {q : Option Addr} (hx : Ext (blocks q) w w') {base : Nat} {e : TypeId} {s : Nat} {p : Option Addr} {c n : Nat} {xs : List Value} (h : RowN w base e s p c n xs) (ha : Apart p q) : RowN w' base e s p c n xs :=
  h.ext hx fun a hp ⟨b, hb, hab⟩ => ha a b hp hb hab.symm

/-- one write to a row -/
theorem RowN.st {w : World} {base : Nat} {e : TypeId} {s : Nat} {p : Option Addr} {c n : Nat} {xs : List Value} (h : RowN w base e s p c n xs) {j : Nat} {u : Value} {K : World → Prop}
    (hj : j < xs.length) (ho : one u = true)
    (hK : ∀ w', RowN w' base e s p c n (xs.set j u) → Ext (blocks p) w w' → w'.heap.size = w.heap.size → K w') {a : Addr} (ha : p = some a) : Sx.st w (Addr.add a j) u K := by
  rcases h.cases with ⟨_, _, _, rfl⟩ | ⟨g, cur, rfl, hb, hg, h1, h2, h3, h4⟩
  · simp at hj
  · cases ha
    have hlen := h.len
    have hcn : n * s ≤ c * s := Nat.mul_le_mul_right _ h1
    rw [add_mk, Nat.zero_add]
    refine st_mk hg (by omega) ho (hK _ ?_ ((Ext.set w ⟨g, j, Option.none⟩ u).mono fun k _ hk => ⟨_, rfl, hk.symm⟩) (by simp [World.setCell]))
    refine ⟨by simpa using hlen, .inr ⟨g, c, cur.setIfInBounds j u, rfl, hb, blk_set hg _ _, h1, h2, by simpa using h3, ?_⟩⟩
    simp only [Array.toList_setIfInBounds]
    rw [List.take_set, h4]

/-- a type of slices whose elements take s cells -/
structure SlN (P : Program) (t e : TypeId) (s b : Nat) : Prop where
  und : P.underlying t = some (.slice e)
  inf : ∃ i z, P.info? e = some i ∧ i.zero = some z ∧ z.cells.size = s ∧ i.size = s ∧ i.bytes = b
  pos : 0 < s

section
variable {P : Program} {t ty e : TypeId} {s b : Nat}

theorem SlN.app (ht : SlN P t e s b)
    {w : World} {base : Nat} {p : Option Addr} {n c : Nat} {xs : List Value} (hown : RowN w base e s p c n xs) (hbase : base ≤ w.heap.size)
    {q : Option Addr} {m c' : Nat} {news : List Value} (hsrc : Reads w q news) (hm : news.length = m * s) (hq : q = none → m = 0) (h1 : ∀ u ∈ news, one u = true)
    (h63 : n + m ≤ maxLen) (hbytes : (n + m) * b ≤ 140737488355328) {K : Value → World → Prop}
    (hK : ∀ p' c'' w', RowN w' base e s p' c'' (n + m) (xs ++ news) → Ext (blocks p) w w' → Moved w p p' → (p' = none → n + m = 0) → K (.slice p' (n + m) c'') w') :
    rn P (Builtin.append_ #[t, t] ty #[.slice p n c, .slice q m c']) w K := by
  obtain ⟨i, z, hi, hz, hzs, hs, rfl⟩ := ht.inf
  have hsp := ht.pos
  have ho := hown.own
  have h1' : ∀ u ∈ news, u.oneCell' = true := fun u hu => one_of (h1 u hu)
  have hE : ∀ {w' : World} {r : Option Nat}, w.grownBy w' r → (∀ k, r = some k → blocks p k) → Ext (blocks p) w w' := fun hg hr =>
    (Ext.of_grown hg).mono fun k _ hk => hr k hk.symm
  by_cases h0 : news = []
  · have hm0 : m = 0 := by
      rw [h0, List.length_nil] at hm
      rcases Nat.mul_eq_zero.1 hm.symm with h | h
      · exact h
      · omega
    subst hm0
    subst h0
    have hr : (Builtin.append_ #[t, t] ty #[.slice p n c, .slice q 0 c']).run P w = .ok (.slice p n c) w := by
      rcases hown.cases with ⟨rfl, rfl, rfl, rfl⟩ | ⟨g, cur, rfl, _, _, hc, _⟩
      · cases q <;> simp [Builtin.append_, run_underlying ht.und, sizeOf, typeInfo, hi, Builtin.lenOf, Builtin.firstCells, loadCells, loadCellsFrom]
      · cases q <;> simp [Builtin.append_, run_underlying ht.und, sizeOf, typeInfo, hi, Builtin.lenOf, Builtin.firstCells, hc, storeCells, loadCells, loadCellsFrom]
    refine rn_mk hr ?_
    exact hK p c w (by simpa using hown) (Ext.refl _ _) (.inl rfl) fun hp => by simpa using (hown.none hp).1
  · rcases hsrc with h | ⟨b', o', rfl, hc⟩
    · exact absurd h h0
    have hnews : ∀ j u, news[j]? = some u → w.cell? ((⟨b', o', none⟩ : Addr).add j) = some u := by
      intro j u hu
      rw [add_mk]; exact hc j u hu
    have hmpos : 0 < m := by
      rcases Nat.eq_zero_or_pos m with h | h
      · rw [h] at hm
        exact absurd (List.eq_nil_of_length_eq_zero (by simpa using hm)) h0
      · exact h
    rcases hown.cases with ⟨rfl, rfl, rfl, rfl⟩ | ⟨g, cur, rfl, hbg, hg, hnc, hcm, hcs, htake⟩
    · have hnil : w.ownsRow w.heap.size e s (.slice none 0 0) 0 [] := World.ownsRow_nil w _ e s
      obtain ⟨v', w', hr, h2, h3, h4⟩ := run_append_own (P := P) w w.heap.size t ty e i z s i.bytes ht.und hi hz hs rfl hzs hsp (.slice none 0 0) 0 [] hnil ⟨b', o', none⟩ m c' news hm hnews h1' h63 hbytes (Nat.le_refl _)
      rcases h2.2 with ⟨_, hx⟩ | ⟨g, cap, cur, rfl, hb, _⟩
      · omega
      refine rn_mk hr ?_
      have hrow : RowN w' w.heap.size e s (some ⟨g, 0, none⟩) cap (0 + m) ([] ++ news) := ⟨h2⟩
      exact hK _ cap w' (hrow.mono hbase) (hE h3 (by simp [Value.ownBlock])) (.inr fun a ha => (hrow.at ha).1) (fun hp => by cases hp)
    · by_cases hroom : n + m ≤ c
      · obtain ⟨w', hr, h2, h3⟩ := run_append_fits (P := P) w base t ty e i s ht.und hi hs g n c xs ho ⟨b', o', none⟩ m c' news hm hnews h1' hroom
        exact rn_mk hr (hK _ c w' ⟨h2⟩ (hE h3 fun k hk => ⟨_, rfl, by simpa using hk⟩) (.inl rfl) (by simp))
      · have holds : ∀ j u, xs[j]? = some u → w.cell? ((⟨g, 0, none⟩ : Addr).add j) = some u := by
          intro j u hu
          rcases hown.reads with h | ⟨b2, o2, h, hc2⟩
          · rw [h] at hu; simp at hu
          · cases h; rw [add_mk]; exact hc2 j u hu
        obtain ⟨v', w', hr, h2, h3⟩ := run_append_arg_grows (P := P) w t ty e i z s i.bytes ht.und hi hz hs rfl hzs hsp ⟨g, 0, none⟩ n c xs hown.len holds ⟨b', o', none⟩ m c' news hm hnews (by omega) h63 hbytes
        rcases h2.2 with ⟨_, hx⟩ | ⟨g', cap, cur', rfl, hb, _⟩
        · omega
        have hrow : RowN w' w.heap.size e s (some ⟨g', 0, none⟩) cap (n + m) (xs ++ news) := ⟨h2⟩
        exact rn_mk hr (hK _ cap w' (hrow.mono hbase) (hE h3 (by simp)) (.inr fun a ha => (hrow.at ha).1) (fun hp => by cases hp))

/-- an append of one element, as the program writes it -/
theorem SlN.app1 (ht : SlN P t e s b)
    {w : World} {base : Nat} {p : Option Addr} {n c : Nat} {xs : List Value} (hown : RowN w base e s p c n xs) (hbase : base ≤ w.heap.size)
    {vs : List Value} {t' : TypeId} (hv : vs.length = s) (h1 : ∀ u ∈ vs, one u = true)
    (h63 : n + 1 ≤ maxLen) (hbytes : (n + 1) * b ≤ 140737488355328) {K : Value → World → Prop}
    (hK : ∀ p' c'' w', RowN w' base e s p' c'' (n + 1) (xs ++ vs) → Ext (blocks p) w w' → Moved w p p' → K (.slice p' (n + 1) c'') w') :
    nw w (.cells vs.toArray t') fun r w1 => rn P (Builtin.append_ #[t, t] ty #[.slice p n c, .slice (some ⟨r, 0, none⟩) 1 1]) w1 K := by
  have hx : Ext no w (w.alloc (.cells vs.toArray t')) := Ext.alloc w _
  refine ht.app (hown.ext hx fun _ _ h => h) (Nat.le_trans hbase hx.size) (Reads.new w vs t') (by simpa using hv) (fun h => by cases h) h1 h63 hbytes ?_
  intro p' c'' w' hr hE hmv _
  refine hK p' c'' w' hr ((Ext.of_no hx).then hE fun k _ hk => hk) ?_
  rcases hmv with h | h
  · exact .inl h
  · exact .inr fun a ha => Nat.le_trans hx.size (h a ha)

/-- make with room -/
theorem SlN.make0 (ht : SlN P t e s b)
    {w : World} {kl kc : IntKind} {c : Nat} (hbytes : b * c ≤ 281474976710656) (h63 : c ≤ maxLen) {K : Value → World → Prop}
    (hK : ∀ w', RowN w' w.heap.size e s (some ⟨w.heap.size, 0, none⟩) c 0 [] → Ext no w w' → K (.slice (some ⟨w.heap.size, 0, none⟩) 0 c) w') :
    rn P (Instr.makeSlice t (.int kl 0) (.int kc (c : Int))) w K := by
  obtain ⟨i, z, hi, hz, hzs, hs, rfl⟩ := ht.inf
  obtain ⟨w', hr, h2, h3⟩ := run_make_own (P := P) w w.heap.size t e i z s ht.und hi hz hs kl kc c hbytes h63 (Nat.le_refl _)
  exact rn_mk hr (hK w' ⟨h2⟩ ((Ext.of_grown h3).mono fun _ _ h => by simp at h))
end

/-- the cells of a list of things that take s cells each -/
theorem fl_lenN {α : Type} {f : α → List Value} {s : Nat} (hf : ∀ x, (f x).length = s) : ∀ l : List α, (l.flatMap f).length = l.length * s
  | [] => by simp
  | x :: l => by
    rw [List.flatMap_cons, List.length_append, hf, fl_lenN hf l, List.length_cons, Nat.add_mul, Nat.one_mul, Nat.add_comm]

theorem fl_getN {α : Type} {f : α → List Value} {s : Nat} (hf : ∀ x, (f x).length = s) : ∀ {l : List α} {i : Nat} {x : α}, l[i]? = some x → ∀ k, k < s → (l.flatMap f)[i * s + k]? = (f x)[k]?
  | [], _, _, h, _, _ => by simp at h
  | y :: l, 0, x, h, k, hk => by
    simp only [List.getElem?_cons_zero, Option.some.injEq] at h
    subst h
    rw [List.flatMap_cons, Nat.zero_mul, Nat.zero_add, List.getElem?_append_left (by rw [hf]; exact hk)]
  | y :: l, i + 1, x, h, k, hk => by
    rw [List.flatMap_cons, List.getElem?_append_right (by rw [hf, Nat.add_mul]; omega), hf]
    have e : (i + 1) * s + k - s = i * s + k := by rw [Nat.add_mul]; omega
    rw [e]
    exact fl_getN hf (by simpa using h) k hk

/-- one cell of an element of a slice that is read -/
theorem Reads.atN {α : Type} {f : α → List Value} {s : Nat} (hf : ∀ x, (f x).length = s) {w : World} {p : Option Addr} {l : List α} (hr : Reads w p (l.flatMap f)) {i n : Nat} (hn : l.length = n) {x : α} (hx : l[i]? = some x) (hs : 0 < s) {K : Addr → Prop}
    (hK : ∀ a, p = some a → (∀ k, k < s → w.cell? (Addr.add (Addr.add a (i * s)) k) = (f x)[k]?) → K a) :
    dr p fun a => bnd (i : Int) n (K a) := by
  have hi : i < l.length := (List.getElem?_eq_some_iff.1 hx).1
  rcases hr with h | ⟨b, o, rfl, hc⟩
  · have := fl_lenN hf l
    rw [h] at this
    have h2 : 0 < l.length * s := Nat.mul_pos (by omega) hs
    simp only [List.length_nil] at this
    omega
  · refine dr_i (bnd_mk (by omega) (by omega) (hK _ rfl fun k hk => ?_))
    rw [add_mk, add_mk]
    have h1 := fl_getN hf hx k hk
    have h2 : k < (f x).length := by rw [hf]; exact hk
    rw [List.getElem?_eq_getElem h2] at h1 ⊢
    rw [Nat.add_assoc]
    exact hc _ _ h1
end Go.Sx

/- Mp: maps of one's own, as lists of keys and values that are known: looked up, written, entered, deleted. No condition. -/
namespace Go.Sx
open Go Go.RowKit

set_option linter.unusedSectionVars false
theorem g_obj {P : Program} {w : World} {r : Nat} {es : Array MapEntry} {clock : Nat} (hb : w.heap[r]? = some (.map es clock)) : (getObj r).run P w = .ok (.map es clock) w := by
  simp [getObj, Sem.run, hb]
theorem s_obj {P : Program} {w : World} {r : Nat} {es : Array MapEntry} {clock : Nat} (o : Obj) (hb : w.heap[r]? = some (.map es clock)) : (setObj r o).run P w = .ok () { w with heap := w.heap.setIfInBounds r o } := by
  simp [setObj, Sem.run, hb]

section
variable {α β : Type} [DecidableEq α]

def afind (a : α) : List (α × β) → Nat → Option (Nat × β)
  | [], _ => none
  | x :: r, i => if x.1 = a then some (i, x.2) else afind a r (i + 1)
def aget (A : List (α × β)) (a : α) : Option β := (afind a A 0).map (·.2)
def aset : List (α × β) → α → β → List (α × β)
  | [], a, b => [(a, b)]
  | x :: r, a, b => if x.1 = a then (x.1, b) :: r else x :: aset r a b
def adel : List (α × β) → α → List (α × β)
  | [], _ => []
  | x :: r, a => if x.1 = a then r else x :: adel r a

def ents (enc : α → Value) (val : β → Value) : List (α × β) → List Nat → List MapEntry
  | [], _ => []
  | _, [] => []
  | x :: A, b :: bs => { key := enc x.1, val := val x.2, born := b } :: ents enc val A bs

theorem ents_length (enc : α → Value) (val : β → Value) : ∀ {A : List (α × β)} {bs : List Nat}, A.length = bs.length → (ents enc val A bs).length = A.length
  | [], _, _ => by simp [ents]
  | x :: A, [], h => by simp at h
  | x :: A, b :: bs, h => by simp [ents, ents_length enc val (A := A) (bs := bs) (by simpa using h)]

theorem afind_shift (a : α) : ∀ (A : List (α × β)) (i : Nat), afind a A i = (afind a A 0).map (fun p => (p.1 + i, p.2))
  | [], i => rfl
  | x :: A, i => by
    unfold afind
    split
    · simp
    · rw [afind_shift a A (i + 1), afind_shift a A (0 + 1)]
      cases afind a A 0 with
      | none => rfl
      | some p => simp; omega

theorem afind_none {a : α} {A : List (α × β)} : afind a A 0 = none ↔ ∀ x ∈ A, x.1 ≠ a := by
  induction A with
  | nil => simp [afind]
  | cons x A ih =>
    unfold afind
    split
    · rename_i h
      simp [h]
    · rename_i h
      rw [afind_shift]
      simp only [Option.map_eq_none_iff, ih, List.mem_cons, forall_eq_or_imp]
      simp [h]

theorem afind_some {a : α} {b : β} : ∀ {A : List (α × β)} {i : Nat}, afind a A 0 = some (i, b) → A[i]? = some (a, b)
  | [], i, h => by simp [afind] at h
  | x :: A, i, h => by
    unfold afind at h
    split at h
    · rename_i hx
      simp only [Option.some.injEq, Prod.mk.injEq] at h
      obtain ⟨rfl, rfl⟩ := h
      simp [← hx]
    · rw [afind_shift] at h
      simp only [Option.map_eq_some_iff] at h
      obtain ⟨p, hp, he⟩ := h
      simp only [Prod.mk.injEq] at he
      obtain ⟨h1, h2⟩ := he
      obtain ⟨j, c⟩ := p
      simp only at h1 h2
      subst h2
      have := afind_some hp
      have e : i = j + 1 := by omega
      subst e
      simpa using this

theorem aset_eq {a : α} {b : β} {A : List (α × β)} : aset A a b = match afind a A 0 with
    | some (i, _) => A.set i (a, b)
    | none => A ++ [(a, b)] := by
  induction A with
  | nil => rfl
  | cons x A ih =>
    unfold aset afind
    split
    · rename_i h
      simp [h]
    · rename_i h
      rw [afind_shift, ih]
      cases hf : afind a A 0 with
      | none => simp
      | some p => simp

theorem adel_eq {a : α} {A : List (α × β)} : adel A a = match afind a A 0 with
    | some (i, _) => A.eraseIdx i
    | none => A := by
  induction A with
  | nil => rfl
  | cons x A ih =>
    unfold adel afind
    split
    · simp
    · rename_i h
      rw [afind_shift, ih]
      cases hf : afind a A 0 with
      | none => simp
      | some p => simp

theorem ents_set (enc : α → Value) (val : β → Value) {a : α} {b : β} : ∀ {A : List (α × β)} {bs : List Nat} {i : Nat} {c : β}, A.length = bs.length → A[i]? = some (a, c) →
    ∃ e, (ents enc val A bs)[i]? = some e ∧ e.key = enc a ∧ e.val = val c ∧ bs[i]? = some e.born ∧ (ents enc val A bs).set i { e with val := val b } = ents enc val (A.set i (a, b)) bs ∧
      (ents enc val A bs).eraseIdx i = ents enc val (A.eraseIdx i) (bs.eraseIdx i)
  | [], _, i, c, _, h => by simp at h
  | x :: A, [], i, c, h, _ => by simp at h
  | x :: A, s :: bs, 0, c, h, hi => by
    simp only [List.getElem?_cons_zero, Option.some.injEq] at hi
    subst hi
    exact ⟨_, rfl, rfl, rfl, rfl, rfl, rfl⟩
  | x :: A, s :: bs, i + 1, c, h, hi => by
    obtain ⟨e, h1, h2, h3, h4, h5, h6⟩ := ents_set enc val (b := b) (A := A) (bs := bs) (i := i) (by simpa using h) (by simpa using hi)
    refine ⟨e, by simpa [ents] using h1, h2, h3, by simpa using h4, ?_, ?_⟩
    · simp only [ents, List.set_cons_succ, h5]
    · simp only [ents, List.eraseIdx_cons_succ, h6]

theorem ents_push (enc : α → Value) (val : β → Value) {x : α × β} {s : Nat} : ∀ {A : List (α × β)} {bs : List Nat}, A.length = bs.length →
    ents enc val A bs ++ [{ key := enc x.1, val := val x.2, born := s }] = ents enc val (A ++ [x]) (bs ++ [s])
  | [], [], _ => rfl
  | [], _ :: _, h => by simp at h
  | _ :: _, [], h => by simp at h
  | y :: A, b :: bs, h => by
    have := ents_push enc val (x := x) (s := s) (A := A) (bs := bs) (by simpa using h)
    simp only [ents, List.cons_append, this]

/-- what a key's type must give -/
structure KeyT (P : Program) (t : TypeId) (enc : α → Value) (ok : α → Prop) : Prop where
  find : ∀ {β : Type} (val : β → Value) (a : α) (A : List (α × β)) (bs : List Nat) (w : World), ok a → (∀ x ∈ A, ok x.1) → A.length = bs.length →
    (Instr.findKey t (enc a) (ents enc val A bs)).run P w = .ok ((afind a A 0).map fun p => (p.1, val p.2)) w
  check : ∀ b a w, (Instr.checkKey b 10000 t (enc a)).run P w = .ok () w
  bits : ∀ a, Instr.sameBits 10000 (enc a) (enc a) = true

/-- a map -/
structure Mp (w : World) (m : Nat) (enc : α → Value) (val : β → Value) (A : List (α × β)) (bs : List Nat) (clk : Nat) : Prop where
  blk : w.heap[m]? = some (.map (ents enc val A bs).toArray clk)
  len : A.length = bs.length
  nd : bs.Nodup
  lt : ∀ b ∈ bs, b < clk

variable {P : Program} {t kt et : TypeId} {enc : α → Value} {ok : α → Prop} {val : β → Value} {w : World} {m : Nat} {A : List (α × β)} {bs : List Nat} {clk : Nat}

theorem Mp.ext {M : Nat → Prop} {w' : World} (hx : Ext M w w') (h : Mp w m enc val A bs clk) (hm : ¬ M m) : Mp w' m enc val A bs clk := ⟨hx.blk h.blk hm, h.len, h.nd, h.lt⟩

theorem Mp.lookup_ok (K : KeyT P kt enc ok) (ht : P.underlying t = some (.map kt et)) {z : Value} (hz : ∀ w, (zeroValue et).run P w = .ok z w) (h : Mp w m enc val A bs clk) (a : α) (ho : ok a ∧ ∀ x ∈ A, ok x.1) :
    (Instr.lookup t (.map (some m)) (enc a) true).run P w = .ok (.tuple #[((aget A a).map val).getD z, .bool (aget A a).isSome]) w := by
  unfold Instr.lookup
  simp only [Sem.run_bind, und_run ht, Result.andThen_ok, g_obj h.blk, Sem.run_pure, K.check, List.toList_toArray, K.find val a A bs w ho.1 ho.2 h.len, aget]
  cases hf : afind a A 0 with
  | none => simp [hz]
  | some p => simp

theorem Mp.lookup (K : KeyT P kt enc ok) (ht : P.underlying t = some (.map kt et)) {z : Value} (hz : ∀ w, (zeroValue et).run P w = .ok z w) (h : Mp w m enc val A bs clk) (a : α) (ho : ok a ∧ ∀ x ∈ A, ok x.1) :
    (Instr.lookup t (.map (some m)) (enc a) false).run P w = .ok (((aget A a).map val).getD z) w := by
  unfold Instr.lookup
  simp only [Sem.run_bind, und_run ht, Result.andThen_ok, g_obj h.blk, Sem.run_pure, K.check, List.toList_toArray, K.find val a A bs w ho.1 ho.2 h.len, aget]
  cases hf : afind a A 0 with
  | none => simp [hz]
  | some p => simp

def setObjW (w : World) (m : Nat) (o : Obj) : World := { w with heap := w.heap.setIfInBounds m o }
theorem setObjW_ext (w : World) (m : Nat) (o : Obj) : Ext (onl m) w (setObjW w m o) ∧ (setObjW w m o).heap.size = w.heap.size :=
  ⟨⟨rfl, rfl, rfl, by simp [setObjW], fun k _ hk => by simp only [setObjW]; rw [Array.getElem?_setIfInBounds_ne (fun e => hk e.symm)]⟩, by simp [setObjW]⟩
theorem setObjW_blk {w : World} {m : Nat} {o o' : Obj} (h : w.heap[m]? = some o') : (setObjW w m o).heap[m]? = some o := by
  have := blk_lt h
  simp [setObjW, this]

theorem keyStays (K : KeyT P kt enc ok) (a : α) (w : World) : (Instr.keyThatStays (enc a) (enc a)).run P w = .ok (enc a) w := by
  simp [Instr.keyThatStays, K.bits]

theorem modify_at {es : List MapEntry} {i : Nat} {e : MapEntry} (h : es[i]? = some e) (f : MapEntry → MapEntry) : (es.toArray.modify i f) = (es.set i (f e)).toArray := by
  apply Array.ext_getElem?
  intro j
  have hlt := (List.getElem?_eq_some_iff.1 h).1
  by_cases hj : i = j
  · subst hj
    have he : es[i] = e := (List.getElem?_eq_some_iff.1 h).2
    simp [hlt, he]
  · simp [hj]

theorem Mp.update (K : KeyT P kt enc ok) (ht : P.underlying t = some (.map kt et)) (h : Mp w m enc val A bs clk) (a : α) (ho : ok a ∧ ∀ x ∈ A, ok x.1) (b : β) {Q : World → Prop}
    (hQ : ∀ w' bs' clk', Mp w' m enc val (aset A a b) bs' clk' → Ext (onl m) w w' → w'.heap.size = w.heap.size → Q w') : ru P (Instr.mapUpdate t (.map (some m)) (enc a) (val b)) w Q := by
  have hr : ∃ bs' clk', (Instr.mapUpdate t (.map (some m)) (enc a) (val b)).run P w = .ok () (setObjW w m (.map (ents enc val (aset A a b) bs').toArray clk')) ∧ (aset A a b).length = bs'.length ∧ bs'.Nodup ∧ ∀ x ∈ bs', x < clk' := by
    unfold Instr.mapUpdate
    simp only [Sem.run_bind, und_run ht, Result.andThen_ok, g_obj h.blk, K.check, List.toList_toArray, K.find val a A bs w ho.1 ho.2 h.len]
    rw [aset_eq]
    cases hf : afind a A 0 with
    | none =>
      refine ⟨bs ++ [clk], clk + 1, ?_, by simp [h.len], ?_, ?_⟩
      · simp only [Option.map_none]
        rw [s_obj _ h.blk]
        have := ents_push enc val (x := (a, b)) (s := clk) h.len
        simp only [← this, List.push_toArray]
        rfl
      · rw [List.nodup_append]
        refine ⟨h.nd, by simp, ?_⟩
        intro x hx y hy
        simp only [List.mem_singleton] at hy
        have := h.lt x hx
        omega
      · intro x hx
        simp only [List.mem_append, List.mem_singleton] at hx
        rcases hx with hx | rfl
        · have := h.lt x hx; omega
        · omega
    | some p =>
      obtain ⟨i, c⟩ := p
      obtain ⟨e, h1, h2, h3, h4, h5, _⟩ := ents_set enc val (b := b) h.len (afind_some hf)
      refine ⟨bs, clk, ?_, by simp [h.len], h.nd, h.lt⟩
      simp only [Option.map_some, List.getElem?_toArray, h1, Option.getD_some, h2, Sem.run_bind, keyStays K, Result.andThen_ok]
      rw [s_obj _ h.blk, modify_at h1]
      have e2 : ({ e with key := enc a, val := val b } : MapEntry) = { e with val := val b } := by rw [← h2]
      simp only [e2, h5]
      rfl
  obtain ⟨bs', clk', hr, hl, hn, hlt⟩ := hr
  exact ru_mk hr (hQ _ bs' clk' ⟨setObjW_blk h.blk, hl, hn, hlt⟩ (setObjW_ext _ _ _).1 (setObjW_ext _ _ _).2)

/-- a map, an entry of which was taken hold of -/
structure MpE (w : World) (m : Nat) (enc : α → Value) (val : β → Value) (A : List (α × β)) (bs : List Nat) (clk : Nat) (i st : Nat) : Prop where
  mp : Mp w m enc val A bs clk
  st : bs[i]? = some st

theorem Mp.entry (K : KeyT P kt enc ok) (ht : P.underlying t = some (.map kt et)) {z : β} (hz : ∀ w, (zeroValue et).run P w = .ok (val z) w) (h : Mp w m enc val A bs clk) (a : α) (ho : ok a ∧ ∀ x ∈ A, ok x.1) {Q : Value → World → Prop}
    (hQ : ∀ w' bs' clk' i st, MpE w' m enc val (aset A a ((aget A a).getD z)) bs' clk' i st → (aset A a ((aget A a).getD z))[i]? = some (a, (aget A a).getD z) → (∀ b, (aset A a ((aget A a).getD z)).set i (a, b) = aset A a b) →
      Ext (onl m) w w' → w'.heap.size = w.heap.size → Q (.tuple #[val ((aget A a).getD z), .int .i64 (st : Int)]) w') :
    rn P (Instr.mapEntry t (.map (some m)) (enc a)) w Q := by
  have hr : ∃ (bs' : List Nat) (clk' i st : Nat), (Instr.mapEntry t (.map (some m)) (enc a)).run P w = .ok (.tuple #[val ((aget A a).getD z), .int .i64 (st : Int)]) (setObjW w m (.map (ents enc val (aset A a ((aget A a).getD z)) bs').toArray clk')) ∧
      (aset A a ((aget A a).getD z)).length = bs'.length ∧ bs'.Nodup ∧ (∀ x ∈ bs', x < clk') ∧ bs'[i]? = some st ∧ (aset A a ((aget A a).getD z))[i]? = some (a, (aget A a).getD z) ∧ (∀ b, (aset A a ((aget A a).getD z)).set i (a, b) = aset A a b) := by
    unfold Instr.mapEntry
    simp only [Sem.run_bind, und_run ht, Result.andThen_ok, g_obj h.blk, K.check, List.toList_toArray, K.find val a A bs w ho.1 ho.2 h.len]
    simp only [aset_eq, aget]
    cases hf : afind a A 0 with
    | none =>
      refine ⟨bs ++ [clk], clk + 1, bs.length, clk, ?_, by simp [h.len], ?_, ?_, by simp, by simp [← h.len], fun b => by simp [← h.len]⟩
      · simp only [Option.map_none, Option.getD_none, Sem.run_bind, hz, Result.andThen_ok]
        rw [s_obj _ h.blk]
        have := ents_push enc val (x := (a, z)) (s := clk) h.len
        simp only [← this, List.push_toArray]
        rfl
      · rw [List.nodup_append]
        refine ⟨h.nd, by simp, ?_⟩
        intro x hx y hy
        simp only [List.mem_singleton] at hy
        have := h.lt x hx
        omega
      · intro x hx
        simp only [List.mem_append, List.mem_singleton] at hx
        rcases hx with hx | rfl
        · have := h.lt x hx; omega
        · omega
    | some p =>
      obtain ⟨i, c⟩ := p
      obtain ⟨e, h1, h2, h3, h4, h5, _⟩ := ents_set enc val (b := c) h.len (afind_some hf)
      have hlt := (List.getElem?_eq_some_iff.1 (afind_some hf)).1
      refine ⟨bs, clk, i, e.born, ?_, by simp [h.len], h.nd, h.lt, h4, by simp [hlt], fun b => by simp⟩
      simp only [Option.map_some, List.getElem?_toArray, h1, Option.getD_some, h2, Sem.run_bind, keyStays K, Result.andThen_ok]
      rw [s_obj _ h.blk, modify_at h1]
      have e2 : ({ e with key := enc a } : MapEntry) = { e with val := val c } := by rw [← h2, ← h3]
      simp only [e2, h5, Result.andThen_ok]
      rfl
  obtain ⟨bs', clk', i, st, hr, hl, hn, hlt, hs, h1, h2⟩ := hr
  exact rn_mk hr (hQ _ bs' clk' i st ⟨⟨setObjW_blk h.blk, hl, hn, hlt⟩, hs⟩ h1 h2 (setObjW_ext _ _ _).1 (setObjW_ext _ _ _).2)

theorem find_born {enc : α → Value} {val : β → Value} {st : Nat} : ∀ {A : List (α × β)} {bs : List Nat} {i : Nat}, A.length = bs.length → bs.Nodup → bs[i]? = some st →
    (ents enc val A bs).findIdx? (fun e => (e.born : Int) == (st : Int)) = some i
  | [], [], i, _, _, h => by simp at h
  | [], _ :: _, i, h, _, _ => by simp at h
  | _ :: _, [], i, h, _, _ => by simp at h
  | x :: A, b :: bs, 0, h, hn, hi => by
    simp only [List.getElem?_cons_zero, Option.some.injEq] at hi
    subst hi
    simp [ents, List.findIdx?_cons]
  | x :: A, b :: bs, i + 1, h, hn, hi => by
    have hne : b ≠ st := by
      rintro rfl
      have := List.nodup_cons.1 hn
      exact this.1 (List.mem_of_getElem? (by simpa using hi))
    have ih := find_born (enc := enc) (val := val) (A := A) (bs := bs) (i := i) (by simpa using h) (List.nodup_cons.1 hn).2 (by simpa using hi)
    have hb : ((b : Int) == (st : Int)) = false := by simp; omega
    simp only [ents, List.findIdx?_cons, hb, ih]
    simp

theorem MpE.store {A : List (α × β)} {i st : Nat} (h : MpE w m enc val A bs clk i st) {a : α} {c : β} (hi : A[i]? = some (a, c)) (b : β) {Q : World → Prop}
    (hQ : ∀ w', Mp w' m enc val (A.set i (a, b)) bs clk → Ext (onl m) w w' → w'.heap.size = w.heap.size → Q w') : ru P (Instr.entryStore t (.map (some m)) (.int .i64 (st : Int)) (val b)) w Q := by
  obtain ⟨e, h1, h2, h3, h4, h5, _⟩ := ents_set enc val (b := b) h.mp.len hi
  have hr : (Instr.entryStore t (.map (some m)) (.int .i64 (st : Int)) (val b)).run P w = .ok () (setObjW w m (.map (ents enc val (A.set i (a, b)) bs).toArray clk)) := by
    unfold Instr.entryStore
    have hf := find_born (enc := enc) (val := val) h.mp.len h.mp.nd h.st
    have hf' : (ents enc val A bs).toArray.findIdx? (fun e => (e.born : Int) == (st : Int)) = some i := by rw [List.findIdx?_toArray]; exact hf
    simp only [Sem.run_bind, g_obj h.mp.blk, Result.andThen_ok, asInt, asIntOf, Sem.run_pure, hf']
    rw [s_obj _ h.mp.blk, modify_at h1, h5]
    rfl
  exact ru_mk hr (hQ _ ⟨setObjW_blk h.mp.blk, by simp [h.mp.len], h.mp.nd, h.mp.lt⟩ (setObjW_ext _ _ _).1 (setObjW_ext _ _ _).2)

theorem Mp.delete (K : KeyT P kt enc ok) (ht : P.underlying t = some (.map kt et)) (h : Mp w m enc val A bs clk) (a : α) (ho : ok a ∧ ∀ x ∈ A, ok x.1) {ty k' : TypeId} {Q : Value → World → Prop}
    (hQ : ∀ w' bs' clk', Mp w' m enc val (adel A a) bs' clk' → Ext (onl m) w w' → w'.heap.size = w.heap.size → Q (.tuple #[]) w') : rn P (Builtin.delete_ #[t, k'] ty #[.map (some m), enc a]) w Q := by
  have hr : ∃ bs' clk', (Builtin.delete_ #[t, k'] ty #[.map (some m), enc a]).run P w = .ok (.tuple #[]) (setObjW w m (.map (ents enc val (adel A a) bs').toArray clk')) ∧ (adel A a).length = bs'.length ∧ bs'.Nodup ∧ ∀ x ∈ bs', x < clk' := by
    unfold Builtin.delete_
    simp only [List.getElem?_toArray, List.getElem?_cons_zero, List.getElem?_cons_succ, Sem.run_bind, und_run ht, Result.andThen_ok, g_obj h.blk, K.check, List.toList_toArray, K.find val a A bs w ho.1 ho.2 h.len]
    rw [adel_eq]
    cases hf : afind a A 0 with
    | none =>
      refine ⟨bs, clk, ?_, h.len, h.nd, h.lt⟩
      simp only [Option.map_none, Sem.run_bind]
      rw [s_obj _ h.blk]
      rfl
    | some p =>
      obtain ⟨i, c⟩ := p
      obtain ⟨e, h1, h2, h3, h4, h5, h6⟩ := ents_set enc val (b := c) h.len (afind_some hf)
      refine ⟨bs.eraseIdx i, clk, ?_, ?_, ?_, ?_⟩
      · simp only [Option.map_some, Sem.run_bind]
        rw [s_obj _ h.blk, ← h6]
        have : (ents enc val A bs).toArray.eraseIdxIfInBounds i = ((ents enc val A bs).eraseIdx i).toArray := by simp
        rw [this]
        rfl
      · have hlt := (List.getElem?_eq_some_iff.1 (afind_some hf)).1
        have := h.len
        rw [List.length_eraseIdx_of_lt hlt, List.length_eraseIdx_of_lt (by omega)]
        omega
      · exact h.nd.sublist (List.eraseIdx_sublist _ _)
      · exact fun x hx => h.lt x ((List.eraseIdx_sublist _ _).subset hx)
  obtain ⟨bs', clk', hr, hl, hn, hlt⟩ := hr
  exact rn_mk hr (hQ _ bs' clk' ⟨setObjW_blk h.blk, hl, hn, hlt⟩ (setObjW_ext _ _ _).1 (setObjW_ext _ _ _).2)

theorem Mp.len_run {ty : TypeId} (ht : P.underlying t = some (.map kt et)) (h : Mp w m enc val A bs clk) : (Builtin.len_ #[t] ty #[.map (some m)]).run P w = .ok (.int .i64 (A.length : Int)) w := by
  unfold Builtin.len_
  simp only [List.getElem?_toArray, List.getElem?_cons_zero, Sem.run_bind, und_run ht, Result.andThen_ok, g_obj h.blk, Sem.run_pure, goInt, List.size_toArray, ents_length enc val h.len]

theorem make_map (ht : P.underlying t = some (.map kt et)) {Q : Value → World → Prop}
    (hQ : ∀ w', Mp w' w.heap.size enc val ([] : List (α × β)) [] 0 → Ext no w w' → w'.heap.size = w.heap.size + 1 → Q (.map (some w.heap.size)) w') : rn P (Instr.makeMap t none) w Q := by
  have hr : (Instr.makeMap t none).run P w = .ok (.map (some w.heap.size)) (w.alloc (.map #[] 0)) := by
    simp [Instr.makeMap, newObj, Sem.run]
  exact rn_mk hr (hQ _ ⟨new_blk w _, rfl, List.nodup_nil, by simp⟩ (Ext.alloc w _) (new_size w _))
end

/-! ### keys that are whole numbers -/
theorem keyT_int {P : Program} {t : TypeId} {k : IntKind} (hu : P.underlying t = some (.int k)) : KeyT P t (fun x : Int => Value.int k x) (fun _ => True) := by
  refine ⟨?_, ?_, ?_⟩
  · intro β val a A bs w _ _ hl
    have key : ∀ (A : List (Int × β)) (bs : List Nat) (i : Nat), A.length = bs.length → Instr.findNow (.int k) (.int k a) (ents (fun x : Int => Value.int k x) val A bs) i = some ((afind a A i).map fun p => (p.1, val p.2)) := by
      intro A
      induction A with
      | nil => intro bs i _; rfl
      | cons x A ih =>
        intro bs i hl
        cases bs with
        | nil => simp at hl
        | cons b bs =>
          have := ih bs (i + 1) (by simpa using hl)
          unfold ents afind Instr.findNow
          simp only [Instr.sameNow, if_true]
          by_cases h : x.1 = a
          · have h' : (a == x.1) = true := by simp [h]
            rw [h', if_pos h]
            rfl
          · have h' : (a == x.1) = false := by simp; omega
            rw [h', if_neg h]
            exact this
    unfold Instr.findKey
    simp only [Sem.run_bind, und_run hu, Result.andThen_ok, key A bs 0 hl, Sem.run_pure]
  · intro b a w
    have key : ∀ d, (Instr.checkKey b (d + 1) t (.int k a)).run P w = .ok () w := by
      intro d
      simp [Instr.checkKey, und_run hu]
    exact key 9999
  · intro a
    have key : ∀ d, Instr.sameBits d (.int k a) (.int k a) = true := by
      intro d
      simp [Instr.sameBits]
    exact key _
end Go.Sx

/- As: lists of keys and values, plainly: what is there behind a change. No condition. -/
namespace Go.Sx
set_option linter.unusedSectionVars false

section
variable {α β γ : Type} [DecidableEq α]

theorem aget_cons {x : α × β} {A : List (α × β)} {a : α} : aget (x :: A) a = if x.1 = a then some x.2 else aget A a := by
  unfold aget
  rw [afind]
  split
  · rfl
  · rw [afind_shift]
    cases afind a A 0 <;> rfl

theorem aget_nil {a : α} : aget ([] : List (α × β)) a = none := rfl

theorem aget_mem {A : List (α × β)} {a : α} {b : β} (h : aget A a = some b) : (a, b) ∈ A := by
  induction A with
  | nil => cases h
  | cons x A ih =>
    rw [aget_cons] at h
    split at h
    · rename_i hx
      simp only [Option.some.injEq] at h
      subst h
      subst hx
      simp
    · exact List.mem_cons_of_mem _ (ih h)

theorem aget_none {A : List (α × β)} {a : α} : aget A a = none ↔ ∀ x ∈ A, x.1 ≠ a := by
  unfold aget
  rw [Option.map_eq_none_iff, afind_none]

theorem aget_of_mem {A : List (α × β)} (hn : (A.map (·.1)).Nodup) {a : α} {b : β} (h : (a, b) ∈ A) : aget A a = some b := by
  induction A with
  | nil => cases h
  | cons x A ih =>
    rw [aget_cons]
    simp only [List.map_cons, List.nodup_cons] at hn
    rcases List.mem_cons.1 h with rfl | h
    · simp
    · rw [if_neg, ih hn.2 h]
      intro e
      exact hn.1 (e ▸ List.mem_map.2 ⟨_, h, rfl⟩)

theorem aget_aset {A : List (α × β)} {a : α} {b : β} {c : α} : aget (aset A a b) c = if c = a then some b else aget A c := by
  induction A with
  | nil =>
    simp only [aset, aget_cons, aget_nil]
    by_cases h : a = c
    · simp [h]
    · simp [h, Ne.symm h]
  | cons x A ih =>
    unfold aset
    split
    · rename_i hx
      rw [aget_cons, aget_cons]
      by_cases h : c = a
      · simp [hx, h]
      · have : ¬ x.1 = c := by rw [hx]; exact fun e => h e.symm
        simp [this, h]
    · rename_i hx
      rw [aget_cons, aget_cons, ih]
      by_cases h : x.1 = c
      · have : ¬ c = a := by rw [← h]; exact hx
        simp [h, this]
      · simp [h]

theorem mem_aset {A : List (α × β)} (hn : (A.map (·.1)).Nodup) {a : α} {b : β} {x : α × β} (h : x ∈ aset A a b) : x = (a, b) ∨ (x ∈ A ∧ x.1 ≠ a) := by
  induction A with
  | nil =>
    simp only [aset, List.mem_singleton] at h
    exact .inl h
  | cons y A ih =>
    simp only [List.map_cons, List.nodup_cons] at hn
    unfold aset at h
    split at h
    · rename_i hy
      rcases List.mem_cons.1 h with rfl | h
      · exact .inl (by rw [hy])
      · refine .inr ⟨List.mem_cons_of_mem _ h, fun e => hn.1 ?_⟩
        rw [hy, ← e]
        exact List.mem_map.2 ⟨x, h, rfl⟩
    · rename_i hy
      rcases List.mem_cons.1 h with rfl | h
      · exact .inr ⟨by simp, hy⟩
      · rcases ih hn.2 h with h | ⟨h1, h2⟩
        · exact .inl h
        · exact .inr ⟨List.mem_cons_of_mem _ h1, h2⟩

theorem aset_keys {A : List (α × β)} {a : α} {b : β} : (aset A a b).map (·.1) = if a ∈ A.map (·.1) then A.map (·.1) else A.map (·.1) ++ [a] := by
  induction A with
  | nil => simp [aset]
  | cons x A ih =>
    unfold aset
    split
    · rename_i h
      simp [h]
    · rename_i h
      rw [List.map_cons, ih]
      have h' : ¬ a = x.1 := fun e => h e.symm
      simp only [List.map_cons, List.mem_cons, h', false_or]
      split <;> simp

theorem nodup_aset {A : List (α × β)} (hn : (A.map (·.1)).Nodup) {a : α} {b : β} : ((aset A a b).map (·.1)).Nodup := by
  rw [aset_keys]
  split
  · exact hn
  · rename_i h
    rw [List.nodup_append]
    refine ⟨hn, by simp, ?_⟩
    intro x hx y hy
    simp only [List.mem_singleton] at hy
    subst hy
    exact fun e => h (e ▸ hx)

theorem pairwise_aset {A : List (α × β)} {R : α × β → α × β → Prop} (hR : A.Pairwise R) (hn : (A.map (·.1)).Nodup) {a : α} {b : β} (h : ∀ x ∈ A, x.1 ≠ a → R x (a, b) ∧ R (a, b) x) : (aset A a b).Pairwise R := by
  induction A with
  | nil => simp [aset]
  | cons y A ih =>
    simp only [List.map_cons, List.nodup_cons] at hn
    rw [List.pairwise_cons] at hR
    unfold aset
    split
    · rename_i hy
      rw [List.pairwise_cons]
      refine ⟨fun x hx => ?_, hR.2⟩
      have hxa : x.1 ≠ a := fun e => hn.1 (by rw [hy, ← e]; exact List.mem_map.2 ⟨x, hx, rfl⟩)
      have := (h x (by simp [hx]) hxa).2
      rw [hy]
      exact this
    · rename_i hy
      rw [List.pairwise_cons]
      refine ⟨fun x hx => ?_, ih hR.2 hn.2 fun x hx => h x (by simp [hx])⟩
      rcases mem_aset hn.2 hx with rfl | ⟨hx, _⟩
      · exact (h y (by simp) hy).1
      · exact hR.1 x hx

theorem map_aset {f : β → γ} {A : List (α × β)} {a : α} {b : β} : (aset A a b).map (fun x => (x.1, f x.2)) = aset (A.map (fun x => (x.1, f x.2))) a (f b) := by
  induction A with
  | nil => rfl
  | cons x A ih =>
    simp only [aset, List.map_cons]
    split
    · simp
    · simp [ih]

theorem map_aget {f : β → γ} {A : List (α × β)} {a : α} : aget (A.map (fun x => (x.1, f x.2))) a = (aget A a).map f := by
  induction A with
  | nil => rfl
  | cons x A ih =>
    simp only [List.map_cons, aget_cons]
    split
    · rfl
    · exact ih

theorem map_adel {f : β → γ} {A : List (α × β)} {a : α} : (adel A a).map (fun x => (x.1, f x.2)) = adel (A.map (fun x => (x.1, f x.2))) a := by
  induction A with
  | nil => rfl
  | cons x A ih =>
    simp only [adel, List.map_cons]
    split
    · rfl
    · simp [ih]

theorem adel_sub (A : List (α × β)) (a : α) : (adel A a).Sublist A := by
  induction A with
  | nil => exact List.Sublist.refl _
  | cons x A ih =>
    unfold adel
    split
    · exact List.sublist_cons_self _ _
    · exact ih.cons_cons _

theorem mem_adel {A : List (α × β)} (hn : (A.map (·.1)).Nodup) {a : α} {x : α × β} : x ∈ adel A a ↔ x ∈ A ∧ x.1 ≠ a := by
  induction A with
  | nil => simp [adel]
  | cons y A ih =>
    simp only [List.map_cons, List.nodup_cons] at hn
    unfold adel
    split
    · rename_i hy
      constructor
      · intro h
        refine ⟨List.mem_cons_of_mem _ h, fun e => hn.1 ?_⟩
        rw [hy, ← e]
        exact List.mem_map.2 ⟨x, h, rfl⟩
      · rintro ⟨h, hne⟩
        rcases List.mem_cons.1 h with rfl | h
        · exact absurd hy hne
        · exact h
    · rename_i hy
      rw [List.mem_cons, ih hn.2, List.mem_cons]
      constructor
      · rintro (rfl | ⟨h1, h2⟩)
        · exact ⟨.inl rfl, hy⟩
        · exact ⟨.inr h1, h2⟩
      · rintro ⟨rfl | h1, h2⟩
        · exact .inl rfl
        · exact .inr ⟨h1, h2⟩

theorem nodup_adel {A : List (α × β)} (hn : (A.map (·.1)).Nodup) {a : α} : ((adel A a).map (·.1)).Nodup := hn.sublist ((adel_sub A a).map _)

theorem aget_adel {A : List (α × β)} (hn : (A.map (·.1)).Nodup) {a c : α} : aget (adel A a) c = if c = a then none else aget A c := by
  induction A with
  | nil => simp [adel, aget_nil]
  | cons x A ih =>
    simp only [List.map_cons, List.nodup_cons] at hn
    unfold adel
    split
    · rename_i hx
      rw [aget_cons]
      by_cases h : c = a
      · rw [if_pos h]
        rw [aget_none]
        intro y hy e
        exact hn.1 (by rw [hx, ← h, ← e]; exact List.mem_map.2 ⟨y, hy, rfl⟩)
      · have : ¬ x.1 = c := by rw [hx]; exact fun e => h e.symm
        simp [this, h]
    · rename_i hx
      rw [aget_cons, aget_cons, ih hn.2]
      by_cases h : x.1 = c
      · have : ¬ c = a := by rw [← h]; exact hx
        simp [h, this]
      · simp [h]
end
end Go.Sx

/- Cz: clear(s[i:]) on a row of one's own. No condition. -/
namespace Go.Sx
open Go Go.RowKit

theorem Row.take {w : World} {base : Nat} {e : TypeId} {p : Option Addr} {c : Nat} {xs : List Value} (h : Row w base e p c xs) (i : Nat) : Row w base e p c (xs.take i) := by
  rcases h.cases with ⟨rfl, rfl, rfl⟩ | ⟨g, cur, rfl, hb, hg, h1, h2, h3, h4⟩
  · simpa using Row.nil w base e
  · refine ⟨by simp, .inr ⟨g, c, cur, rfl, hb, hg, ?_, h2, by simpa using h3, ?_⟩⟩
    · simp; omega
    · rw [Nat.mul_one, ← h4]
      simp [List.take_take]

theorem rn_clear {P : Program} {t ty e : TypeId} {z : Value} {b : Nat} (ht : SlT P t e z b) (h1 : one z = true)
    {w : World} {base : Nat} {p : Option Addr} {c : Nat} {xs : List Value} (h : Row w base e p c xs) {i : Nat} (hi : i ≤ xs.length) {K : Value → World → Prop}
    (hK : ∀ w', Row w' base e p c (xs.take i) → Ext (blocks p) w w' → w'.heap.size = w.heap.size → K (.tuple #[]) w') :
    rn P (Builtin.clear_ #[t] ty #[.slice (slp p c i 1) (xs.length - i) (c - i)]) w K := by
  obtain ⟨inf, hinf, hz, hs, _⟩ := ht.inf
  by_cases h0 : xs.length - i = 0
  · have hr : (Builtin.clear_ #[t] ty #[.slice (slp p c i 1) (xs.length - i) (c - i)]).run P w = .ok (.tuple #[]) w := by
      rw [h0]
      cases slp p c i 1 <;> simp [Builtin.clear_, run_underlying ht.und]
    refine rn_mk hr (hK w ?_ (Ext.refl _ _) rfl)
    exact h.take i
  · rcases h.cases with ⟨_, _, rfl⟩ | ⟨g, cur, rfl, hb, hg, hl, hcm, hcs, htk⟩
    · simp at h0
    · have hsl : slp (some (⟨g, 0, none⟩ : Addr)) c i 1 = some ⟨g, i, none⟩ := by
        unfold slp
        rw [if_neg (by omega)]
        simp [add_mk]
      rw [hsl]
      have hzc : (Builtin.zeroCells z.cells (xs.length - i)).toList = List.replicate (xs.length - i) z := by
        rw [ht.cells]
        simp [Builtin.zeroCells]
        apply List.ext_getElem
        · simp
        · intro i h1 h2
          simp [Nat.mod_one]
      have hst := run_storeCells_at P g i e (List.replicate (xs.length - i) z) 0 cur w hg (by simp; omega) (by intro v hv; rw [List.eq_of_mem_replicate hv]; exact one_of h1)
      simp only [Nat.add_zero] at hst
      obtain ⟨m, hm⟩ : ∃ m, xs.length - i = m + 1 := ⟨xs.length - i - 1, by omega⟩
      have hv : (zeroValue e).run P w = .ok z w := by simp [zeroValue, typeInfo, hinf, hz]
      have hr : (Builtin.clear_ #[t] ty #[.slice (some ⟨g, i, none⟩) (xs.length - i) (c - i)]).run P w =
          .ok (.tuple #[]) (w.setRow g (cur.toList.take i ++ List.replicate (xs.length - i) z ++ cur.toList.drop (i + (List.replicate (xs.length - i) z).length)).toArray) := by
        rw [hm] at hst hzc ⊢
        simp [Builtin.clear_, run_underlying ht.und, hv, hzc, hst]
      refine rn_mk hr (hK _ ⟨by simp, .inr ⟨g, c, _, rfl, hb, setRow_heap w g cur _ e _ hg, ?_, hcm, ?_, ?_⟩⟩ ⟨rfl, rfl, rfl, by simp [World.setRow], fun k _ hk => setRow_other w g k _ fun e => hk ⟨_, rfl, e.symm⟩⟩ (by simp [World.setRow]))
      · simp; omega
      · simp; omega
      · have e : xs.take i = cur.toList.take i := by
          conv => lhs; rw [← htk]
          rw [List.take_take, Nat.min_eq_left hi]
        have hl2 : (xs.take i).length * 1 = i := by rw [Nat.mul_one, List.length_take]; omega
        rw [hl2, e, List.append_assoc, List.take_append_of_le_length (by simp; omega), List.take_take, Nat.min_self]
end Go.Sx

/- GrD: slices.DeleteFunc at a grid's lists; the grid as a thing in memory, and what its functions do to it, as contracts over lists of numbers and boxes. Conditions: those of each theorem, on its arguments. -/
namespace Go.Proofs.YtamobmjfdiecbaaDoor
open Go Go.Sx Go.Fp
attribute [local irreducible] jn lv ld st nw asI asB asP asS asY asM asF asA asT lp rn ru rq cl dw dr bnd bn2 nz nn hd hr so eqW

/-! ### DeleteFunc -/
theorem pred_k {n id : Int} {a : Addr} {w : World} (hc : w.cell? a = some (.int .i64 id)) {K : Value → World → Prop} (hK : K (.bool (n == id)) w) : cl Tryd.prog 64 #[.int .i64 n, .pointer (some a)] w K := by
  apply F64_calls
  unfold F64
  exact dr_i (ld_mk hc (asI_i rfl hK))

theorem okPred : callOk Tryd.prog 64 = true := by kernel_rfl
attribute [local irreducible] callOk

theorem indexFunc_k {s : Option Addr} {n c : Nat} {ids : List Int} {id : Int} {a : Addr} {w : World} (hr : Reads w s (iv .i64 ids)) (hn : ids.length = n) (hb : n ≤ 1125899906842624) (hc : w.cell? a = some (.int .i64 id)) {K : Value → World → Prop}
    (hnone : (∀ j : Nat, j < n → ids[j]? ≠ some id) → K (.int .i64 (-1)) w) (hsome : ∀ i : Nat, i < n → ids[i]? = some id → (∀ j : Nat, j < i → ids[j]? ≠ some id) → K (.int .i64 (i : Int)) w) :
    cl Tryd.prog 49 #[.slice s n c, .func (.func 64) #[] #[.pointer (some a)]] w K := by
  subst hn
  apply F49_calls
  unfold F49
  refine lv_i (lp_mk (fun i : Nat => [.int .i64 (i : Int)]) (fun m i w' => w = w' ∧ m = ids.length - i ∧ i ≤ ids.length ∧ ∀ j : Nat, j < i → ids[j]? ≠ some id) ids.length 0 rfl ⟨rfl, rfl, Nat.zero_le _, by omega⟩ ?_)
  rintro _ i _ ⟨rfl, rfl, hi, hall⟩ J hJ
  refine asI_i rfl (cond_split (fun h => ?_) (fun h => ?_))
  · have hil : i < ids.length := by
      have := of_decide_eq_true h
      omega
    refine lv_i (hr.at (i := (i : Int)) (by omega) (v := .int .i64 ids[i]) (by simp [iv, hil]) ?_ (by simp [iv]))
    refine asI_i rfl (cond_t okPred ?_)
    show cl Tryd.prog 64 #[.int .i64 ids[i], .pointer (some a)] w _
    refine pred_k hc (asB_i rfl (cond_split (fun h => lv_i ?_) (fun h => ?_)))
    · refine hsome i hil ?_ hall
      rw [List.getElem?_eq_getElem hil]
      congr 1
      simpa using h
    · have ei : IntKind.wrap .i64 ((i : Int) + 1) = ((i + 1 : Nat) : Int) := by rw [wr64 (by omega) (by omega)]; omega
      rw [ei]
      refine hJ (ids.length - (i + 1)) (i + 1) w (by omega) ⟨rfl, rfl, hil, fun j hj => ?_⟩
      by_cases hji : j = i
      · subst hji
        rw [List.getElem?_eq_getElem hil]
        intro e
        simp only [Option.some.injEq] at e
        rw [e] at h
        simp at h
      · exact hall j (by omega)
  · have hil : i = ids.length := by
      have := of_decide_eq_false h
      omega
    subst hil
    exact lv_i (hnone hall)

set_option maxRecDepth 100000 in
theorem sI : SlT Tryd.prog 23 3 (.int .i64 0) 8 := ⟨rfl, ⟨_, rfl, rfl, rfl, rfl⟩, rfl⟩

def less (ids : List Int) (id : Int) : List Int := ids.filter fun x => !(x == id)

theorem filter_all {ids : List Int} {id : Int} (h : ∀ j : Nat, j < ids.length → ids[j]? ≠ some id) : less ids id = ids := by
  unfold less
  rw [List.filter_eq_self]
  intro x hx
  obtain ⟨j, hj⟩ := List.getElem?_of_mem hx
  have hl := (List.getElem?_eq_some_iff.1 hj).1
  have := h j hl
  rw [hj] at this
  simp only [ne_eq, Option.some.injEq] at this
  simpa using this

theorem delFunc_k {p : Option Addr} {c : Nat} {ids : List Int} {id : Int} {a : Addr} {w : World} (h : Row w 0 3 p c (iv .i64 ids)) (hb : ids.length ≤ 1125899906842624) (hc : w.cell? a = some (.int .i64 id)) (hne : ∀ q, p = some q → q.block ≠ a.block) {K : Value → World → Prop}
    (hK : ∀ w', Row w' 0 3 p c (iv .i64 (less ids id)) → Ext (blocks p) w w' → w'.heap.size = w.heap.size → K (.slice p (less ids id).length c) w') :
    cl Tryd.prog 63 #[.slice p ids.length c, .func (.func 64) #[] #[.pointer (some a)]] w K := by
  apply F63_calls
  unfold F63
  refine indexFunc_k h.reads rfl hb hc (fun hall => ?_) (fun i0 hi0 hid hall => ?_)
  · refine asI_i rfl (lv_i (cond_t rfl ?_))
    have := hK w (by rw [filter_all hall]; exact h) (Ext.refl _ _) rfl
    rw [filter_all hall] at this
    exact this
  refine asI_i rfl (lv_i (cond_f (by simp <;> omega) (lv_i ?_)))
  have ei : IntKind.wrap .i64 ((i0 : Int) + 1) = ((i0 + 1 : Nat) : Int) := by rw [wr64 (by omega) (by omega)]; omega
  rw [ei]
  have t0 : less (ids.take (i0 + 1)) id = ids.take i0 := by
    have e : ids.take (i0 + 1) = ids.take i0 ++ [id] := by rw [List.take_add_one, hid]; rfl
    unfold less
    rw [e, List.filter_append]
    have e1 : (ids.take i0).filter (fun x => !(x == id)) = ids.take i0 := by
      refine filter_all (ids := ids.take i0) fun j hj => ?_
      have hj2 : j < i0 := by simp at hj; omega
      rw [List.getElem?_take, if_pos hj2]
      exact hall j hj2
    rw [e1]
    simp
  refine lp_mk (fun s : Nat × Nat => [.int .i64 (s.1 : Int), .int .i64 (s.2 : Int)])
    (fun m s w' => m = ids.length - s.2 ∧ s.1 ≤ s.2 ∧ s.2 ≤ ids.length ∧ Ext (blocks p) w w' ∧ w'.heap.size = w.heap.size ∧ ∃ ys, Row w' 0 3 p c (iv .i64 ys) ∧ ys.length = ids.length ∧ ys.take s.1 = less (ids.take s.2) id ∧ ys.drop s.2 = ids.drop s.2) (ids.length - (i0 + 1)) (i0, i0 + 1) rfl
    ⟨rfl, Nat.le_succ _, hi0, Ext.refl _ _, rfl, ids, h, rfl, t0.symm, rfl⟩ ?_
  rintro _ ⟨i, j⟩ w1 ⟨rfl, hij, hj, hx1, hz1, ys, hr1, hl1, ht1, hd1⟩ J hJ
  simp only at hij hj ht1 hd1 hJ ⊢
  refine asI_i rfl (asI_i rfl (cond_split (fun h => ?_) (fun h => ?_)))
  · have hjl : j < ids.length := by
      have := of_decide_eq_true h
      omega
    have ej : IntKind.wrap .i64 ((j : Int) + 1) = ((j + 1 : Nat) : Int) := by rw [wr64 (by omega) (by omega)]; omega
    have hyj : ys[j]? = some ids[j] := by
      have := congrArg (fun l => l[0]?) hd1
      simp only [List.getElem?_drop, Nat.add_zero] at this
      rw [this, List.getElem?_eq_getElem hjl]
    have hjy : j < ys.length := by omega
    have htk : ids.take (j + 1) = ids.take j ++ [ids[j]] := by rw [List.take_add_one, List.getElem?_eq_getElem hjl]; rfl
    have hdr : ∀ zs : List Int, zs.drop j = ids.drop j → zs.drop (j + 1) = ids.drop (j + 1) := by
      intro zs hz
      have := congrArg (List.drop 1) hz
      simpa [List.drop_drop, Nat.add_comm] using this
    refine jn_of (fun s w' => ∃ i' : Nat, s = [.int .i64 (i' : Int)] ∧ i' ≤ j + 1 ∧ Ext (blocks p) w w' ∧ w'.heap.size = w.heap.size ∧ ∃ ys, Row w' 0 3 p c (iv .i64 ys) ∧ ys.length = ids.length ∧ ys.take i' = less (ids.take (j + 1)) id ∧ ys.drop (j + 1) = ids.drop (j + 1)) ?_ ?_
    · rintro _ w2 ⟨i', rfl, hi', hx2, hz2, ys2, hr2, hl2, ht2, hd2⟩
      refine asI_i rfl (lv_i ?_)
      rw [ej]
      exact hJ (ids.length - (j + 1)) (i', j + 1) w2 (by omega) ⟨rfl, hi', hjl, hx2, hz2, ys2, hr2, hl2, ht2, hd2⟩
    · intro J2 hJ2
      have hc1 : w1.cell? a = some (.int .i64 id) := hx1.cell hc fun ⟨q, hq, hqa⟩ => hne q hq hqa
      refine hr1.reads.at (i := (j : Int)) (by omega) (v := .int .i64 ids[j]) (by simp [iv, hyj]) ?_ (by simp [iv, hl1])
      refine asI_i rfl (lv_i (cond_t okPred ?_))
      show cl Tryd.prog 64 #[.int .i64 ids[j], .pointer (some a)] w1 _
      refine pred_k hc1 (asB_i rfl (cond_split (fun h => ?_) (fun h => ?_)))
      · have hv : (ids[j] == id) = false := by simpa using h
        refine hr1.st (i := (i : Int)) (u := .int .i64 ids[j]) (by omega) (by simp [iv, hl1]; omega) (by simp [iv, hl1]) rfl ?_
        intro w2 hr2 hE2 hz2
        refine lv_i (hJ2 _ _ ⟨i + 1, ?_, by omega, hx1.trans hE2, by omega, ys.set i ids[j], ?_, by simp [hl1], ?_, ?_⟩)
        · congr 2
          rw [wr64 (by omega) (by omega)]
          omega
        · rw [Int.toNat_natCast] at hr2
          simpa [iv, List.map_set] using hr2
        · have hi : i < ys.length := by omega
          rw [List.take_add_one, List.getElem?_set_self hi, List.take_set_of_le (Nat.le_refl i), ht1]
          unfold less
          rw [htk, List.filter_append]
          simp [hv]
        · rw [List.drop_set_of_lt (by omega)]
          exact hdr ys hd1
      · have hv : (ids[j] == id) = true := by simpa using h
        refine hJ2 _ _ ⟨i, rfl, by omega, hx1, hz1, ys, hr1, hl1, ?_, hdr ys hd1⟩
        rw [ht1]
        unfold less
        rw [htk, List.filter_append]
        simp [hv]
  · have hjl : j = ids.length := by
      have := of_decide_eq_false h
      omega
    subst hjl
    rw [List.take_length] at ht1
    have hcap : ys.length ≤ c := by
      rcases hr1.cases with ⟨_, _, hnil⟩ | ⟨g, cur, _, _, _, h1, _⟩
      · have : ys = [] := by simpa [iv] using hnil
        simp [this]
      · simpa [iv] using h1
    refine bn2_mk (by omega) (by omega) ?_
    rw [Int.toNat_natCast]
    have hiy : i ≤ (iv .i64 ys).length := by simp [iv]; omega
    have hly : (iv .i64 ys).length = ids.length := by simp [iv, hl1]
    have hcl := fun K hK => rn_clear (P := Tryd.prog) (t := 23) (ty := 0) (K := K) sI rfl hr1 hiy hK
    rw [hly] at hcl
    refine hcl _ ?_
    intro w2 hr2 hE2 hz2
    refine bn2_mk (by omega) (by omega) ?_
    have e2 : (iv .i64 ys).take i = iv .i64 (less ids id) := by rw [← ht1]; simp [iv, List.map_take]
    rw [e2] at hr2
    have e3 : i = (less ids id).length := by rw [← ht1]; simp; omega
    have := hK w2 hr2 (hx1.trans hE2) (by omega)
    rw [← e3] at this
    exact this
end Go.Proofs.YtamobmjfdiecbaaDoor
