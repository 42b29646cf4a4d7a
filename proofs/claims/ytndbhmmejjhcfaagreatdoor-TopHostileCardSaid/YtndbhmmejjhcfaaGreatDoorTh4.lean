/- Own texts of this claim, joined: walks and plain laws. Conditions: those of each theorem, on its arguments. -/
import Derived.Test.YtndbhmmejjhcfaaGreatDoorThMe
import Derived.Test.YtndbhmmejjhcfaaGreatDoorThMe8
import Derived.Test.YtndbhmmejjhcfaaGreatDoorThMe9
import Derived.Test.YtndbhmmejjhcfaaGreatDoorThMe10
import Derived.Test.YtndbhmmejjhcfaaGreatDoorTh1
import Derived.Laws.BytesArg
import Derived.Lib.Bytes
import Derived.Defers
import Derived.Recover
namespace Go.Proofs.YtndbhmmejjhcfaaGreatDoor
open Go Go.Sx Go.Cx Go.Proofs
noncomputable section
def glL : RowL := [gr0, gr1, gr2, gr10]
def gloRB (x : Nat × ARow) : Bool := Nat.blt x.1 14 && AV.lts 14 x.2.cells && Nat.beq x.2.s 0 && Nat.beq x.2.t 0 && x.2.m.isNone
theorem glosRB : glL.all gloRB = true := by kernel_rfl
structure Glob (w : World) : Prop where
  sz : 14 ≤ w.heap.size
  cell : ∀ x ∈ glL, ∀ (o : Nat) (v : AV), x.2.cells[o]? = some v → w.cell? ⟨x.1, o, none⟩ = some (v.g ⟨id, id⟩)
theorem rel0 {w : World} (h : Glob w) : Rel (Frm.all w) 14 ⟨id, id⟩ S0 w := by
  have hm : ∀ r R, S0.rows.get r = some R → (r, R) ∈ glL := fun r R hr => mkR_get hr
  have hb : ∀ r R, S0.rows.get r = some R → r < 14 ∧ AV.lts 14 R.cells = true ∧ R.s = 0 ∧ R.t = 0 ∧ R.m = none := fun r R hr => by
    have := List.all_eq_true.1 glosRB _ (hm r R hr)
    simp only [gloRB, Bool.and_eq_true, Option.isNone_iff_eq_none] at this
    obtain ⟨⟨⟨⟨h1, h2⟩, h3⟩, h4⟩, h5⟩ := this
    exact ⟨by simpa [Nat.blt_eq] using h1, h2, Nat.eq_of_beq_eq_true h3, Nat.eq_of_beq_eq_true h4, h5⟩
  refine ⟨⟨rfl, rfl, rfl, Nat.le_refl _, fun _ _ _ => rfl⟩, fun r hr => rfl, fun r R hr => ?_, fun r R hr hg => absurd (hb r R hr).1 (Nat.not_lt.2 hg), fun r r' R R' _ _ he => he, Nat.le_refl _, h.sz⟩
  obtain ⟨h1, h2, h3, h4, h5⟩ := hb r R hr
  refine ⟨h1, h2, ?_⟩
  unfold Lies
  rw [if_pos h3, h5]
  simp only
  rw [if_pos h4]
  exact ⟨Nat.lt_of_lt_of_le h1 h.sz, fun o v hv => h.cell _ (hm r R hr) o v hv⟩
theorem means_of {w : World} (h : Glob w) : cl Tryz.prog 4 #[] w fun v w' => v = .bool true ∧ Ext no w w' := by
  have hB := meB
  unfold isT at hB
  split at hB
  · rename_i S' hr
    have hc : ∀ F, CallsOk Tryz.prog F 14 (callE [e9, e10, e8]) := callE_of (fun x hx => by
      simp only [List.mem_cons, List.not_mem_nil, or_false] at hx
      rcases hx with rfl | rfl | rfl
      · exact ⟨_, runFn_of tabOk 3000 59, e9B⟩
      · exact ⟨_, runFn_of tabOk 3000 59, e10B⟩
      · exact ⟨_, runFn_of tabOk 3000 59, e8B⟩)
    obtain ⟨_, k2⟩ := runTop_of tabOk 300 hc (Frm.all w) 4 [] S0 _ _ hr ⟨id, id⟩ w (rel0 h) rfl
    refine cl_mono k2 ?_
    rintro v w' ⟨y', q1, _, _, _, rfl⟩
    exact ⟨rfl, Frm.all_ext q1.ext⟩
  · cases hB
end
end Go.Proofs.YtndbhmmejjhcfaaGreatDoor
namespace Go.Sx
open Go Go.RowKit
theorem asI_i {k : IntKind} {v : Value} {x : Int} {K : Int → Prop} (e : v = .int k x) (h : K x) : asI k v K := ⟨x, e, h⟩
theorem asB_i {v : Value} {x : Bool} {K : Bool → Prop} (e : v = .bool x) (h : K x) : asB v K := ⟨x, e, h⟩
theorem asP_i {v : Value} {x : Option Addr} {K : Option Addr → Prop} (e : v = .pointer x) (h : K x) : asP v K := ⟨x, e, h⟩
theorem asS_i {v : Value} {p : Option Addr} {n c : Nat} {K : Option Addr → Nat → Nat → Prop} (e : v = .slice p n c) (h : K p n c) : asS v K := ⟨p, n, c, e, h⟩
theorem asY_i {v : Value} {x : ByteArray} {K : ByteArray → Prop} (e : v = .string x) (h : K x) : asY v K := ⟨x, e, h⟩
theorem asM_i {v : Value} {x : Option Nat} {K : Option Nat → Prop} (e : v = .map x) (h : K x) : asM v K := ⟨x, e, h⟩
theorem asA_i {n : Nat} {v : Value} {l : List Value} {K : (Nat → Value) → Prop} (e : v = .agg l.toArray) (hl : l.length = n) (h : K (fun i => l.getD i undef)) : asA n v K := ⟨l, e, hl, h⟩
theorem asT_i {n : Nat} {v : Value} {l : List Value} {K : (Nat → Value) → Prop} (e : v = .tuple l.toArray) (hl : l.length = n) (h : K (fun i => l.getD i undef)) : asT n v K := ⟨l, e, hl, h⟩
theorem jn_of {K : List Value → World → Prop} {B : (List Value → World → Prop) → Prop} (R : List Value → World → Prop) (hK : ∀ s w, R s w → K s w)
    (hB : ∀ J : List Value → World → Prop, (∀ s w, R s w → J s w) → B J) : jn K B := hB K hK
theorem lv_i {x : Int} {K : Int → Prop} (h : K x) : lv x K := h
theorem dr_i {a : Addr} {K : Addr → Prop} (h : K a) : dr (some a) K := h
theorem hd_i {w : World} {a : Addr} {v : Value} {X : Prop} (h1 : w.cell? a = some v) (h : X) : hd w a v X := ⟨h1, h⟩
structure Row (w : World) (base : Nat) (e : TypeId) (p : Option Addr) (c : Nat) (xs : List Value) : Prop where
  own : w.ownsRow base e 1 (.slice p xs.length c) xs.length xs
def blocks (p : Option Addr) : Nat → Prop := fun k => ∃ a, p = some a ∧ a.block = k
def Moved (w : World) (p p' : Option Addr) : Prop := p' = p ∨ ∀ a, p' = some a → w.heap.size ≤ a.block
theorem Reads.new (w : World) (vs : List Value) (t : TypeId) : Reads (w.alloc (.cells vs.toArray t)) (some ⟨w.heap.size, 0, none⟩) vs := by
  refine .inr ⟨_, _, rfl, fun i v hv => ?_⟩
  rw [blk_cell (new_blk w _), Nat.zero_add]
  simpa using hv
def Apart (p q : Option Addr) : Prop := ∀ a b, p = some a → q = some b → a.block ≠ b.block
theorem Apart.symm {p q : Option Addr} (h : Apart p q) : Apart q p := fun a b ha hb => Ne.symm (h b a hb ha)
theorem Moved.apart {w : World} {p p' q : Option Addr} (h : Moved w p p') (ha : Apart p q) (hq : ∀ a, q = some a → a.block < w.heap.size) : Apart p' q := by
  rcases h with rfl | h
  · exact ha
  · intro a b hpa hqb
    have := h a hpa
    have := hq b hqb
    omega
section
variable {P : Program} {t ty e : TypeId} {i : TypeInfo} {z : Value}
theorem one_of {v : Value} (h : one v = true) : v.oneCell' = true := by cases v <;> simp_all [one, Value.oneCell']
theorem rn_makeN (ht : P.underlying t = some (.slice e)) (hi : P.info? e = some i) (hz : i.zero = some z) (hsize : i.size = 1) (hzs : z.cells = #[z])
    {w : World} {kl kc : IntKind} {n : Nat} (hbytes : i.bytes * n ≤ 281474976710656) (h63 : n ≤ maxLen) {K : Value → World → Prop}
    (hK : ∀ w', Row w' w.heap.size e (some ⟨w.heap.size, 0, none⟩) n (List.replicate n z) → Ext no w w' → K (.slice (some ⟨w.heap.size, 0, none⟩) n n) w') :
    rn P (Instr.makeSlice t (.int kl (n : Int)) (.int kc (n : Int))) w K := by
  obtain ⟨w', hr, h2, h3⟩ := run_make_full (P := P) w w.heap.size t e i z 1 ht hi hz hsize kl kc n hbytes h63 (Nat.le_refl _)
  rw [hzs, Nat.mul_one, toList_madeCells_one] at h2
  exact rn_mk hr (hK w' ⟨by simpa using h2⟩ ((Ext.of_grown h3).mono fun _ _ h => by simp at h))
end
structure SlT (P : Program) (t e : TypeId) (z : Value) (b : Nat) : Prop where
  und : P.underlying t = some (.slice e)
  inf : ∃ i, P.info? e = some i ∧ i.zero = some z ∧ i.size = 1 ∧ i.bytes = b
  cells : z.cells = #[z]
section
variable {P : Program} {t ty e : TypeId} {z : Value} {b : Nat}
theorem SlT.makeN (h : SlT P t e z b) {w : World} {kl kc : IntKind} {n : Nat} (hbytes : b * n ≤ 281474976710656) (h63 : n ≤ maxLen) {K : Value → World → Prop}
    (hK : ∀ w', Row w' w.heap.size e (some ⟨w.heap.size, 0, none⟩) n (List.replicate n z) → Ext no w w' → K (.slice (some ⟨w.heap.size, 0, none⟩) n n) w') :
    rn P (Instr.makeSlice t (.int kl (n : Int)) (.int kc (n : Int))) w K := by
  obtain ⟨i, hi, hz, hs, rfl⟩ := h.inf
  exact rn_makeN h.und hi hz hs h.cells hbytes h63 hK
end
theorem Reads.pre {w : World} {p : Option Addr} {xs ys : List Value} (h : Reads w p (xs ++ ys)) : Reads w p xs := by
  rcases h with h0 | ⟨b, o, rfl, hc⟩
  · exact .inl (List.append_eq_nil_iff.1 h0).1
  · exact .inr ⟨b, o, rfl, fun i v hv => hc i v (by rw [List.getElem?_append_left (List.getElem?_eq_some_iff.1 hv).1]; exact hv)⟩
theorem Reads.drop {w : World} {p : Option Addr} {c n : Nat} {xs : List Value} (h : Reads w p xs) (hc : xs.length ≤ c) : Reads w (slp p c n 1) (xs.drop n) := by
  by_cases h0 : xs.drop n = []
  · exact .inl h0
  · have hn : n < xs.length := by
      by_cases hh : n < xs.length
      · exact hh
      · exact absurd (List.drop_eq_nil_of_le (by omega)) h0
    rcases h with h | ⟨b, o, rfl, hx⟩
    · subst h; simp at hn
    · have : slp (some ⟨b, o, Option.none⟩) c n 1 = some ⟨b, o + n, Option.none⟩ := by
        unfold slp
        rw [if_neg (by omega), Nat.mul_one]
        simp [add_mk]
      rw [this]
      refine .inr ⟨b, o + n, rfl, fun i v hv => ?_⟩
      rw [List.getElem?_drop] at hv
      have := hx _ _ hv
      rw [← this]
      congr 2
      omega
def iv (k : IntKind) (zs : List Int) : List Value := zs.map (.int k)
theorem iv_get {k : IntKind} {zs : List Int} {i : Nat} (h : i < zs.length) : (iv k zs)[i]? = some (.int k (zs.getD i 0)) := by simp [iv, h]
def bv (bs : List Nat) : List Value := bs.map fun (b : Nat) => .int .u8 (b : Int)
theorem bv_length (bs : List Nat) : (bv bs).length = bs.length := by simp [bv]
theorem bv_one {bs : List Nat} : ∀ u ∈ bv bs, one u = true := by
  intro u hu
  simp only [bv, List.mem_map] at hu
  obtain ⟨b, _, rfl⟩ := hu
  rfl
theorem bv_get {bs : List Nat} {i : Nat} (h : i < bs.length) : (bv bs)[i]? = some (.int .u8 ((bs.getD i 0 : Nat) : Int)) := by
  simp [bv, h]
theorem bv_append (a b : List Nat) : bv (a ++ b) = bv a ++ bv b := by simp [bv]
def strB (bs : List Nat) : ByteArray := strOfNums (bs.map fun (b : Nat) => (b : Int))
theorem run_str {P : Program} {src dst e : TypeId} (hs : P.underlying src = some (.slice e)) (he : P.underlying e = some (.int .u8)) (hd : P.underlying dst = some .string)
    {w : World} {p : Option Addr} {n c : Nat} {bs : List Nat} (hr : Reads w p (bv bs)) (hn : bs.length = n) (hp : p = none → bs = []) :
    (convert src dst (.slice p n c)).run P w = .ok (.string (strB bs)) w := by
  subst hn
  rcases hr with h0 | ⟨b, o, rfl, hc⟩
  · have hb : bs = [] := by simpa [bv] using h0
    subst hb
    cases p with
    | none =>
      have := run_convert_bytes_nil (P := P) w src e hs he 0 c dst hd
      exact this
    | some a =>
      rw [run_convert_bytes_string w src dst e _ _ _ hs he hd]
      simp [Conv.bytesToString, strB, strOfNums, loadCells, loadCellsFrom]
      rfl
  · refine run_convert_bytes_arg (P := P) w src e hs he b o _ c (bs.map fun (x : Nat) => (x : Int)) (by simp) ?_ dst hd
    intro i hi
    have := hc i _ (bv_get hi)
    rw [this]
    congr 2
    simp [List.getD_eq_getElem?_getD, hi]
end Go.Sx
namespace Go.Sx
open Go Go.RowKit
structure St (w0 w : World) (L : List (Nat × List Value × TypeId)) : Prop where
  ext : Ext no w0 w
  kn : ∀ b ∈ L, w.heap[b.1]? = some (.cells b.2.1.toArray b.2.2 (0, 0)) ∧ w0.heap.size ≤ b.1
  nd : L.Pairwise fun a b => a.1 ≠ b.1
end Go.Sx
namespace Go.Sx
open Go Go.RowKit
structure RowN (w : World) (base : Nat) (e : TypeId) (s : Nat) (p : Option Addr) (c n : Nat) (xs : List Value) : Prop where
  own : w.ownsRow base e s (.slice p n c) n xs
theorem RowN.nil (w : World) (base : Nat) (e : TypeId) (s : Nat) : RowN w base e s none 0 0 [] := ⟨World.ownsRow_nil w base e s⟩
theorem RowN.len {w : World} {base : Nat} {e : TypeId} {s : Nat} {p : Option Addr} {c n : Nat} {xs : List Value} (h : RowN w base e s p c n xs) : xs.length = n * s := h.own.1
theorem RowN.mono {w : World} {base base' : Nat} {e : TypeId} {s : Nat} {p : Option Addr} {c n : Nat} {xs : List Value} (h : RowN w base e s p c n xs) (hb : base' ≤ base) : RowN w base' e s p c n xs := by
  refine ⟨h.own.1, ?_⟩
  rcases h.own.2 with hx | ⟨g, cap, cur, hv, hb', rest⟩
  · exact .inl hx
  · exact .inr ⟨g, cap, cur, hv, Nat.le_trans hb hb', rest⟩
theorem RowN.cases {w : World} {base : Nat} {e : TypeId} {s : Nat} {p : Option Addr} {c n : Nat} {xs : List Value} (h : RowN w base e s p c n xs) :
    (p = none ∧ c = 0 ∧ n = 0 ∧ xs = []) ∨ ∃ g cur, p = some ⟨g, 0, none⟩ ∧ base ≤ g ∧ w.heap[g]? = some (.cells cur e (0, 0)) ∧ n ≤ c ∧ c ≤ maxLen ∧ cur.size = c * s ∧ cur.toList.take (n * s) = xs := by
  rcases h.own.2 with ⟨hv, hn⟩ | ⟨g, cap, cur, hv, hb, hg, h1, h2, h3, h4⟩
  · simp only [Value.slice.injEq] at hv
    have hl := h.own.1
    rw [hn] at hl
    exact .inl ⟨hv.1, hv.2.2, hn, List.eq_nil_of_length_eq_zero (by simpa using hl)⟩
  · simp only [Value.slice.injEq, true_and] at hv
    obtain ⟨rfl, rfl⟩ := hv
    exact .inr ⟨g, cur, rfl, hb, hg, h1, h2, h3, h4⟩
theorem RowN.at {w : World} {base : Nat} {e : TypeId} {s : Nat} {p : Option Addr} {c n : Nat} {xs : List Value} (h : RowN w base e s p c n xs) {a : Addr} (hp : p = some a) : base ≤ a.block ∧ a.block < w.heap.size := by
  rcases h.cases with ⟨rfl, _⟩ | ⟨g, cur, rfl, hb, hg, _⟩
  · cases hp
  · cases hp; exact ⟨hb, blk_lt hg⟩
theorem RowN.none {w : World} {base : Nat} {e : TypeId} {s : Nat} {p : Option Addr} {c n : Nat} {xs : List Value} (h : RowN w base e s p c n xs) (hp : p = none) : n = 0 ∧ xs = [] := by
  rcases h.cases with ⟨_, _, h1, h2⟩ | ⟨g, cur, rfl, _⟩
  · exact ⟨h1, h2⟩
  · cases hp
theorem RowN.le_max {w : World} {base : Nat} {e : TypeId} {s : Nat} {p : Option Addr} {c n : Nat} {xs : List Value} (h : RowN w base e s p c n xs) : n ≤ c := by
  rcases h.cases with ⟨_, rfl, rfl, _⟩ | ⟨g, cur, rfl, _, _, h, _⟩
  · exact Nat.le_refl _
  · exact h
theorem RowN.reads {w : World} {base : Nat} {e : TypeId} {s : Nat} {p : Option Addr} {c n : Nat} {xs : List Value} (h : RowN w base e s p c n xs) : Reads w p xs := by
  rcases h.cases with ⟨_, _, _, rfl⟩ | ⟨g, cur, rfl, hb, hg, h1, h2, h3, h4⟩
  · exact .inl rfl
  · refine .inr ⟨g, 0, rfl, fun i v hv => ?_⟩
    rw [blk_cell hg, Nat.zero_add]
    rw [← h4, List.getElem?_take] at hv
    split at hv
    · simpa using hv
    · cases hv
theorem RowN.ext {M : Nat → Prop} {w w' : World} (hx : Ext M w w') {base : Nat} {e : TypeId} {s : Nat} {p : Option Addr} {c n : Nat} {xs : List Value} (h : RowN w base e s p c n xs)
    (hm : ∀ a, p = some a → ¬ M a.block) : RowN w' base e s p c n xs := by
  refine ⟨hx.own h.own fun g hg => ?_⟩
  cases p with
  | none => simp [Value.ownBlock] at hg
  | some a =>
    simp only [Value.ownBlock, Option.some.injEq] at hg
    exact hg ▸ hm a rfl
theorem RowN.keep {w w' : World} {q : Option Addr} (hx : Ext (blocks q) w w') {base : Nat} {e : TypeId} {s : Nat} {p : Option Addr} {c n : Nat} {xs : List Value} (h : RowN w base e s p c n xs) (ha : Apart p q) : RowN w' base e s p c n xs :=
  h.ext hx fun a hp ⟨b, hb, hab⟩ => ha a b hp hb hab.symm
theorem RowN.st {w : World} {base : Nat} {e : TypeId} {s : Nat} {p : Option Addr} {c n : Nat} {xs : List Value} (h : RowN w base e s p c n xs) {j : Nat} {u : Value} {K : World → Prop}
    (hj : j < xs.length) (ho : one u = true)
    (hK : ∀ w', RowN w' base e s p c n (xs.set j u) → Ext (blocks p) w w' → w'.heap.size = w.heap.size → K w') {a : Addr} (ha : p = some a) : Sx.st w (Addr.add a j) u K := by
  rcases h.cases with ⟨_, _, _, rfl⟩ | ⟨g, cur, rfl, hb, hg, h1, h2, h3, h4⟩
  · simp at hj
  · cases ha
    have hlen := h.len
    have hcn : n * s ≤ c * s := Nat.mul_le_mul_right _ h1
    rw [add_mk, Nat.zero_add]
    refine st_mk hg (by omega) ho (hK _ ?_ ((Ext.set w ⟨g, j, Option.none⟩ u).mono fun k _ hk => ⟨_, rfl, hk.symm⟩) (by simp [World.setCell]))
    refine ⟨by simpa using hlen, .inr ⟨g, c, cur.setIfInBounds j u, rfl, hb, blk_set hg _ _, h1, h2, by simpa using h3, ?_⟩⟩
    simp only [Array.toList_setIfInBounds]
    rw [List.take_set, h4]
structure SlN (P : Program) (t e : TypeId) (s b : Nat) : Prop where
  und : P.underlying t = some (.slice e)
  inf : ∃ i z, P.info? e = some i ∧ i.zero = some z ∧ z.cells.size = s ∧ i.size = s ∧ i.bytes = b
  pos : 0 < s
section
variable {P : Program} {t ty e : TypeId} {s b : Nat}
theorem SlN.app (ht : SlN P t e s b)
    {w : World} {base : Nat} {p : Option Addr} {n c : Nat} {xs : List Value} (hown : RowN w base e s p c n xs) (hbase : base ≤ w.heap.size)
    {q : Option Addr} {m c' : Nat} {news : List Value} (hsrc : Reads w q news) (hm : news.length = m * s) (hq : q = none → m = 0) (h1 : ∀ u ∈ news, one u = true)
    (h63 : n + m ≤ maxLen) (hbytes : (n + m) * b ≤ 140737488355328) {K : Value → World → Prop}
    (hK : ∀ p' c'' w', RowN w' base e s p' c'' (n + m) (xs ++ news) → Ext (blocks p) w w' → Moved w p p' → (p' = none → n + m = 0) → K (.slice p' (n + m) c'') w') :
    rn P (Builtin.append_ #[t, t] ty #[.slice p n c, .slice q m c']) w K := by
  obtain ⟨i, z, hi, hz, hzs, hs, rfl⟩ := ht.inf
  have hsp := ht.pos
  have ho := hown.own
  have h1' : ∀ u ∈ news, u.oneCell' = true := fun u hu => one_of (h1 u hu)
  have hE : ∀ {w' : World} {r : Option Nat}, w.grownBy w' r → (∀ k, r = some k → blocks p k) → Ext (blocks p) w w' := fun hg hr =>
    (Ext.of_grown hg).mono fun k _ hk => hr k hk.symm
  by_cases h0 : news = []
  · have hm0 : m = 0 := by
      rw [h0, List.length_nil] at hm
      rcases Nat.mul_eq_zero.1 hm.symm with h | h
      · exact h
      · omega
    subst hm0
    subst h0
    have hr : (Builtin.append_ #[t, t] ty #[.slice p n c, .slice q 0 c']).run P w = .ok (.slice p n c) w := by
      rcases hown.cases with ⟨rfl, rfl, rfl, rfl⟩ | ⟨g, cur, rfl, _, _, hc, _⟩
      · cases q <;> simp [Builtin.append_, run_underlying ht.und, sizeOf, typeInfo, hi, Builtin.lenOf, Builtin.firstCells, loadCells, loadCellsFrom]
      · cases q <;> simp [Builtin.append_, run_underlying ht.und, sizeOf, typeInfo, hi, Builtin.lenOf, Builtin.firstCells, hc, storeCells, loadCells, loadCellsFrom]
    refine rn_mk hr ?_
    exact hK p c w (by simpa using hown) (Ext.refl _ _) (.inl rfl) fun hp => by simpa using (hown.none hp).1
  · rcases hsrc with h | ⟨b', o', rfl, hc⟩
    · exact absurd h h0
    have hnews : ∀ j u, news[j]? = some u → w.cell? ((⟨b', o', none⟩ : Addr).add j) = some u := by
      intro j u hu
      rw [add_mk]; exact hc j u hu
    have hmpos : 0 < m := by
      rcases Nat.eq_zero_or_pos m with h | h
      · rw [h] at hm
        exact absurd (List.eq_nil_of_length_eq_zero (by simpa using hm)) h0
      · exact h
    rcases hown.cases with ⟨rfl, rfl, rfl, rfl⟩ | ⟨g, cur, rfl, hbg, hg, hnc, hcm, hcs, htake⟩
    · have hnil : w.ownsRow w.heap.size e s (.slice none 0 0) 0 [] := World.ownsRow_nil w _ e s
      obtain ⟨v', w', hr, h2, h3, h4⟩ := run_append_own (P := P) w w.heap.size t ty e i z s i.bytes ht.und hi hz hs rfl hzs hsp (.slice none 0 0) 0 [] hnil ⟨b', o', none⟩ m c' news hm hnews h1' h63 hbytes (Nat.le_refl _)
      rcases h2.2 with ⟨_, hx⟩ | ⟨g, cap, cur, rfl, hb, _⟩
      · omega
      refine rn_mk hr ?_
      have hrow : RowN w' w.heap.size e s (some ⟨g, 0, none⟩) cap (0 + m) ([] ++ news) := ⟨h2⟩
      exact hK _ cap w' (hrow.mono hbase) (hE h3 (by simp [Value.ownBlock])) (.inr fun a ha => (hrow.at ha).1) (fun hp => by cases hp)
    · by_cases hroom : n + m ≤ c
      · obtain ⟨w', hr, h2, h3⟩ := run_append_fits (P := P) w base t ty e i s ht.und hi hs g n c xs ho ⟨b', o', none⟩ m c' news hm hnews h1' hroom
        exact rn_mk hr (hK _ c w' ⟨h2⟩ (hE h3 fun k hk => ⟨_, rfl, by simpa using hk⟩) (.inl rfl) (by simp))
      · have holds : ∀ j u, xs[j]? = some u → w.cell? ((⟨g, 0, none⟩ : Addr).add j) = some u := by
          intro j u hu
          rcases hown.reads with h | ⟨b2, o2, h, hc2⟩
          · rw [h] at hu; simp at hu
          · cases h; rw [add_mk]; exact hc2 j u hu
        obtain ⟨v', w', hr, h2, h3⟩ := run_append_arg_grows (P := P) w t ty e i z s i.bytes ht.und hi hz hs rfl hzs hsp ⟨g, 0, none⟩ n c xs hown.len holds ⟨b', o', none⟩ m c' news hm hnews (by omega) h63 hbytes
        rcases h2.2 with ⟨_, hx⟩ | ⟨g', cap, cur', rfl, hb, _⟩
        · omega
        have hrow : RowN w' w.heap.size e s (some ⟨g', 0, none⟩) cap (n + m) (xs ++ news) := ⟨h2⟩
        exact rn_mk hr (hK _ cap w' (hrow.mono hbase) (hE h3 (by simp)) (.inr fun a ha => (hrow.at ha).1) (fun hp => by cases hp))
theorem SlN.app1 (ht : SlN P t e s b)
    {w : World} {base : Nat} {p : Option Addr} {n c : Nat} {xs : List Value} (hown : RowN w base e s p c n xs) (hbase : base ≤ w.heap.size)
    {vs : List Value} {t' : TypeId} (hv : vs.length = s) (h1 : ∀ u ∈ vs, one u = true)
    (h63 : n + 1 ≤ maxLen) (hbytes : (n + 1) * b ≤ 140737488355328) {K : Value → World → Prop}
    (hK : ∀ p' c'' w', RowN w' base e s p' c'' (n + 1) (xs ++ vs) → Ext (blocks p) w w' → Moved w p p' → K (.slice p' (n + 1) c'') w') :
    nw w (.cells vs.toArray t') fun r w1 => rn P (Builtin.append_ #[t, t] ty #[.slice p n c, .slice (some ⟨r, 0, none⟩) 1 1]) w1 K := by
  have hx : Ext no w (w.alloc (.cells vs.toArray t')) := Ext.alloc w _
  refine ht.app (hown.ext hx fun _ _ h => h) (Nat.le_trans hbase hx.size) (Reads.new w vs t') (by simpa using hv) (fun h => by cases h) h1 h63 hbytes ?_
  intro p' c'' w' hr hE hmv _
  refine hK p' c'' w' hr ((Ext.of_no hx).then hE fun k _ hk => hk) ?_
  rcases hmv with h | h
  · exact .inl h
  · exact .inr fun a ha => Nat.le_trans hx.size (h a ha)
theorem SlN.make0 (ht : SlN P t e s b)
    {w : World} {kl kc : IntKind} {c : Nat} (hbytes : b * c ≤ 281474976710656) (h63 : c ≤ maxLen) {K : Value → World → Prop}
    (hK : ∀ w', RowN w' w.heap.size e s (some ⟨w.heap.size, 0, none⟩) c 0 [] → Ext no w w' → K (.slice (some ⟨w.heap.size, 0, none⟩) 0 c) w') :
    rn P (Instr.makeSlice t (.int kl 0) (.int kc (c : Int))) w K := by
  obtain ⟨i, z, hi, hz, hzs, hs, rfl⟩ := ht.inf
  obtain ⟨w', hr, h2, h3⟩ := run_make_own (P := P) w w.heap.size t e i z s ht.und hi hz hs kl kc c hbytes h63 (Nat.le_refl _)
  exact rn_mk hr (hK w' ⟨h2⟩ ((Ext.of_grown h3).mono fun _ _ h => by simp at h))
end
theorem fl_lenN {α : Type} {f : α → List Value} {s : Nat} (hf : ∀ x, (f x).length = s) : ∀ l : List α, (l.flatMap f).length = l.length * s
  | [] => by simp
  | x :: l => by
    rw [List.flatMap_cons, List.length_append, hf, fl_lenN hf l, List.length_cons, Nat.add_mul, Nat.one_mul, Nat.add_comm]
theorem fl_getN {α : Type} {f : α → List Value} {s : Nat} (hf : ∀ x, (f x).length = s) : ∀ {l : List α} {i : Nat} {x : α}, l[i]? = some x → ∀ k, k < s → (l.flatMap f)[i * s + k]? = (f x)[k]?
  | [], _, _, h, _, _ => by simp at h
  | y :: l, 0, x, h, k, hk => by
    simp only [List.getElem?_cons_zero, Option.some.injEq] at h
    subst h
    rw [List.flatMap_cons, Nat.zero_mul, Nat.zero_add, List.getElem?_append_left (by rw [hf]; exact hk)]
  | y :: l, i + 1, x, h, k, hk => by
    rw [List.flatMap_cons, List.getElem?_append_right (by rw [hf, Nat.add_mul]; omega), hf]
    have e : (i + 1) * s + k - s = i * s + k := by rw [Nat.add_mul]; omega
    rw [e]
    exact fl_getN hf (by simpa using h) k hk
theorem Reads.atN {α : Type} {f : α → List Value} {s : Nat} (hf : ∀ x, (f x).length = s) {w : World} {p : Option Addr} {l : List α} (hr : Reads w p (l.flatMap f)) {i n : Nat} (hn : l.length = n) {x : α} (hx : l[i]? = some x) (hs : 0 < s) {K : Addr → Prop}
    (hK : ∀ a, p = some a → (∀ k, k < s → w.cell? (Addr.add (Addr.add a (i * s)) k) = (f x)[k]?) → K a) :
    dr p fun a => bnd (i : Int) n (K a) := by
  have hi : i < l.length := (List.getElem?_eq_some_iff.1 hx).1
  rcases hr with h | ⟨b, o, rfl, hc⟩
  · have := fl_lenN hf l
    rw [h] at this
    have h2 : 0 < l.length * s := Nat.mul_pos (by omega) hs
    simp only [List.length_nil] at this
    omega
  · refine dr_i (bnd_mk (by omega) (by omega) (hK _ rfl fun k hk => ?_))
    rw [add_mk, add_mk]
    have h1 := fl_getN hf hx k hk
    have h2 : k < (f x).length := by rw [hf]; exact hk
    rw [List.getElem?_eq_getElem h2] at h1 ⊢
    rw [Nat.add_assoc]
    exact hc _ _ h1
end Go.Sx
namespace Go.Sx
open Go Go.RowKit
structure Rw where
  e : TypeId
  s : Nat
  p : Option Addr
  c : Nat
  n : Nat
  xs : List Value
def Rw.ok (r : Rw) (w : World) (b : Nat) : Prop := RowN w b r.e r.s r.p r.c r.n r.xs
abbrev bk (t : TypeId) (q : Nat) (cs : List Value) : Rw := ⟨t, cs.length, some ⟨q, 0, none⟩, 1, 1, cs⟩
structure Hs (w0 w : World) (Rs : List Rw) : Prop where
  ext : Ext no w0 w
  row : ∀ r ∈ Rs, r.ok w w0.heap.size
  sep : Rs.Pairwise fun a b => Apart a.p b.p
theorem pw_ne {α : Type} {R : α → α → Prop} (hs : ∀ a b, R a b → R b a) {l : List α} (h : l.Pairwise R) {i j : Nat} (hij : i ≠ j) {a b : α} (hi : l[i]? = some a) (hj : l[j]? = some b) : R a b := by
  obtain ⟨h1, rfl⟩ := List.getElem?_eq_some_iff.1 hi
  obtain ⟨h2, rfl⟩ := List.getElem?_eq_some_iff.1 hj
  rcases Nat.lt_or_gt_of_ne hij with h3 | h3
  · exact List.pairwise_iff_getElem.1 h i j h1 h2 h3
  · exact hs _ _ (List.pairwise_iff_getElem.1 h j i h2 h1 h3)
theorem pw_set {α : Type} {R : α → α → Prop} {a' : α} : ∀ {l : List α} {i : Nat} {a : α}, l.Pairwise R → l[i]? = some a → (∀ b ∈ l, R a b → R a' b) → (∀ b ∈ l, R b a → R b a') → (l.set i a').Pairwise R
  | [], _, _, h, _, _, _ => h
  | x :: xs, 0, a, h, hi, h1, _ => by
    simp only [List.getElem?_cons_zero, Option.some.injEq] at hi
    subst hi
    have hp := List.pairwise_cons.1 h
    exact List.Pairwise.cons (fun b hb => h1 b (List.mem_cons_of_mem _ hb) (hp.1 b hb)) hp.2
  | x :: xs, i + 1, a, h, hi, h1, h2 => by
    have hi' : xs[i]? = some a := by simpa using hi
    have hp := List.pairwise_cons.1 h
    refine List.Pairwise.cons (fun b hb => ?_) (pw_set hp.2 hi' (fun b hb => h1 b (List.mem_cons_of_mem _ hb)) (fun b hb => h2 b (List.mem_cons_of_mem _ hb)))
    rcases List.mem_or_eq_of_mem_set hb with hb | rfl
    · exact hp.1 b hb
    · exact h2 x List.mem_cons_self (hp.1 a (List.mem_of_getElem? hi'))
section
variable {w0 w w' : World} {Rs : List Rw} {r r' : Rw}
theorem Hs.start (w : World) : Hs w w [] := ⟨Ext.refl _ _, by simp, List.Pairwise.nil⟩
theorem Hs.le (h : Hs w0 w Rs) : w0.heap.size ≤ w.heap.size := h.ext.size
theorem Hs.to (h : Hs w0 w Rs) (hx : Ext no w w') : Hs w0 w' Rs := ⟨h.ext.trans hx, fun r hr => (h.row r hr).ext hx fun _ _ h => h, h.sep⟩
theorem Hs.dw (h : Hs w0 w Rs) {K : World → Prop} (hK : ∀ w', Hs w0 w' Rs → K w') : Sx.dw w K := hK w.drew (h.to (Ext.drew w))
theorem Hs.lt (h : Hs w0 w Rs) (hr : r ∈ Rs) {a : Addr} (ha : r.p = some a) : w0.heap.size ≤ a.block ∧ a.block < w.heap.size := (h.row r hr).at ha
theorem Hs.sub (h : Hs w0 w Rs) {Rs' : List Rw} (hs : Rs'.Sublist Rs) : Hs w0 w Rs' := ⟨h.ext, fun r hr => h.row r (hs.subset hr), h.sep.sublist hs⟩
theorem Hs.tail (h : Hs w0 w (r :: Rs)) : Hs w0 w Rs := h.sub (List.sublist_cons_self _ _)
theorem Hs.drop (h : Hs w0 w Rs) (n : Nat) : Hs w0 w (Rs.drop n) := h.sub (List.drop_sublist _ _)
theorem Hs.perm (h : Hs w0 w Rs) {Rs' : List Rw} (hp : Rs'.Perm Rs) : Hs w0 w Rs' :=
  ⟨h.ext, fun r hr => h.row r (hp.subset hr), (hp.pairwise_iff fun h => Apart.symm h).2 h.sep⟩
theorem Hs.rd (h : Hs w0 w Rs) (hr : r ∈ Rs) : Reads w r.p r.xs := (h.row r hr).reads
theorem Hs.old (h : Hs w0 w Rs) {p : Option Addr} {xs : List Value} (hr : Reads w0 p xs) : Reads w p xs := hr.ext h.ext fun _ _ h => h
theorem Hs.in2 {x a b : Rw} (h : Hs w0 w (x :: a :: b :: Rs)) : Hs w0 w (a :: b :: x :: Rs) := h.perm (List.perm_middle (l₁ := [a, b]))
theorem Hs.out2 {x a b : Rw} (h : Hs w0 w (a :: b :: x :: Rs)) : Hs w0 w (x :: a :: b :: Rs) := h.perm (List.perm_middle (l₁ := [a, b])).symm
theorem Hs.push (h : Hs w0 w Rs) (hx : Ext no w w') (hr : r.ok w' w.heap.size) : Hs w0 w' (r :: Rs) := by
  have h' := h.to hx
  refine ⟨h'.ext, fun b hb => ?_, List.Pairwise.cons (fun b hb x y hx' hy => ?_) h'.sep⟩
  · rcases List.mem_cons.1 hb with rfl | hb
    · exact RowN.mono hr h.le
    · exact h'.row b hb
  · have h1 := (RowN.at hr hx').1
    have h2 := (h.lt hb hy).2
    omega
theorem Hs.over (h : Hs w0 w Rs) {Ts : List Rw} (k : Hs w w' Ts) : Hs w0 w' (Ts ++ Rs) := by
  have h' := h.to k.ext
  refine ⟨h'.ext, fun b hb => ?_, List.pairwise_append.2 ⟨k.sep, h'.sep, fun a ha b hb x y hx hy => ?_⟩⟩
  · rcases List.mem_append.1 hb with hb | hb
    · exact RowN.mono (k.row b hb) h.le
    · exact h'.row b hb
  · have h1 := (k.lt ha hx).1
    have h2 := (h.lt hb hy).2
    omega
theorem Hs.put (h : Hs w0 w Rs) {i : Nat} (hi : Rs[i]? = some r) (hx : Ext (blocks r.p) w w') (hr : r'.ok w' w0.heap.size) (hm : Moved w r.p r'.p) : Hs w0 w' (Rs.set i r') := by
  have hmem := List.mem_of_getElem? hi
  refine ⟨h.ext.then hx fun k hk hb => ?_, fun b hb => ?_, pw_set h.sep hi (fun b hb ha => hm.apart ha fun a ha => (h.lt hb ha).2) fun b hb ha => (hm.apart ha.symm fun a ha => (h.lt hb ha).2).symm⟩
  · obtain ⟨a, ha, rfl⟩ := hb
    have := (h.lt hmem ha).1
    omega
  · obtain ⟨j, hj⟩ := List.getElem?_of_mem hb
    by_cases hji : j = i
    · subst hji
      rw [List.getElem?_set_self (List.getElem?_eq_some_iff.1 hi).1] at hj
      cases hj
      exact hr
    · rw [List.getElem?_set_ne (fun e => hji e.symm)] at hj
      exact RowN.keep hx (h.row b (List.mem_of_getElem? hj)) (pw_ne (fun _ _ => Apart.symm) h.sep hji hj hi)
theorem Hs.nwN (h : Hs w0 w Rs) {cs : List Value} {t : TypeId} (n s : Nat) (hl : cs.length = n * s) (hn : n ≤ maxLen) {K : Nat → World → Prop}
    (hK : ∀ q w', Hs w0 w' (⟨t, s, some ⟨q, 0, none⟩, n, n, cs⟩ :: Rs) → K q w') : nw w (.cells cs.toArray t) K := by
  refine nw_mk (hK _ _ (h.push (Ext.alloc w _) ⟨?_⟩))
  have := World.ownsRow_lit (base := w.heap.size) (e := t) (size := s) w cs.toArray n (Nat.le_refl _) hn (by simpa using hl)
  simpa using this
theorem Hs.nw (h : Hs w0 w Rs) {cs : List Value} {t : TypeId} {K : Nat → World → Prop} (hK : ∀ q w', Hs w0 w' (bk t q cs :: Rs) → K q w') : Sx.nw w (.cells cs.toArray t) K :=
  h.nwN 1 cs.length (by simp) (by decide) hK
theorem Hs.cell (h : Hs w0 w Rs) (hr : r ∈ Rs) {b j : Nat} (hp : r.p = some ⟨b, 0, none⟩) {v : Value} (hv : r.xs[j]? = some v) : w.cell? ⟨b, j, none⟩ = some v := by
  rcases h.rd hr with h0 | ⟨b', o, h1, hc⟩
  · rw [h0] at hv; simp at hv
  · rw [hp] at h1
    cases h1
    have := hc j v hv
    rwa [Nat.zero_add] at this
theorem Hs.oc (h : Hs w0 w Rs) {a : Addr} {v : Value} (hc : w0.cell? a = some v) : w.cell? a = some v := h.ext.cell hc fun h => h
class Ad (a : Addr) (b j : outParam Nat) : Prop where
  e : a = ⟨b, j, none⟩
instance Ad.i0 {b j : Nat} : Ad ⟨b, j, none⟩ b j := ⟨rfl⟩
instance Ad.i1 {a : Addr} {b j n : Nat} [h : Ad a b j] : Ad (Addr.add a n) b (j + n) := ⟨by rw [h.e, add_mk]⟩
class Fd (Rs : List Rw) (p : Option Addr) (i e s c n : outParam Nat) (xs : outParam (List Value)) : Prop where
  g : Rs[i]? = some ⟨e, s, p, c, n, xs⟩
instance (priority := high) Fd.i0 {e : TypeId} {s : Nat} {p : Option Addr} {c n : Nat} {xs : List Value} {Rs : List Rw} : Fd (⟨e, s, p, c, n, xs⟩ :: Rs) p 0 e s c n xs := ⟨rfl⟩
instance Fd.i1 {x : Rw} {Rs : List Rw} {p : Option Addr} {i e s c n : Nat} {xs : List Value} [h : Fd Rs p i e s c n xs] : Fd (x :: Rs) p (i + 1) e s c n xs := ⟨by simpa using h.g⟩
class Up (Rs : List Rw) (i : Nat) (f : outParam (Rw → List Rw)) : Prop where
  e : ∀ r, Rs.set i r = f r
instance Up.i0 {x : Rw} {Rs : List Rw} : Up (x :: Rs) 0 (fun r => r :: Rs) := ⟨fun _ => rfl⟩
instance Up.i1 {x : Rw} {Rs : List Rw} {i : Nat} {f : Rw → List Rw} [h : Up Rs i f] : Up (x :: Rs) (i + 1) (fun r => x :: f r) := ⟨fun r => by rw [List.set_cons_succ, h.e]⟩
section
variable {a : Addr} {b j i : Nat} {v : Value} {f : Rw → List Rw} {p : Option Addr} {e : TypeId} {s c n : Nat} {xs : List Value}
theorem Hs.cel (h : Hs w0 w Rs) [ha : Ad a b j] [hf : Fd Rs (some ⟨b, 0, none⟩) i e s c n xs] (hv : xs[j]? = some v) : w.cell? a = some v := by
  rw [ha.e]; exact h.cell (List.mem_of_getElem? hf.g) rfl hv
theorem Hs.l (h : Hs w0 w Rs) [Ad a b j] [Fd Rs (some ⟨b, 0, none⟩) i e s c n xs] (hv : xs[j]? = some v) {K : Value → Prop} (hK : K v) : ld w a K := ld_mk (h.cel hv) hK
theorem Hs.hd (h : Hs w0 w Rs) [Ad a b j] [Fd Rs (some ⟨b, 0, none⟩) i e s c n xs] (hv : xs[j]? = some v) {X : Prop} (hX : X) : Sx.hd w a v X := ⟨h.cel hv, hX⟩
theorem Hs.sx (h : Hs w0 w Rs) [ha : Ad a b j] [hf : Fd Rs (some ⟨b, 0, none⟩) i e s c n xs] [hu : Up Rs i f] (hj : j < xs.length) (h1 : one v = true) {K : World → Prop}
    (hK : ∀ w', Hs w0 w' (f ⟨e, s, some ⟨b, 0, none⟩, c, n, xs.set j v⟩) → K w') : st w a v K := by
  have := RowN.st (h.row _ (List.mem_of_getElem? hf.g)) (j := j) (u := v) (K := K) hj h1 (fun w' hr hx _ => hK w' (hu.e _ ▸ h.put (r' := ⟨e, s, some ⟨b, 0, none⟩, c, n, xs.set j v⟩) hf.g hx hr (.inl rfl))) rfl
  rw [add_mk, Nat.zero_add] at this
  rw [ha.e]
  exact this
theorem Hs.sb (h : Hs w0 w Rs) [Ad a b j] [Fd Rs (some ⟨b, 0, none⟩) i e s c n xs] [Up Rs i f] (hj : Nat.blt j xs.length = true) (h1 : one v = true) {K : World → Prop}
    (hK : ∀ w', Hs w0 w' (f ⟨e, s, some ⟨b, 0, none⟩, c, n, xs.set j v⟩) → K w') : st w a v K := h.sx (by simpa [Nat.blt_eq] using hj) h1 hK
theorem Hs.ix (h : Hs w0 w Rs) (p : Option Addr) [hf : Fd Rs p i e s c n xs] {x : Int} {k m : Nat} (hx : x = (k : Int)) (hk : k < n) (hn : n = m) {K : Addr → Prop}
    (hK : ∀ b, p = some ⟨b, 0, none⟩ → (∀ m v, xs[m]? = some v → w.cell? ⟨b, m, none⟩ = some v) → K ⟨b, 0, none⟩) : dr p fun a => bnd x m (K a) := by
  have hr := h.row _ (List.mem_of_getElem? hf.g)
  subst hx hn
  rcases RowN.cases hr with ⟨_, _, h0, _⟩ | ⟨g, cur, hp, hb, hg, h1, h2, h3, h4⟩
  · simp only at h0; omega
  · simp only at hp
    subst hp
    exact dr_i (bnd_mk (by omega) (by omega) (hK g rfl fun m v hv => h.cell (List.mem_of_getElem? hf.g) rfl hv))
theorem Hs.ixs (h : Hs w0 w Rs) (i : Nat) (hi : Rs[i]? = some ⟨e, s, p, c, n, xs⟩) {x : Int} {k m : Nat} (hx : x = (k : Int)) (hk : k < n) (hn : n = m) {K : Addr → Prop}
    (hK : ∀ b, p = some ⟨b, 0, none⟩ → (∀ m v, xs[m]? = some v → w.cell? ⟨b, m, none⟩ = some v) →
      (∀ j v (K' : World → Prop), j < xs.length → one v = true → (∀ w', Hs w0 w' (Rs.set i ⟨e, s, p, c, n, xs.set j v⟩) → K' w') → st w ⟨b, j, none⟩ v K') → K ⟨b, 0, none⟩) : dr p fun a => bnd x m (K a) := by
  have hr := h.row _ (List.mem_of_getElem? hi)
  subst hx hn
  rcases RowN.cases hr with ⟨_, _, h0, _⟩ | ⟨g, cur, hp, hb, hg, h1, h2, h3, h4⟩
  · simp only at h0; omega
  · simp only at hp
    subst hp
    refine dr_i (bnd_mk (by omega) (by omega) (hK g rfl (fun m v hv => h.cell (List.mem_of_getElem? hi) rfl hv) fun j v K' hj h1 hK' => ?_))
    have := RowN.st hr (j := j) (u := v) (K := K') hj h1 (fun w' hr hx _ => hK' w' (h.put (r' := ⟨e, s, some ⟨g, 0, none⟩, c, n, xs.set j v⟩) hi hx hr (.inl rfl))) rfl
    rwa [add_mk, Nat.zero_add] at this
theorem Hs.cut (h : Hs w0 w Rs) (p : Option Addr) [hf : Fd Rs p i e s c n xs] (k : Nat) [hu : Up Rs i f] (hk : k ≤ n) : Hs w0 w (f ⟨e, s, p, c, k, xs.take (k * s)⟩) := by
  have hr := h.row _ (List.mem_of_getElem? hf.g)
  have hks : k * s ≤ n * s := Nat.mul_le_mul_right _ hk
  have hl : xs.length = n * s := RowN.len hr
  refine hu.e _ ▸ h.put (r' := ⟨e, s, p, c, k, xs.take (k * s)⟩) hf.g (Ext.refl _ _) ⟨⟨?_, ?_⟩⟩ (.inl rfl)
  · simp only [List.length_take]; omega
  rcases RowN.cases hr with ⟨h1, h2, h3, h4⟩ | ⟨g, cur, hp, hb, hg, h1, h2, h3, h4⟩
  · simp only at h1 h2 h3
    exact .inl ⟨by simp only [h1, h2]; congr 1; omega, by simp only; omega⟩
  · simp only at hp h1 h2 h3 h4
    refine .inr ⟨g, c, cur, by simp [hp], hb, hg, by simp only; omega, h2, h3, ?_⟩
    simp only
    rw [← h4, List.take_take, Nat.min_eq_left hks]
variable {P : Program} {t ty : TypeId} {b' : Nat}
theorem Hs.app1 (ht : SlN P t e s b') (h : Hs w0 w Rs) [hf : Fd Rs p i e s c n xs] [hu : Up Rs i f] {vs : List Value} {t' : TypeId} (hv : vs.length = s) (h1 : ∀ u ∈ vs, one u = true)
    (hn : (n + 1) * b' ≤ 140737488355328) (h63 : n + 1 ≤ maxLen) {K : Value → World → Prop} (hK : ∀ g c' w', Hs w0 w' (f ⟨e, s, some ⟨g, 0, none⟩, c', n + 1, xs ++ vs⟩) → K (.slice (some ⟨g, 0, none⟩) (n + 1) c') w') :
    Sx.nw w (.cells vs.toArray t') fun r w1 => rn P (Builtin.append_ #[t, t] ty #[.slice p n c, .slice (some ⟨r, 0, none⟩) 1 1]) w1 K :=
  ht.app1 (h.row _ (List.mem_of_getElem? hf.g)) h.le hv h1 h63 hn fun p' c' w' hr hE hm => by
    rcases hr.cases with ⟨_, _, h0, _⟩ | ⟨g, _, h0, _⟩
    · omega
    · subst h0
      exact hK g c' w' (hu.e _ ▸ h.put (r' := ⟨e, s, some ⟨g, 0, Option.none⟩, c', n + 1, xs ++ vs⟩) hf.g hE hr hm)
theorem Hs.app (ht : SlN P t e s b') (h : Hs w0 w Rs) [hf : Fd Rs p i e s c n xs] [hu : Up Rs i f] {q : Option Addr} {m c' : Nat} {news : List Value} (hs : Reads w q news) (hm : news.length = m * s)
    (hq : q = none → m = 0) (h1 : ∀ u ∈ news, one u = true) (hn : (n + m) * b' ≤ 140737488355328) (h63 : n + m ≤ maxLen) {K : Value → World → Prop} (hK : ∀ p' c'' w', Hs w0 w' (f ⟨e, s, p', c'', n + m, xs ++ news⟩) → (p' = none → n + m = 0) → K (.slice p' (n + m) c'') w') :
    rn P (Builtin.append_ #[t, t] ty #[.slice p n c, .slice q m c']) w K :=
  ht.app (h.row _ (List.mem_of_getElem? hf.g)) h.le hs hm hq h1 h63 hn fun p' c'' w' hr hE hmv hp => hK p' c'' w' (hu.e _ ▸ h.put (r' := ⟨e, s, p', c'', n + m, xs ++ news⟩) hf.g hE hr hmv) hp
theorem Hs.appT (ht : SlN P t e s b') {t' : TypeId} {s' : Nat} {q c' : Nat} {vs : List Value} (h : Hs w0 w (⟨t', s', some ⟨q, 0, none⟩, c', 1, vs⟩ :: Rs)) [hf : Fd Rs p i e s c n xs] [hu : Up Rs i f] (hv : vs.length = s) (h1 : ∀ u ∈ vs, one u = true)
    (hn : (n + 1) * b' ≤ 140737488355328) (h63 : n + 1 ≤ maxLen) {K : Value → World → Prop} (hK : ∀ g c'' w', Hs w0 w' (f ⟨e, s, some ⟨g, 0, none⟩, c'', n + 1, xs ++ vs⟩) → K (.slice (some ⟨g, 0, none⟩) (n + 1) c'') w') :
    rn P (Builtin.append_ #[t, t] ty #[.slice p n c, .slice (some ⟨q, 0, none⟩) 1 1]) w K :=
  ht.app (h.tail.row _ (List.mem_of_getElem? hf.g)) h.le (h.rd (r := ⟨t', s', some ⟨q, 0, none⟩, c', 1, vs⟩) List.mem_cons_self) (m := 1) (by simpa using hv) (by simp) h1 h63 hn fun p' c'' w' hr hE hmv hp => by
    rcases hr.cases with ⟨h0, _⟩ | ⟨g, _, h0, _⟩
    · have := hp h0; omega
    · subst h0
      exact hK g c'' w' (hu.e _ ▸ h.tail.put (r' := ⟨e, s, some ⟨g, 0, Option.none⟩, c'', n + 1, xs ++ vs⟩) hf.g hE hr hmv)
theorem fl_at {α : Type} {c : α → List Value} {s : Nat} (hc : ∀ x, (c x).length = s) {l : List α} {x : α} {j : Nat} {v : Value} (h : (c x)[j]? = some v) : ((x :: l).reverse.flatMap c)[l.length * s + j]? = some v := by
  have hl : (l.reverse.flatMap c).length = l.length * s := by rw [fl_lenN hc, List.length_reverse]
  rw [List.reverse_cons, List.flatMap_append, List.getElem?_append_right (by omega), hl, Nat.add_sub_cancel_left]
  simpa using h
theorem fl_at0 {α : Type} {c : α → List Value} {s : Nat} (hc : ∀ x, (c x).length = s) {l : List α} {x : α} {v : Value} (h : (c x)[0]? = some v) : ((x :: l).reverse.flatMap c)[l.length * s]? = some v := fl_at (j := 0) hc h
theorem fl_set {α : Type} {c : α → List Value} {s : Nat} (hc : ∀ x, (c x).length = s) {l : List α} {x y : α} {j : Nat} {v : Value} (h : (c x).set j v = c y) : ((x :: l).reverse.flatMap c).set (l.length * s + j) v = (y :: l).reverse.flatMap c := by
  have hl : (l.reverse.flatMap c).length = l.length * s := by rw [fl_lenN hc, List.length_reverse]
  rw [List.reverse_cons, List.flatMap_append, List.set_append_right _ _ (by omega), hl, Nat.add_sub_cancel_left, List.reverse_cons, List.flatMap_append]
  simp [h]
theorem Hs.mkN {z : Value} (ht : SlT P t e z b') (h : Hs w0 w Rs) {kl kc : IntKind} {n : Nat} (hb : b' * n ≤ 281474976710656) (hm : n ≤ maxLen) {K : Value → World → Prop}
    (hK : ∀ q w', Ext no w w' → Hs w0 w' (⟨e, 1, some ⟨q, 0, none⟩, n, n, List.replicate n z⟩ :: Rs) → K (.slice (some ⟨q, 0, none⟩) n n) w') : rn P (Instr.makeSlice t (.int kl (n : Int)) (.int kc (n : Int))) w K :=
  ht.makeN hb hm fun w' hr hx => hK _ w' hx (h.push hx ⟨by simpa using hr.own⟩)
theorem Hs.copy {z : Value} (ht : SlT P t e z b') (h : Hs w0 w Rs) [hf : Fd Rs p i e 1 c n xs] [hu : Up Rs i f] {q : Option Addr} {m c' : Nat} {news : List Value} (hs : Reads w q news) (hm : news.length = m) (hmn : m ≤ n) (h1 : ∀ u ∈ news, one u = true) {K : Value → World → Prop}
    (hK : ∀ w', Hs w0 w' (f ⟨e, 1, p, c, n, news ++ xs.drop m⟩) → K (.int .i64 (m : Int)) w') : rn P (Builtin.copy_ #[t, t] ty #[.slice p n c, .slice q m c']) w K := by
  subst hm
  have hr := h.row _ (List.mem_of_getElem? hf.g)
  obtain ⟨y, hi, hz, hsz, _⟩ := ht.inf
  by_cases h0 : news = []
  · subst h0
    have hr2 : (Builtin.copy_ #[t, t] ty #[.slice p n c, .slice q (List.length ([] : List Value)) c']).run P w = .ok (goInt 0) w := by
      cases p <;> cases q <;> simp [Builtin.copy_, run_underlying ht.und, Builtin.lenOf, Builtin.firstCells, sizeOf, typeInfo, hi, storeCells, loadCells, loadCellsFrom]
    refine rn_mk hr2 (hK w ?_)
    rw [← hu.e]
    have hg := hf.g
    obtain ⟨hl, hg⟩ := List.getElem?_eq_some_iff.1 hg
    have : Rs.set i ⟨e, 1, p, c, n, [] ++ xs.drop 0⟩ = Rs := by
      rw [List.nil_append, List.drop_zero]
      conv => lhs; rw [← hg]
      exact List.set_getElem_self hl
    rw [List.length_nil, this]
    exact h
  · rcases hs with hx | ⟨b, o, rfl, hc⟩
    · exact absurd hx h0
    · rcases RowN.cases hr with ⟨_, _, h3, _⟩ | ⟨g, cur, hp, hb, hg, hl, hcm, hcs, htk⟩
      · have : news.length = 0 := by simp only at h3; omega
        exact absurd (List.eq_nil_of_length_eq_zero this) h0
      · simp only at hp hl hcm hcs htk
        subst hp
        simp only [Nat.mul_one] at hcs htk
        have hrun := run_copy_row (P := P) w t t ty e g 0 n c ⟨b, o, Option.none⟩ news.length c' cur e news ht.und (by rw [hi]; simp [hsz]) hg (by simp [Nat.min_eq_left hmn]) (fun j v hv => by rw [add_mk]; exact hc j v hv) (by omega) fun u hu => one_of (h1 u hu)
        have hll : (news ++ xs.drop news.length).length = n := by
          have h4 : xs.length = n * 1 := RowN.len hr
          simp; omega
        refine rn_mk hrun (hK _ (hu.e _ ▸ h.put (r' := ⟨e, 1, some ⟨g, 0, Option.none⟩, c, n, news ++ xs.drop news.length⟩) hf.g ⟨rfl, rfl, rfl, by simp [World.setRow], fun k _ hk => setRow_other w g k _ fun hkg => hk ⟨_, rfl, hkg.symm⟩⟩ ?_ (.inl rfl)))
        refine ⟨⟨by rw [hll, Nat.mul_one], .inr ⟨g, c, _, rfl, hb, setRow_heap w g cur _ e _ hg, hl, hcm, ?_, ?_⟩⟩⟩
        · simp
          omega
        · simp only [List.take_zero, List.nil_append, Nat.zero_add, Nat.mul_one]
          rw [← htk]
          have e1 : (cur.toList.take n).drop news.length = (cur.toList.drop news.length).take (n - news.length) := by rw [List.drop_take]
          rw [e1, List.take_append, List.take_of_length_le hmn]
end
end
class Sp (G : Prop) (G' : outParam Prop) : Prop where
  f : G' → G
instance {x : Int} {K : Int → Prop} : Sp (lv x K) (K x) := ⟨lv_i⟩
instance {a : Addr} {K : Addr → Prop} : Sp (dr (some a) K) (K a) := ⟨dr_i⟩
class Vl (v : Value) (v' : outParam Value) : Prop where
  e : v = v'
instance (priority := low) {v : Value} : Vl v v := ⟨rfl⟩
instance {u d : Value} {l : List Value} : Vl ((u :: l).getD 0 d) u := ⟨rfl⟩
instance {u d v : Value} {l : List Value} {i : Nat} [h : Vl (l.getD i d) v] : Vl ((u :: l).getD (i + 1) d) v := ⟨h.e⟩
instance {v : Value} {k : IntKind} {x : Int} {K : Int → Prop} [h : Vl v (.int k x)] : Sp (asI k v K) (K x) := ⟨asI_i h.e⟩
instance {v : Value} {x : Bool} {K : Bool → Prop} [h : Vl v (.bool x)] : Sp (asB v K) (K x) := ⟨asB_i h.e⟩
instance {v : Value} {x : Option Addr} {K : Option Addr → Prop} [h : Vl v (.pointer x)] : Sp (asP v K) (K x) := ⟨asP_i h.e⟩
instance {v : Value} {p : Option Addr} {n c : Nat} {K : Option Addr → Nat → Nat → Prop} [h : Vl v (.slice p n c)] : Sp (asS v K) (K p n c) := ⟨asS_i h.e⟩
instance {v : Value} {x : ByteArray} {K : ByteArray → Prop} [h : Vl v (.string x)] : Sp (asY v K) (K x) := ⟨asY_i h.e⟩
instance {v : Value} {x : Option Nat} {K : Option Nat → Prop} [h : Vl v (.map x)] : Sp (asM v K) (K x) := ⟨asM_i h.e⟩
instance {v : Value} {k : Nat} {fs cs : Array Value} {K : Nat → Array Value → Array Value → Prop} [h : Vl v (.func (.func k) fs cs)] : Sp (asN v K) (K k fs cs) := ⟨fun g => ⟨k, fs, cs, h.e, g⟩⟩
theorem sp {G G' : Prop} [h : Sp G G'] (k : G') : G := h.f k
def B (l : List UInt8) : ByteArray := ⟨l.toArray⟩
end Go.Sx
namespace Go.Vp
open Go
structure Gl where
  t : Int
  z : Int
  v : Int
structure Ins where
  op : Int
  a : Int
  b : Int
structure Fi where
  par : List Int
  res : Int
  loc : List Int
  code : List Ins
structure Im where
  gl : List Gl
  fn : List Fi
abbrev Lt := List UInt8
def l5 (t : Int) : UInt8 := [46, 105, 102, 98, 101].getD t.toNat 0
def rowL (l : List Int) : Lt := l.map l5
def resL (t : Int) : Lt := if t = 0 then [] else [l5 t]
def sysL : List (List Int × Int) := [([2, 2, 1], 4), ([4], 0), ([4], 3), ([4], 2), ([4], 2), ([4, 2, 2], 3), ([4, 2, 2], 0), ([4, 2], 0), ([4], 1), ([4, 1], 0), ([4], 1), ([], 1), ([1], 4), ([], 1), ([1], 1), ([1, 1], 0)]
def globL (X : Im) (n : Int) (el : Bool) : Lt :=
  if n < 0 then [] else match X.gl[n.toNat]? with
    | some g => if decide (g.z > 0) = el then [l5 g.t] else []
    | none => []
def plainV (op : Int) : Lt × Lt :=
  if op = 8 ∨ op = 9 ∨ op = 10 ∨ op = 11 ∨ op = 12 then ([105, 105], [105])
  else if op = 13 then ([105], [105])
  else if op = 14 ∨ op = 15 ∨ op = 16 ∨ op = 17 then ([102, 102], [102])
  else if op = 18 then ([102], [102])
  else if op = 19 ∨ op = 20 then ([84, 84], [98])
  else if op = 21 ∨ op = 22 ∨ op = 23 ∨ op = 24 then ([78, 78], [98])
  else if op = 25 then ([98], [98])
  else if op = 26 then ([105], [102])
  else if op = 27 then ([102], [105])
  else if op = 33 then ([84], [])
  else ([], [])
def meansM (X : Im) (f : Fi) (i : Ins) : Lt × Lt × Bool :=
  let no := decide (i.b = 0)
  if i.op = 1 then ([], [l5 i.b], decide (i.b = 1 ∨ i.b = 2 ∨ (i.b = 3 ∧ (i.a = 0 ∨ i.a = 1)) ∨ (i.b = 4 ∧ i.a = 0)))
  else if i.op = 2 ∨ i.op = 3 then
    if i.a < 0 ∨ i.a ≥ f.loc.length then ([], [], false)
    else let t := [l5 (f.loc.getD i.a.toNat 0)]; if i.op = 3 then (t, [], no) else ([], t, no)
  else if i.op = 4 then let t := globL X i.a false; ([], t, no && !t.isEmpty)
  else if i.op = 5 then let t := globL X i.a false; (t, [], no && !t.isEmpty)
  else if i.op = 6 then let t := globL X i.a true; ([105], t, no && !t.isEmpty)
  else if i.op = 7 then let t := globL X i.a true; (105 :: t, [], no && !t.isEmpty)
  else if i.op = 28 then ([], [], no && decide (0 ≤ i.a ∧ i.a < f.code.length))
  else if i.op = 29 then ([98], [], no && decide (0 ≤ i.a ∧ i.a < f.code.length))
  else if i.op = 30 then
    if i.a < 0 ∨ i.a ≥ X.fn.length then ([], [], false)
    else let g := X.fn.getD i.a.toNat ⟨[], 0, [], []⟩; (rowL g.par, resL g.res, no)
  else if i.op = 31 then
    if i.a < 0 ∨ i.a ≥ 16 then ([], [], false)
    else let g := sysL.getD i.a.toNat ([], 0); (rowL g.1, resL g.2, no)
  else if i.op = 32 then (resL f.res, [], no && decide (i.a = 0))
  else ((plainV i.op).1, (plainV i.op).2, no && decide (i.a = 0))
def endsM (s tk : Lt) : Bool :=
  if s.length < tk.length then false else
  let got := s.drop (s.length - tk.length)
  if tk.head? = some 84 then tk.length == 1 || got.getD 0 0 == got.getD 1 0
  else if tk = [78, 78] then got == [105, 105] || got == [102, 102]
  else got == tk
def newL (s tk pu : Lt) : Lt := s.take (s.length - tk.length) ++ pu
structure StepOK (X : Im) (f : Fi) (T : Nat → Option Lt) (at' : Nat) (s : Lt) (i : Ins) : Prop where
  ok : (meansM X f i).2.2 = true
  ends : endsM s (meansM X f i).1 = true
  most : (newL s (meansM X f i).1 (meansM X f i).2.1).length ≤ 400
  ret : i.op = 32 → newL s (meansM X f i).1 (meansM X f i).2.1 = []
  jump : i.op = 28 ∨ i.op = 29 → T i.a.toNat = some (newL s (meansM X f i).1 (meansM X f i).2.1)
  next : i.op ≠ 28 → i.op ≠ 32 → T (at' + 1) = some (newL s (meansM X f i).1 (meansM X f i).2.1)
structure Typing (X : Im) (f : Fi) (T : Nat → Option Lt) : Prop where
  start : T 0 = some []
  step : ∀ k s, T k = some s → ∃ i, f.code[k]? = some i ∧ StepOK X f T k s i
end Go.Vp
namespace Go.Sx
open Go
def noG (Q : Exit → Act → World → Prop) : Exit → Act → World → Prop := fun e a w => match e with
  | .goto _ => False
  | e => Q e a w
def back2 (P : Program) (Q : Exit → Act → World → Prop) (l1 l2 : Nat) (B2 : Code) (J : Act → World → Prop) : Exit → Act → World → Prop := fun e a w => match e with
  | .goto m => (m = l2 ∧ B2.wp P (noG Q) a w) ∨ (m = l1 ∧ J a w)
  | e => Q e a w
def labPost2 (P : Program) (Q : Exit → Act → World → Prop) (l1 : Nat) (B1 : Code) (l2 : Nat) (B2 : Code) : Exit → Act → World → Prop :=
  back2 P Q l1 l2 B2 fun a w => ∃ (J : Act → World → Prop) (μ : Act → World → Nat), J a w ∧ ∀ a w, J a w → B1.wp P (back2 P Q l1 l2 B2 fun a' w' => J a' w' ∧ μ a' w' < μ a w) a w
theorem wp_scope_label2 {P : Program} {Q : Exit → Act → World → Prop} {l1 l2 : Nat} {B1 B2 c : Code} (hf1 : findLabel c l1 = some (.seq .skip B1)) (hf2 : findLabel c l2 = some (.seq .skip B2))
    {a : Act} {w : World} (h : c.wp P (labPost2 P Q l1 B1 l2 B2) a w) : (Code.scope c).wp P Q a w := by
  intro b k cs
  have hg1 : gotoIn l1 (.inScope c :: k) = some (.code (.seq .skip B1) :: .inScope c :: k) := by simp [gotoIn, hf1]
  have hg2 : gotoIn l2 (.inScope c :: k) = some (.code (.seq .skip B2) :: .inScope c :: k) := by simp [gotoIn, hf2]
  have down : ∀ a w, B2.wp P (noG Q) a w → ∃ e a' w', Q e a' w' ∧ Arrives P (lone (b.at a (.code (.seq .skip B2) :: .inScope c :: k)) cs w) b k cs e a' w' := by
    intro a w hB
    have hp : (Code.seq .skip B2).wp P (noG Q) a w := wp_seq (wp_skip hB)
    obtain ⟨e, a₁, w₁, hq, harr⟩ := hp b (.inScope c :: k) cs
    cases e with
    | normal => exact ⟨.normal, a₁, w₁, hq, Steps.trans harr (.one step_inScope)⟩
    | exit id => exact ⟨.exit id, a₁, w₁, hq, fun k' hk => harr k' (by simp [exitTo, hk])⟩
    | goto l' => exact hq.elim
    | ret => exact ⟨_, a₁, w₁, hq, harr⟩
    | panic ch => exact ⟨_, a₁, w₁, hq, harr⟩
    | outgrown => exact ⟨_, a₁, w₁, hq, harr⟩
  have key : ∀ (J : Act → World → Prop) (μ : Act → World → Nat), (∀ a w, J a w → B1.wp P (back2 P Q l1 l2 B2 fun a' w' => J a' w' ∧ μ a' w' < μ a w) a w) →
      ∀ n a w, μ a w = n → J a w → ∃ e a' w', Q e a' w' ∧ Arrives P (lone (b.at a (.code (.seq .skip B1) :: .inScope c :: k)) cs w) b k cs e a' w' := by
    intro J μ pass n
    induction n using Nat.strongRecOn with
    | _ n ih =>
      intro a w hn hJ
      have hp : (Code.seq .skip B1).wp P (back2 P Q l1 l2 B2 fun a' w' => J a' w' ∧ μ a' w' < μ a w) a w := wp_seq (wp_skip (pass a w hJ))
      obtain ⟨e, a₁, w₁, hq, harr⟩ := hp b (.inScope c :: k) cs
      cases e with
      | normal => exact ⟨.normal, a₁, w₁, hq, Steps.trans harr (.one step_inScope)⟩
      | exit id => exact ⟨.exit id, a₁, w₁, hq, fun k' hk => harr k' (by simp [exitTo, hk])⟩
      | goto l' =>
        rcases hq with ⟨rfl, hB⟩ | ⟨rfl, hJ', hlt⟩
        · obtain ⟨e₂, a₂, w₂, hq₂, harr₂⟩ := down _ _ hB
          exact ⟨e₂, a₂, w₂, hq₂, .of_steps (harr _ hg2) harr₂⟩
        · obtain ⟨e₂, a₂, w₂, hq₂, harr₂⟩ := ih _ (by omega) a₁ w₁ rfl hJ'
          exact ⟨e₂, a₂, w₂, hq₂, .of_steps (harr _ hg1) harr₂⟩
      | ret => exact ⟨_, a₁, w₁, hq, harr⟩
      | panic ch => exact ⟨_, a₁, w₁, hq, harr⟩
      | outgrown => exact ⟨_, a₁, w₁, hq, harr⟩
  obtain ⟨e, a₁, w₁, hq, harr⟩ := h b (.inScope c :: k) cs
  cases e with
  | normal => exact ⟨.normal, a₁, w₁, hq, .head step_scope (Steps.trans harr (.one step_inScope))⟩
  | exit id => exact ⟨.exit id, a₁, w₁, hq, fun k' hk => .head step_scope (harr k' (by simp [exitTo, hk]))⟩
  | goto l' =>
    rcases hq with ⟨rfl, hB⟩ | ⟨rfl, J, μ, hJ, pass⟩
    · obtain ⟨e₂, a₂, w₂, hq₂, harr₂⟩ := down _ _ hB
      exact ⟨e₂, a₂, w₂, hq₂, .of_steps (.head step_scope (harr _ hg2)) harr₂⟩
    · obtain ⟨e₂, a₂, w₂, hq₂, harr₂⟩ := key J μ pass _ a₁ w₁ rfl hJ
      exact ⟨e₂, a₂, w₂, hq₂, .of_steps (.head step_scope (harr _ hg1)) harr₂⟩
  | ret => exact ⟨_, a₁, w₁, hq, .of_steps (.one step_scope) harr⟩
  | panic ch => exact ⟨_, a₁, w₁, hq, .of_steps (.one step_scope) harr⟩
  | outgrown => exact ⟨_, a₁, w₁, hq, .of_steps (.one step_scope) harr⟩
def kP2 (l : Nat) (K : KX) (N : Env → World → Prop) : KX := fun e env w => match e with
  | .goto m => cond (Nat.beq m l) (N env w) (K (.goto m) env w)
  | e => K e env w
def kN2 (K : KX) (N : Env → World → Prop) : KX := fun e env w => match e with
  | .normal => N env w
  | .outgrown => False
  | e => K e env w
def evPre2 (P : Program) (n f l : Nat) : List Code → List Hint → Env → KX → (Env → World → Prop) → World → Prop
  | [], _, env, _, N, w => N env w
  | x :: xs, hs, env, K, N, w => ev P n f x (hs.headD .d) env (kN2 (kP2 l K N) fun env' w' => evPre2 P n f l xs hs.tail env' K N w') w
theorem pre2_sound {P : Program} {n f l : Nat} (ih : Snd P n f) {K : KX} {Q : Exit → Act → World → Prop} {m : Nat} {a0 : Act} {N : Env → World → Prop} {rest : Code}
    (hQ : ∀ e a w, e ≠ .normal → e ≠ .goto l → Po n K m a0 e a w → Q e a w)
    (hG : ∀ env a w, Agr n env a → SameM m a0 a → N env w → Q (.goto l) a w)
    (hN : ∀ env a w, Agr n env a → SameM m a0 a → N env w → rest.wp P Q a w) :
    ∀ (xs : List Code) (hs : List Hint) (env : Env) (a : Act) (w : World), (∀ x ∈ xs, ∀ t, Nat.testBit m t = false → Nat.testBit (wr x) t = false) → Agr n env a → SameM m a0 a →
      evPre2 P n f l xs hs env K N w → (xs.foldr Code.seq rest).wp P Q a w
  | [], hs, env, a, w, hm, ha, hsm, h => hN env a w ha hsm h
  | x :: xs, hs, env, a, w, hm, ha, hsm, h => by
    refine Exit_then (ih _ _ _ _ _ _ ha h) ?_ ?_
    · rintro a1 w1 ⟨env1, h1, hk, hs1⟩
      exact pre2_sound ih hQ hG hN xs _ env1 a1 w1 (fun y hy => hm y (by simp [hy])) h1 (hsm.both (hs1.mono (hm x (by simp)))) hk
    · rintro e a1 w1 he ⟨env1, h1, hk, hs1⟩
      have hk2 : kP2 l K N e env1 w1 := by cases e <;> first | exact absurd rfl he | exact hk | exact hk.elim
      by_cases hl : e = .goto l
      · subst hl
        simp only [kP2] at hk2
        rcases cond2_of hk2 with ⟨_, hk2⟩ | ⟨hb, _⟩
        · exact hG env1 a1 w1 h1 (hsm.both (hs1.mono (hm x (by simp)))) hk2
        · simp at hb
      · refine hQ e a1 w1 he hl ⟨env1, h1, ?_, hsm.both (hs1.mono (hm x (by simp)))⟩
        cases e with
        | goto m' =>
          simp only [kP2] at hk2
          rcases cond2_of hk2 with ⟨hb, _⟩ | ⟨_, hk2⟩
          · exact absurd (by rw [Nat.eq_of_beq_eq_true hb]) hl
          · exact hk2
        | normal => exact absurd rfl he
        | exit i => exact hk2
        | ret => exact hk2
        | panic c => exact hk2
        | outgrown => exact hk2
def kT (l : Nat) (K : KX) (J : Env → World → Prop) : KX := fun e env w => match e with
  | .goto m => cond (Nat.beq m l) (J env w) False
  | e => K e env w
def evT (P : Program) (n : Nat) (c : Code) (k1 k2 : Nat) (slots1 slots2 : List (Nat × TypeId)) (pre turn : List Hint) (hb : Hint) (env : Env) (K : KX) (w : World) : Prop :=
  match (unseq k1 c).2 with
  | .seq (.label l1) B1 => match (unseq k2 B1).2 with
    | .seq (.label l2) B2 => cond ((unseq k1 c).1.all (fun x => (findLabel x l1).isNone && (findLabel x l2).isNone) && (unseq k2 B1).1.all (fun x => (findLabel x l2).isNone) && !(Nat.beq l1 l2))
        (jn (fun s w => spread P n s slots2 0 (forget (wr c) env) fun env' => ev P n 400 B2 hb env' (kNG K) w) fun J2 =>
          evPre2 P n 400 l1 (unseq k1 c).1 pre env (kNG K) (fun env1 w => collect env1 slots1 fun vs => lp vs w fun J s w' =>
            spread P n s slots1 0 (forget (wr c) env) fun env' => evPre2 P n 400 l2 (unseq k2 B1).1 turn env' (kT l1 K fun env'' w'' => collect env'' slots1 fun vs' => J vs' w'')
              (fun env'' w'' => collect env'' slots2 fun vs' => J2 vs' w'') w') w) False
    | _ => False
  | _ => False
theorem findLabel_seqs2 {l : Nat} {R : Code} : ∀ (xs : List Code), (∀ x ∈ xs, findLabel x l = none) → findLabel (xs.foldr Code.seq R) l = findLabel R l
  | [], _ => rfl
  | x :: xs, h => by
    have h1 := h x (by simp)
    have h2 := findLabel_seqs2 (R := R) xs (fun y hy => h y (by simp [hy]))
    simp [findLabel, h1, h2]
theorem evT_sound {P : Program} {n : Nat} {c : Code} {k1 k2 : Nat} {slots1 slots2 : List (Nat × TypeId)} {pre turn : List Hint} {hb : Hint} {env : Env} {K : KX} {a : Act} {w : World} (ha : Agr n env a)
    (hk : evT P n c k1 k2 slots1 slots2 pre turn hb env K w) : (Code.scope c).wp P (Po n K (wr c) a) a w := by
  unfold evT at hk
  split at hk
  · rename_i l1 B1 hB1
    split at hk
    · rename_i l2 B2 hB2
      obtain ⟨hok, hk⟩ := cond_of hk
      simp only [Bool.and_eq_true, List.all_eq_true, Bool.not_eq_true'] at hok
      obtain ⟨⟨ho1, ho2⟩, hne⟩ := hok
      have hne' : l1 ≠ l2 := fun h => by rw [h] at hne; simp at hne
      have hc := unseq_eq k1 c
      have hc2 := unseq_eq k2 B1
      rw [hB1] at hc
      rw [hB2] at hc2
      have hf1 : findLabel c l1 = some (.seq .skip B1) := by
        rw [← hc]
        exact findLabel_seqs _ fun x hx => by simpa using (ho1 x hx).1
      have hf2 : findLabel c l2 = some (.seq .skip B2) := by
        rw [← hc, findLabel_seqs2 _ fun x hx => by simpa using (ho1 x hx).2]
        have : findLabel B1 l2 = some (.seq .skip B2) := by
          rw [← hc2]
          exact findLabel_seqs _ fun x hx => by simpa using ho2 x hx
        simp [findLabel, hne', this]
      have hwr := wr_seqs (unseq k1 c).1 (.seq (.label l1) B1)
      rw [hc] at hwr
      have hwB1 : ∀ t, Nat.testBit (wr c) t = false → Nat.testBit (wr B1) t = false := fun t ht => (lor_false (hwr t ht).2).2
      have hwr2 := wr_seqs (unseq k2 B1).1 (.seq (.label l2) B2)
      rw [hc2] at hwr2
      have hwB2 : ∀ t, Nat.testBit (wr c) t = false → Nat.testBit (wr B2) t = false := fun t ht => (lor_false (hwr2 t (hwB1 t ht)).2).2
      refine wp_scope_label2 hf1 hf2 ?_
      unfold jn at hk
      have down : ∀ (env1 : Env) (a1 : Act) (w1 : World), Agr n env1 a1 → SameM (wr c) a a1 → (collect env1 slots2 fun s => spread P n s slots2 0 (forget (wr c) env) fun env' => ev P n 400 B2 hb env' (kNG K) w1) →
          B2.wp P (noG (Po n K (wr c) a)) a1 w1 := by
        intro env1 a1 w1 h1 hs1 hN
        obtain ⟨hc3, hv⟩ := collect_of h1 hN
        obtain ⟨env2, h2, hk2⟩ := spread_of (vals slots2 a1) (forget_agr ha hs1 h1.defers h1.size) hv (by simp) hc3
        refine wp_mono (ev_sound _ _ _ _ _ _ _ h2 hk2) ?_
        rintro e a2 w2 ⟨env3, h3, hk3, hs3⟩
        have hs4 : SameM (wr c) a a2 := hs1.both (hs3.mono hwB2)
        cases e with
        | goto m => exact hk3.elim
        | normal => exact ⟨env3, h3, hk3, hs4⟩
        | exit i => exact ⟨env3, h3, hk3, hs4⟩
        | ret => exact ⟨env3, h3, hk3, hs4⟩
        | panic ch => exact ⟨env3, h3, hk3, hs4⟩
        | outgrown => exact hk3.elim
      have core : ∀ (env1 : Env) (a1 : Act) (w1 : World), Agr n env1 a1 → SameM (wr c) a a1 → (collect env1 slots1 fun vs => lp vs w1 fun J s w' =>
            spread P n s slots1 0 (forget (wr c) env) fun env' => evPre2 P n 400 l2 (unseq k2 B1).1 turn env' (kT l1 K fun env'' w'' => collect env'' slots1 fun vs' => J vs' w'')
              (fun env'' w'' => collect env'' slots2 fun s => spread P n s slots2 0 (forget (wr c) env) fun env' => ev P n 400 B2 hb env' (kNG K) w'') w') →
          ∃ (J : Act → World → Prop) (μ : Act → World → Nat), J a1 w1 ∧ ∀ a' w', J a' w' → B1.wp P (back2 P (Po n K (wr c) a) l1 l2 B2 fun a'' w'' => J a'' w'' ∧ μ a'' w'' < μ a' w') a' w' := by
        intro env1 a1 w1 h1 hs1 hN
        obtain ⟨⟨I, ⟨n0, hI⟩, round⟩, hv⟩ := collect_of h1 hN
        let J : Nat → Act → World → Prop := fun k a' w' => SameM (wr c) a a' ∧ a'.defers = [] ∧ a'.tmps.size = n ∧ (∀ x ∈ slots1, ∃ v, a'.tmps[x.1]? = some v) ∧ I k (vals slots1 a') w'
        refine ⟨fun a' w' => ∃ k, J k a' w', fun a' w' => leastOf (fun k => J k a' w'), ⟨n0, hs1, h1.defers, h1.size, hv, hI⟩, ?_⟩
        intro a2 w2 hex
        obtain ⟨⟨hs2, hd2, hz2, hv2, hI2⟩, _⟩ := leastOf_spec hex
        obtain ⟨env3, h3, hk3⟩ := spread_of (vals slots1 a2) (forget_agr ha hs2 hd2 hz2) hv2 (by simp) (round _ _ _ hI2)
        have main := pre2_sound (P := P) (n := n) (f := 400) (l := l2) (ev_sound 400) (Q := back2 P (Po n K (wr c) a) l1 l2 B2 fun a'' w'' => (∃ k, J k a'' w'') ∧ leastOf (fun k => J k a'' w'') < leastOf (fun k => J k a2 w2)) (m := wr c) (a0 := a) (rest := .seq (.label l2) B2)
          ?_ ?_ ?_ (unseq k2 B1).1 turn env3 a2 w2 (fun x hx t ht => (hwr2 t (hwB1 t ht)).1 x hx) h3 hs2 hk3
        · rw [hc2] at main
          exact main
        · rintro e a4 w4 he hl ⟨env4, h4, hk4, hs4⟩
          cases e with
          | goto m =>
            obtain ⟨hb1, hk4⟩ := cond_of hk4
            obtain ⟨⟨m', hm, hc4⟩, hv4⟩ := collect_of h4 hk4
            have hj : J m' a4 w4 := ⟨hs4, h4.defers, h4.size, hv4, hc4⟩
            exact .inr ⟨by simpa using hb1, ⟨m', hj⟩, Nat.lt_of_le_of_lt ((leastOf_spec ⟨m', hj⟩).2 m' hj) hm⟩
          | normal => exact absurd rfl he
          | exit i => exact ⟨env4, h4, hk4, hs4⟩
          | ret => exact ⟨env4, h4, hk4, hs4⟩
          | panic ch => exact ⟨env4, h4, hk4, hs4⟩
          | outgrown => exact ⟨env4, h4, hk4, hs4⟩
        · intro env4 a4 w4 h4 hs4 hN4
          exact .inl ⟨rfl, down env4 a4 w4 h4 hs4 hN4⟩
        · intro env4 a4 w4 h4 hs4 hN4
          refine wp_seq (wp_label (wp_mono (down env4 a4 w4 h4 hs4 hN4) ?_))
          intro e a5 w5 h5
          cases e <;> first | exact h5 | exact h5.elim
      have main := pre2_sound (P := P) (n := n) (f := 400) (l := l1) (ev_sound 400) (Q := labPost2 P (Po n K (wr c) a) l1 B1 l2 B2) (m := wr c) (a0 := a) (rest := .seq (.label l1) B1)
        ?_ ?_ ?_ (unseq k1 c).1 pre env a w (fun x hx t ht => (hwr t ht).1 x hx) ha (SameM.refl _ _) hk
      · rw [hc] at main
        exact main
      · rintro e a4 w4 he hl ⟨env4, h4, hk4, hs4⟩
        cases e with
        | goto m => exact hk4.elim
        | normal => exact absurd rfl he
        | exit i => exact ⟨env4, h4, hk4, hs4⟩
        | ret => exact ⟨env4, h4, hk4, hs4⟩
        | panic ch => exact ⟨env4, h4, hk4, hs4⟩
        | outgrown => exact hk4.elim
      · intro env4 a4 w4 h4 hs4 hN4
        exact .inr ⟨rfl, core env4 a4 w4 h4 hs4 hN4⟩
      · intro env4 a4 w4 h4 hs4 hN4
        obtain ⟨J, μ, hj, pass⟩ := core env4 a4 w4 h4 hs4 hN4
        refine wp_seq (wp_label (wp_mono (pass a4 w4 hj) ?_))
        intro e a5 w5 h5
        cases e with
        | goto m =>
          rcases h5 with h5 | ⟨h5, h6, _⟩
          · exact .inl h5
          · exact .inr ⟨h5, J, μ, h6, pass⟩
        | normal => exact h5
        | exit i => exact h5
        | ret => exact h5
        | panic ch => exact h5
        | outgrown => exact h5
    · exact hk.elim
  · exact hk.elim
def fnEvT (P : Program) (fn : Func) (k1 k2 : Nat) (slots1 slots2 : List (Nat × TypeId)) (pre turn : List Hint) (hb : Hint) (args : List Value) (w : World) (Q : Value → World → Prop) : Prop :=
  match fn.body with
  | some (.scope c) => cond (Nat.ble args.length fn.ntmps) (evT P fn.ntmps c k1 k2 slots1 slots2 pre turn hb (env0 args) (fin P fn Q) w) False
  | _ => False
theorem calls_of_evT {P : Program} {k : FuncId} {fn : Func} (hf : P.funcs[k]? = some fn) (k1 k2 : Nat) (slots1 slots2 : List (Nat × TypeId)) (pre turn : List Hint) (hb : Hint) {args : List Value} {w : World} {Q : Value → World → Prop}
    (hk : fnEvT P fn k1 k2 slots1 slots2 pre turn hb args w Q) : cl P k args.toArray w Q := by
  unfold fnEvT at hk
  split at hk
  · rename_i c hc
    obtain ⟨hn, hk⟩ := cond_of hk
    simp only [Nat.ble_eq] at hn
    unfold cl
    refine calls_of_wp hf hc ?_
    have ha : Agr fn.ntmps (env0 args) { tmps := args.toArray ++ Array.replicate (fn.ntmps - args.toArray.size) undef, defers := [] } := by
      refine ⟨rfl, by simp; omega, fun t v ht => ?_⟩
      unfold env0 at ht
      rw [nth_eq] at ht
      have hlt : t < args.length := by
        rcases Nat.lt_or_ge t args.length with h | h
        · exact h
        · rw [List.getElem?_eq_none h] at ht; cases ht
      rw [Array.getElem?_append_left (by simpa using hlt)]
      simpa using ht
    refine wp_mono (evT_sound ha hk) ?_
    rintro e a' w' ⟨env', h1, h2, _⟩
    cases e with
    | normal =>
      obtain ⟨vs, h3, h4⟩ := results_of h1 h2
      exact ⟨h1.defers, _, h3, _, rfl, h4⟩
    | ret =>
      obtain ⟨vs, h3, h4⟩ := results_of h1 h2
      exact ⟨h1.defers, _, h3, _, rfl, h4⟩
    | exit i => exact h2.elim
    | goto l => exact h2.elim
    | panic c => exact h2.elim
    | outgrown => exact h2.elim
  · exact hk.elim
end Go.Sx
namespace Go.Sx
open Go
def evEffY (Z : List PanicEntry → World → Prop) (P : Program) (o : Oper) (env : Env) (w : World) (N : Value → World → Prop) : Prop := match o.op with
  | .call c => match c.callee with
    | .value f => rd env f fun vf => rdL env c.args.toList fun vs => match vf with
      | .func (.func k) fs cs => cond (callOk P k) (clz Z P k (fs ++ vs.toArray ++ cs) w fun v w' => asTy P o.type v fun v' => N v' w') False
      | _ => False
    | _ => evEff P o env w N
  | _ => evEff P o env w N
theorem evEffY_of {Z : List PanicEntry → World → Prop} {P : Program} {n : Nat} {env : Env} {a : Act} (h : Agr n env a) {o : Oper} {w : World} {N : Value → World → Prop} (hk : evEffY Z P o env w N)
    {Q : Exit → Act → World → Prop} (hZ : ∀ ch w', Z ch w' → Q (.panic ch) a w') : o.wp P a w (fun a' w' => ∃ v, a' = a.put o.dst v ∧ N v w') Q := by
  unfold evEffY at hk
  split at hk
  · rename_i c hop
    split at hk
    · rename_i f hc
      have hk := h.rdL (h.rd hk)
      split at hk
      · rename_i k fs cs hf
        obtain ⟨hok, hk⟩ := cond_of hk
        have hr : (execOp a.eval o).run P w = .ok (.enter k (fs ++ (c.args.toList.map a.eval).toArray ++ cs)) w := by
          simp [execOp, hop, resolve, hc, hf, Deferred.ofValue, invoke, callOk_run hok, map_list]
        unfold Oper.wp
        rw [hr]
        refine Calls.mono hk ?_
        rintro e w' (⟨v, rfl, hk⟩ | ⟨ch, rfl, hk⟩)
        · exact ⟨v, rfl, asTy_of (K := fun v => N v w') hk⟩
        · exact hZ _ _ hk
      · exact hk.elim
    · exact evEff_of h hk Q
  · exact evEff_of h hk Q
def evSeqY (Z : List PanicEntry → World → Prop) (P : Program) (ops : List Oper) (n : Nat) (K : Env → World → Prop) : Ord → Held → Env → World → Prop
  | .nil, _, env, w => K env w
  | .alt _ _, _, _, _ => False
  | .st i σ, L, env, w =>
    match nth ops i with
    | none => False
    | some o => cond (dstOk n o) (gd ops o env
        (fun env => match cls P o with
          | .pure => evPure P o env fun v => evSeqY Z P ops n K σ L (up env o.dst v) w
          | .load t x => rd env x fun va => match va with
              | .pointer p => dr p fun a => evLoad P t a w fun v fs => evSeqY Z P ops n K σ ((i, fs) :: L) (up env o.dst v) w
              | _ => False
          | .read => False
          | .eff => evEffY Z P o env w fun v w' => heldK P w' (drop o L) (evSeqY Z P ops n K σ (drop o L) (up env o.dst v) w'))
        (fun env => evSeqY Z P ops n K σ L (up env o.dst undef) w)) False
theorem evSeqY_draw {Z : List PanicEntry → World → Prop} {P : Program} {n : Nat} {ops : Array Oper} {K : Env → World → Prop} {Q : Exit → Act → World → Prop} {W : Nat → Bool} {a0 : Act}
    (hsel : Region.noSelect ops = true) (hW : ∀ o ∈ ops.toList, ∀ d, o.dst = some d → W d = true)
    (hQ : ∀ c a d v w, (∀ t, d = some t → W t = true) → Q (.panic c) (a.put d v) w → Q (.panic c) a w)
    (hZ : ∀ ch env a w, Agr n env a → Same W a0 a → Z ch w → Q (.panic ch) a w)
    (hK : ∀ env a w, Agr n env a → Same W a0 a → K env w → Q .normal a w) :
    ∀ (m : Nat) (σ : Ord) (L : Held) (listed : Array Bool) (env : Env) (a : Act) (w : World), σ.len = m → okOrd P ops true σ listed = true → Hall P w L → Agr n env a → Same W a0 a →
      evSeqY Z P ops.toList n K σ L env w → wpAnyL P ops Q m L listed a w := by
  intro m
  induction m with
  | zero =>
    intro σ L listed env a w hm hok hL h hs hk
    cases σ with
    | nil =>
      simp only [okOrd, List.isEmpty_iff] at hok
      exact ⟨hok, hK env a w h hs hk⟩
    | st i o => simp [Ord.len] at hm
    | alt x y => exact hk.elim
  | succ m ih =>
    intro σ L listed env a w hm hok hL h hs hk
    cases σ with
    | nil => simp [Ord.len] at hm
    | alt x y => exact hk.elim
    | st i σ =>
      have hm2 : σ.len = m := by simpa [Ord.len] using hm
      clear hm
      have hm := hm2
      clear hm2
      unfold evSeqY at hk
      split at hk
      · exact hk.elim
      · rename_i o ho
        rw [nth_eq] at ho
        have hmem : o ∈ ops.toList := List.mem_of_getElem? ho
        have ho : ops[i]? = some o := by simpa using ho
        simp only [okOrd, ho, Bool.and_eq_true] at hok
        obtain ⟨hok1, hok2⟩ := hok
        obtain ⟨hd, hk⟩ := cond_of hk
        obtain ⟨env', h', hk⟩ := gd_of h hk
        have hput : ∀ v, Same W a0 (a.put o.dst v) := fun v => hs.put _ _ (hW o hmem)
        cases he : isEff (cls P o)
        · rw [he] at hok1
          simp only [cond, Bool.and_eq_true] at hok1
          have yield : ∀ {v : Value} {fs : List Fact}, YieldsIf P ops (fun w => Hold P w fs) o v a → Hold P w fs →
              wpAnyL P ops Q m ((i, fs) :: L) (listed.setIfInBounds i true) (a.put o.dst v) w → wpAnyL P ops Q (m + 1) L listed a w := by
            intro v fs hy hf H
            exact wpAnyL_first ho (Region.noSelect_spec hsel) (fun c a w hh => hQ c a _ v w (hW o hmem) hh) _ _ _ _ _ (Region.free_spec ho hok1.2) (by simpa using hok1.1) hy hf hL H
          rcases hk with ⟨hw, hk⟩ | ⟨hw, hk⟩
          · split at hk
            · obtain ⟨v, hr, hk⟩ := evPure_of h' hk
              exact yield (v := v) (fs := []) (.inl ⟨hw, fun w _ => hr w⟩) (fun x hx => by simp at hx) (wpAnyL_push (ih σ L _ _ _ _ hm hok2 hL (h'.put _ v (dstOk_of hd)) (hput v) hk))
            · rename_i t x hc
              have hk := h'.rd hk
              split at hk
              · rename_i p hx
                obtain ⟨ad, hpe, hk2⟩ := dr_of hk
                subst hpe
                obtain ⟨v, fs, hr, hh, hk⟩ := evLoad_of hk2
                refine yield (v := v) (fs := fs) (.inl ⟨hw, fun w hw' => load_run (cls_load hc) hx (hr w hw')⟩) hh ?_
                refine ih σ ((i, fs) :: L) _ _ _ _ hm hok2 ?_ (h'.put _ v (dstOk_of hd)) (hput v) hk
                intro y hy
                simp only [List.mem_cons] at hy
                rcases hy with rfl | hy
                · exact hh
                · exact hL y hy
              · exact hk.elim
            · exact hk.elim
            · rename_i hc
              rw [hc] at he
              cases he
          · exact yield (v := undef) (fs := []) (.inr ⟨hw, rfl⟩) (fun x hx => by simp at hx) (wpAnyL_push (ih σ L _ _ _ _ hm hok2 hL (h'.put _ undef (dstOk_of hd)) (hput undef) hk))
        · rw [he] at hok1
          simp only [cond] at hok1
          have hok1 : Region.ready .any ops listed = [i] := by simpa using hok1
          refine ⟨fun h0 => (by rw [hok1] at h0; cases h0), fun j hj => ?_⟩
          rw [hok1] at hj
          simp at hj
          subst hj
          have hdr : dropI ops j L = drop o L := by simp [dropI, ho]
          have hLd : Hall P w (dropI ops j L) := fun x hx => hL x (dropI_sub x hx)
          unfold wpOp
          simp only [ho]
          rcases hk with ⟨hw, hk⟩ | ⟨hw, hk⟩
          · rw [if_pos hw]
            refine .inl ?_
            split at hk
            · rename_i hc; rw [hc] at he; cases he
            · rename_i hc; rw [hc] at he; cases he
            · exact hk.elim
            · refine Oper.wp_mono ?_ (evEffY_of h' hk (fun ch w' hz => hZ ch _ _ _ h' hs hz))
              rintro a' w' ⟨v, rfl, hk⟩
              obtain ⟨hh, hk⟩ := heldK_of hk
              rw [hdr]
              exact ⟨hh, ih _ _ _ _ _ _ hm hok2 hh (h'.put _ v (dstOk_of hd)) (hput v) hk⟩
          · rw [if_neg (by simp [hw])]
            exact ⟨hLd, wpAnyL_weak _ _ _ _ _ _ (fun x hx => dropI_sub x hx) (ih _ _ _ _ _ _ hm hok2 hL (h'.put _ undef (dstOk_of hd)) (hput undef) hk)⟩
def evC (Z : List PanicEntry → World → Prop) (P : Program) (n : Nat) (x : Code) (h : Hint) (env : Env) (K : KX) (w : World) : Prop := match h with
  | .s .z h2 => match x with
    | .region _ ops true => cond (Region.noSelect ops && okOrd P ops true h2.ord (Array.replicate ops.size false) && Nat.beq h2.ord.len ops.size && P.follows .mixedOrders)
        (dw w fun w => evSeqY Z P ops.toList n (K .normal) h2.ord [] env w) False
    | _ => False
  | h => ev P n 400 x h env K w
def evCs (Z : List PanicEntry → World → Prop) (P : Program) (n : Nat) : List Code → List Hint → Env → KX → World → Prop
  | [], _, env, K, w => K .normal env w
  | x :: xs, hs, env, K, w => evC Z P n x (hs.headD .d) env (kN K fun env' w' => evCs Z P n xs hs.tail env' K w') w
def PoZ (Z : List PanicEntry → World → Prop) (n : Nat) (K : KX) : Exit → Act → World → Prop := fun e a w => (∃ ch, e = .panic ch ∧ a.defers = [] ∧ Z ch w) ∨ ∃ env, Agr n env a ∧ K e env w
theorem evC_sound {Z : List PanicEntry → World → Prop} {P : Program} {n : Nat} {x : Code} {h : Hint} {env : Env} {K : KX} {a : Act} {w : World} (ha : Agr n env a)
    (hk : evC Z P n x h env K w) : x.wp P (PoZ Z n K) a w := by
  have old : ∀ {h}, ev P n 400 x h env K w → x.wp P (PoZ Z n K) a w := fun hk => wp_mono (ev_sound _ _ _ _ _ _ _ ha hk) fun e a' w' ⟨env', h1, h2, _⟩ => .inr ⟨env', h1, h2⟩
  unfold evC at hk
  split at hk
  · split at hk
    · rename_i h2 _ id ops
      obtain ⟨hok, hk⟩ := cond_of hk
      simp only [Bool.and_eq_true, Nat.beq_eq] at hok
      obtain ⟨⟨⟨h1, h3⟩, h4⟩, h5⟩ := hok
      refine wp_mono (Q := fun e a' w' => match e with | .normal => PoZ Z n K .normal a' w' | .panic ch => a'.defers = [] ∧ Z ch w' | _ => False) ?_ ?_
      · refine wp_region_any h5 (wpAny_of_L _ [] _ _ _ ?_)
        exact evSeqY_draw (n := n) (K := K .normal) (Q := fun e a' w' => match e with | .normal => PoZ Z n K .normal a' w' | .panic ch => a'.defers = [] ∧ Z ch w' | _ => False)
          (W := fun t => Nat.testBit (wr (.region id ops true)) t) (a0 := a) h1 (wrO_of _) (fun c a d v w _ hh => by cases d <;> exact hh) (fun ch env a w hA _ hz => ⟨hA.defers, hz⟩)
          (fun env' a' w' h5 _ h7 => .inr ⟨env', h5, h7⟩) ops.size h2.ord [] _ env a _ h4 h3 (fun x hx => by simp at hx) ha (fun _ _ => rfl) hk
      · intro e a' w' hq
        cases e <;> first | exact hq.elim | exact hq | exact .inl ⟨_, rfl, hq.1, hq.2⟩
    · exact hk.elim
  · exact old hk
theorem evCs_sound {Z : List PanicEntry → World → Prop} {P : Program} {n : Nat} {K : KX} : ∀ (xs : List Code) (r : Code) (hs : List Hint) (env : Env) (a : Act) (w : World), Agr n env a →
    evCs Z P n (xs ++ [r]) hs env K w → (xs.foldr Code.seq r).wp P (PoZ Z n K) a w
  | [], r, hs, env, a, w, ha, hk => by
    refine wp_mono (evC_sound ha hk) ?_
    rintro e a' w' (hz | ⟨env', h1, h2⟩)
    · exact .inl hz
    · cases e <;> first | exact .inr ⟨env', h1, h2⟩ | exact h2.elim
  | x :: xs, r, hs, env, a, w, ha, hk => by
    refine Exit_then (evC_sound ha hk) ?_ ?_
    · rintro a1 w1 (⟨_, h, _⟩ | ⟨env', h1, h2⟩)
      · cases h
      · exact evCs_sound xs r _ env' a1 w1 h1 h2
    · rintro e a1 w1 he (hz | ⟨env', h1, h2⟩)
      · exact .inl hz
      · exact .inr ⟨env', h1, kN_ne he h2⟩
def fnEvY (Z : List PanicEntry → World → Prop) (P : Program) (fn : Func) (k : Nat) (hs : List Hint) (args : List Value) (w : World) (Q : Value → World → Prop) : Prop :=
  match fn.body with
  | some c => cond (Nat.ble args.length fn.ntmps) (evCs Z P fn.ntmps ((unseq k c).1 ++ [(unseq k c).2]) hs (env0 args) (finZ Z P fn Q) w) False
  | none => False
theorem calls_of_evY {Z : List PanicEntry → World → Prop} {P : Program} {k : FuncId} {fn : Func} (hf : P.funcs[k]? = some fn) (k1 : Nat) (hs : List Hint) {args : List Value} {w : World} {Q : Value → World → Prop}
    (hk : fnEvY Z P fn k1 hs args w Q) : clz Z P k args.toArray w Q := by
  unfold fnEvY at hk
  split at hk
  · rename_i c hc
    obtain ⟨hn, hk⟩ := cond_of hk
    simp only [Nat.ble_eq] at hn
    unfold clz
    refine calls_of_wp hf hc ?_
    have ha : Agr fn.ntmps (env0 args) { tmps := args.toArray ++ Array.replicate (fn.ntmps - args.toArray.size) undef, defers := [] } := by
      refine ⟨rfl, by simp; omega, fun t v ht => ?_⟩
      unfold env0 at ht
      rw [nth_eq] at ht
      have hlt : t < args.length := by
        rcases Nat.lt_or_ge t args.length with h | h
        · exact h
        · rw [List.getElem?_eq_none h] at ht; cases ht
      rw [Array.getElem?_append_left (by simpa using hlt)]
      simpa using ht
    have main := evCs_sound (K := finZ Z P fn Q) (unseq k1 c).1 (unseq k1 c).2 hs _ _ w ha hk
    rw [unseq_eq] at main
    refine wp_mono main ?_
    rintro e a' w' (⟨ch, rfl, hd, hz⟩ | ⟨env', h1, h2⟩)
    · exact ⟨hd, .inr ⟨_, rfl, hz⟩⟩
    cases e with
    | normal =>
      obtain ⟨vs, h3, h4⟩ := results_of h1 h2
      exact ⟨h1.defers, _, h3, .inl ⟨_, rfl, h4⟩⟩
    | ret =>
      obtain ⟨vs, h3, h4⟩ := results_of h1 h2
      exact ⟨h1.defers, _, h3, .inl ⟨_, rfl, h4⟩⟩
    | exit i => exact h2.elim
    | goto l => exact h2.elim
    | panic c => exact ⟨h1.defers, .inr ⟨_, rfl, h2⟩⟩
    | outgrown => exact h2.elim
  · exact hk.elim
end Go.Sx
namespace Go.Sx
open Go
theorem want1 {o : Oper} (h : o.guard = none) (f : Nat → Option Bool) : Region.wanted o f = true := by simp [Region.wanted, h]
def dfr (P : Program) (k : FuncId) (vs : List Value) (u : FrameMode) (w : World) (K : World → Prop) : Prop :=
  CallsD P k vs.toArray u w fun e u' w' => settle u' = .returning ∧ (∃ v, e = .returned v) ∧ K w'
def finD (P : Program) (fn : Func) (k : FuncId) (vs : List Value) (Q : Value → World → Prop) : KX := fun e env w => match e with
  | .normal => dfr P k vs .returning w fun w => evRes P env w fn.results.toList fun rs => Q (tup rs) w
  | .ret => dfr P k vs .returning w fun w => evRes P env w fn.results.toList fun rs => Q (tup rs) w
  | .panic ch => dfr P k vs (.panicking ch) w fun w => evRes P env w fn.results.toList fun rs => Q (tup rs) w
  | _ => False
def evLs (P : Program) (n : Nat) : List Code → List Hint → Env → KX → World → Prop
  | [], _, env, K, w => K .normal env w
  | x :: xs, hs, env, K, w => ev P n 400 x (hs.headD .d) env (kN K fun env' w' => evLs P n xs hs.tail env' K w') w
theorem evLs_sound [Dfr] {P : Program} {n : Nat} {K : KX} {rest : Code} {Q : Exit → Act → World → Prop} (hQ : ∀ e env a w, e ≠ .normal → Agr n env a → K e env w → Q e a w) (hN : ∀ env a w, Agr n env a → K .normal env w → rest.wp P Q a w) :
    ∀ (xs : List Code) (hs : List Hint) (env : Env) (a : Act) (w : World), Agr n env a → evLs P n xs hs env K w → (xs.foldr Code.seq rest).wp P Q a w
  | [], hs, env, a, w, ha, hk => hN env a w ha hk
  | x :: xs, hs, env, a, w, ha, hk => by
    refine Exit_then (ev_sound _ _ _ _ _ _ _ ha hk) ?_ ?_
    · rintro a1 w1 ⟨env', h1, h2, _⟩
      exact evLs_sound hQ hN xs _ env' a1 w1 h1 h2
    · rintro e a1 w1 he ⟨env', h1, h2, _⟩
      exact hQ e env' a1 w1 he h1 (kN_ne he h2)
def fnEvD (P : Program) (fn : Func) (j m : Nat) (hs1 hs2 : List Hint) (h3 : Hint) (args : List Value) (w : World) (Q : Value → World → Prop) : Prop :=
  match fn.body with
  | some c => match (unseq j c).2 with
    | .seq (.region _ ops false) c2 => match ops.toList with
      | [o1, o2] => match o1.op, o1.dst, o1.guard, o2.op, o2.guard, o2.dst with
        | .makeFunc (.func k) fs cs, some t, none, .defer d, none, none => match d.callee, d.args.toList, fs.toList with
          | .value (.tmp t'), [], [] => cond (Nat.beq t t' && Nat.blt t fn.ntmps && Nat.ble args.length fn.ntmps && callOk P k)
            (evLs P fn.ntmps (unseq j c).1 hs1 (env0 args) (kN (fin P fn Q) fun env w => rdL env cs.toList fun vs =>
              evLs P fn.ntmps (unseq m c2).1 hs2 (up env (some t) (.func (.func k) #[] vs.toArray)) (kN (finD P fn k vs Q) fun env w => ev P fn.ntmps 400 (unseq m c2).2 h3 env (finD P fn k vs Q) w) w) w) False
          | _, _, _ => False
        | _, _, _, _, _, _ => False
      | _ => False
    | _ => False
  | none => False
theorem calls_of_evD {P : Program} {k : FuncId} {fn : Func} (hf : P.funcs[k]? = some fn) (j m : Nat) (hs1 hs2 : List Hint) (h3 : Hint) {args : List Value} {w : World} {Q : Value → World → Prop}
    (hk : fnEvD P fn j m hs1 hs2 h3 args w Q) : cl P k args.toArray w Q := by
  unfold fnEvD at hk
  split at hk
  rotate_left
  · exact hk.elim
  rename_i c hc
  split at hk
  rotate_left
  · exact hk.elim
  rename_i id ops c2 hu
  split at hk
  rotate_left
  · exact hk.elim
  rename_i o1 o2 hops
  split at hk
  rotate_left
  · exact hk.elim
  rename_i k2 fs cs t d ho1 hd1 hg1 ho2 hg2 hd2
  split at hk
  rotate_left
  · exact hk.elim
  rename_i t' hcal hargs hfs
  obtain ⟨hn, hk2⟩ := cond_of hk
  clear hk
  simp only [Bool.and_eq_true, Nat.ble_eq, Nat.beq_eq, Nat.blt_eq] at hn
  obtain ⟨⟨⟨rfl, htn⟩, hn⟩, hok⟩ := hn
  have hops : ops = #[o1, o2] := by rw [← Array.toArray_toList (xs := ops), hops]
  have hargs : d.args = #[] := by rw [← Array.toArray_toList (xs := d.args), hargs]
  have hfs : fs = #[] := by rw [← Array.toArray_toList (xs := fs), hfs]
  subst hops hfs
  have hseq := unseq_eq j c
  rw [hu] at hseq
  unfold cl
  refine calls_of_wp_defers hf hc ?_
  have ha : Agr fn.ntmps (env0 args) { tmps := args.toArray ++ Array.replicate (fn.ntmps - args.toArray.size) undef, defers := [] } := by
    refine ⟨rfl, by simp; omega, fun t v ht => ?_⟩
    unfold env0 at ht
    rw [nth_eq] at ht
    have hlt : t < args.length := by
      rcases Nat.lt_or_ge t args.length with h | h
      · exact h
      · rw [List.getElem?_eq_none h] at ht; cases ht
    rw [Array.getElem?_append_left (by simpa using hlt)]
    simpa using ht
  rw [← hseq]
  have bodyQ : ∀ {e : Exit} {env : Env} {a : Act} {w : World}, Agr fn.ntmps env a → fin P fn Q e env w → bodyPostD P fn (fun e w => ∃ v, e = .returned v ∧ Q v w) e a w := by
    intro e env a w hA hK
    have hd : a.defers = [] := hA.defers
    cases e with
    | normal =>
      obtain ⟨vs, h3, h4⟩ := results_of hA hK
      simp only [bodyPostD, hd, Leaves]
      exact ⟨_, h3, _, rfl, h4⟩
    | ret =>
      obtain ⟨vs, h3, h4⟩ := results_of hA hK
      simp only [bodyPostD, hd, Leaves]
      exact ⟨_, h3, _, rfl, h4⟩
    | exit i => exact hK.elim
    | goto l => exact hK.elim
    | panic c => exact hK.elim
    | outgrown => exact hK.elim
  refine evLs_sound (K := kN (fin P fn Q) fun env w => rdL env cs.toList fun vs => evLs P fn.ntmps (unseq m c2).1 hs2 (up env (some t) (.func (.func k2) #[] vs.toArray)) (kN (finD P fn k2 vs Q) fun env w => ev P fn.ntmps 400 (unseq m c2).2 h3 env (finD P fn k2 vs Q) w) w)
    (fun e env a w he hA hK => bodyQ hA (kN_ne he hK)) (fun env a w hA hK => ?_) _ _ _ _ w ha hk2
  replace hK := hA.rdL hK
  have r1 : (execOp a.eval o1).run P w = .ok (.value (.func (.func k2) #[] (cs.toList.map a.eval).toArray)) w := by
    simp [execOp, ho1, Instr.makeFunc, map_list]
  generalize cs.toList.map a.eval = us at hK r1
  let D : Deferred := { target := .fn (.func k2) us.toArray, args := #[] }
  refine Exit_then (R := fun e a' w' => e = .normal ∧ w' = w ∧ a' = { tmps := (a.put (some t) (.func (.func k2) #[] us.toArray)).tmps, defers := [D] }) ?_ ?_ ?_
  · refine wp_region ?_
    have e0 : List.range (#[o1, o2] : Array Oper).size = [0, 1] := rfl
    have g1 : (#[o1, o2] : Array Oper)[0]? = some o1 := rfl
    have g2 : (#[o1, o2] : Array Oper)[1]? = some o2 := rfl
    rw [e0, wpOps_cons]
    unfold wpOp
    simp only [g1]
    rw [if_pos (want1 hg1 _)]
    refine .inl ?_
    unfold Oper.wp
    rw [r1]
    show wpOps P #[o1, o2] _ [1] (a.put o1.dst _) w
    rw [hd1]
    rw [wpOps_cons]
    unfold wpOp
    simp only [g2]
    rw [if_pos (want1 hg2 _)]
    refine .inl ?_
    have ht : (a.put (some t) (.func (.func k2) #[] us.toArray)).eval (.tmp t) = .func (.func k2) #[] us.toArray := by
      have hz : t < a.tmps.size := by rw [hA.size]; exact htn
      simp [Act.put, Act.eval, Array.getD_eq_getD_getElem?, Array.getElem?_setIfInBounds_self_of_lt hz]
    have r2 : (execOp (a.put (some t) (.func (.func k2) #[] us.toArray)).eval o2).run P w = .ok (.defer D) w := by
      simp [execOp, ho2, resolve, hcal, ht, Deferred.ofValue, hargs, D]
    unfold Oper.wp
    rw [r2]
    have hd : a.defers = [] := hA.defers
    refine ⟨rfl, rfl, ?_⟩
    simp [Act.put, hd, hd2]
  · rintro _ _ ⟨-, rfl, rfl⟩
    have hA2 : @Agr ⟨[D]⟩ fn.ntmps (up env (some t) (.func (.func k2) #[] us.toArray)) { tmps := (a.put (some t) (.func (.func k2) #[] us.toArray)).tmps, defers := [D] } := by
      have := hA.put (some t) (.func (.func k2) #[] us.toArray) (by rintro _ ⟨⟩; exact htn)
      exact @Agr.mk ⟨[D]⟩ _ _ _ rfl this.size this.tmps
    have hseq2 := unseq_eq m c2
    rw [← hseq2]
    have lv : ∀ {u : FrameMode} {env : Env} {a : Act} {w : World}, u ≠ .run → @Agr ⟨[D]⟩ fn.ntmps env a → dfr P k2 us u w (fun w => evRes P env w fn.results.toList fun rs => Q (tup rs) w) →
        Leaves P fn a.tmps (fun e w => ∃ v, e = .returned v ∧ Q v w) [D] u w := by
      intro u env a w hu hA hK
      refine leaves_cons (f := k2) (args := us.toArray) hu (by simp [invoke, callOk_run hok]) (CallsD.mono hK ?_)
      rintro e u' w' ⟨hs, ⟨v, rfl⟩, hr⟩
      simp only [hs, Leaves]
      obtain ⟨vs, h3, h4⟩ := @results_of ⟨[D]⟩ _ _ _ _ _ _ hA _ hr
      exact ⟨_, h3, _, rfl, h4⟩
    have bodyD : ∀ {e : Exit} {env : Env} {a : Act} {w : World}, @Agr ⟨[D]⟩ fn.ntmps env a → finD P fn k2 us Q e env w → bodyPostD P fn (fun e w => ∃ v, e = .returned v ∧ Q v w) e a w := by
      intro e env a w hA hK
      have hd : a.defers = [D] := @Agr.defers ⟨[D]⟩ _ _ _ hA
      cases e with
      | normal => simp only [bodyPostD, hd]; exact lv (by simp) hA hK
      | ret => simp only [bodyPostD, hd]; exact lv (by simp) hA hK
      | panic ch => simp only [bodyPostD, hd]; exact lv (by simp) hA hK
      | exit i => exact hK.elim
      | goto l => exact hK.elim
      | outgrown => exact hK.elim
    exact @evLs_sound ⟨[D]⟩ P fn.ntmps (kN (finD P fn k2 us Q) fun env w => ev P fn.ntmps 400 (unseq m c2).2 h3 env (finD P fn k2 us Q) w) _ (bodyPostD P fn (fun e w => ∃ v, e = .returned v ∧ Q v w)) (fun e env a w he hA hK => bodyD hA (kN_ne he hK)) (fun env a w hA hK => wp_mono (@ev_sound ⟨[D]⟩ _ _ _ _ _ _ _ _ _ hA hK) fun e a w ⟨env, h1, h2, _⟩ => bodyD h1 h2) _ hs2 _ _ _ hA2 hK
  · rintro e a1 w1 he ⟨h, _⟩
    exact absurd h he
theorem opV {P : Program} {ops : Array Oper} {Q : Exit → Act → World → Prop} {i : Nat} {l : List Nat} {o : Oper} {a : Act} {w w' : World} {v : Value} (ho : ops[i]? = some o) (hg : o.guard = none)
    (hr : (execOp a.eval o).run P w = .ok (.value v) w') (h : wpOps P ops Q l (a.put o.dst v) w') : wpOps P ops Q (i :: l) a w := by
  rw [wpOps_cons]
  unfold wpOp
  simp only [ho]
  rw [if_pos (want1 hg _)]
  refine .inl ?_
  unfold Oper.wp
  rw [hr]
  exact h
theorem dfr_of {P : Program} {k : FuncId} {fn : Func} {i0 : Nat} {o : Oper} {c2 : Code} {d : Nat} (hf : P.funcs[k]? = some fn) (hb : fn.body = some (.seq (.region i0 #[o] false) c2)) (ho : o.op = .call { callee := .builtin .recover, args := #[], argTypes := #[] })
    (hgd : o.guard = none) (hd : o.dst = some d) (hres : fn.results = #[]) {vs : List Value} {u : FrameMode} {w : World} {K : World → Prop} {v : Value}
    (hu : (u = .returning ∧ v = .nilIface) ∨ u = .panicking [{ v := v, recovered := false }])
    (h : c2.wp P (fun e a w => e = .normal ∧ a.defers = [] ∧ K w) ((⟨vs.toArray ++ Array.replicate (fn.ntmps - vs.toArray.size) undef, []⟩ : Act).put (some d) v) w) : dfr P k vs u w K := by
  unfold dfr
  refine callsD_of_wpS hf hb fun c₀ cs hm => ?_
  refine wpS_seq ?_
  refine wpS_region ?_
  have hop : ∀ a : Act, (execOp a.eval o).run P w = .ok .recover w := fun a => by simp [execOp, ho, resolve, invoke, builtin]
  have h0 : (List.range (#[o] : Array Oper).size) = [0] := rfl
  rw [h0]
  have h1 : (#[o] : Array Oper)[0]? = some o := rfl
  have hr0 : ∀ (ts : Array Value) (w : World), (results fn ts).run P w = .ok (.tuple #[]) w := fun ts w => by
    rw [results_eq, hres]
    simp
  have post : ∀ {u' : FrameMode} {cs' : List Frame}, cs' = { c₀ with mode := u' } :: cs → settle u' = .returning →
      c2.wpS P (bodyPostS P fn c₀ cs fun e u' w' => settle u' = .returning ∧ (∃ v, e = .returned v) ∧ K w') ((⟨vs.toArray ++ Array.replicate (fn.ntmps - vs.toArray.size) undef, []⟩ : Act).put (some d) v) cs' w := by
    intro u' cs' hcs hst
    refine wpS_of_wp (wp_mono h ?_)
    rintro e a w' ⟨rfl, hdf, hK⟩
    exact ⟨hdf, u', hcs, _, hr0 _ _, hst, ⟨_, rfl⟩, hK⟩
  rcases hu with ⟨rfl, rfl⟩ | rfl
  · have hrec : recoverD (c₀ :: cs) = none := by
      unfold recoverD
      simp only [hm]
    simp only [wpOpsS, h1, if_pos (want1 hgd _), hop, hrec, hd]
    exact post (u' := .returning) (by cases c₀; simp only at hm; subst hm; rfl) rfl
  · have hrec : recoverD (c₀ :: cs) = some (v, { c₀ with mode := .panicking [{ v := v, recovered := true }] } :: cs) := by
      unfold recoverD
      simp only [hm]
    simp only [wpOpsS, h1, if_pos (want1 hgd _), hop, hrec, hd]
    exact post rfl rfl
end Go.Sx
