/- BitsTakes: the law BitsTakes comes out true for every input of at most 2^44 bytes: which numbers a reader takes. Conditions: those of the law's arguments as they are read, and that length. -/
import Derived.Test.YtddljkkcpekcjaaBitsSame
namespace Go.Proofs.Ytddljkkcpekcjaa
open Go Go.Sx

theorem s29 : SlT Try.prog 29 4 (.bool false) 1 := ⟨rfl, ⟨_, rfl, rfl, rfl, rfl⟩, rfl⟩

theorem bv_rep (n : Nat) : List.replicate n (Value.int .u8 0) = bv (List.replicate n 0) := by simp [bv]

/-- Lent: a copy with three marks behind it -/
theorem lent_k {w : World} {q : Option Addr} {n cq : Nat} {bs : List Nat} (hr : Reads w q (bv bs)) (hn : bs.length = n) (hl : n ≤ 140737488351232) {K : Value → World → Prop}
    (hK : ∀ p w', Ext no w w' → Row w' w.heap.size 5 p (n + 3) (bv (bs ++ [77, 77, 77])) → K (.slice p n (n + 3)) w') :
    cl Try.prog 10 #[.slice q n cq] w K := by
  apply F10_calls
  unfold F10
  have e3 : IntKind.wrap .i64 ((n : Int) + 3) = ((n + 3 : Nat) : Int) := by rw [wr64 (by omega) (by omega)]; omega
  rw [e3]
  refine s22.makeNC (by omega) (by omega) (le_maxLen (by omega)) ?_
  intro w1 row1 x1
  refine asS_i rfl ?_
  refine s22.copy row1 (by simp) (hr.ext x1 fun _ _ h => h) (by rw [bv_length, hn]) rfl bv_one ?_
  intro w2 row2 x2
  have x12 : Ext no w w2 := x1.then x2 fun k hk ⟨a, ha, hak⟩ => by
    have := (row1.at ha).1
    omega
  refine asI_i rfl (bn2_mk (by omega) (by omega) (lv_i ?_))
  have e5 : bv bs ++ List.drop (bv bs).length (List.replicate (n + 3) (Value.int .u8 0)) = bv (bs ++ List.replicate 3 0) := by
    rw [bv_append, ← bv_rep, bv_length, List.drop_replicate, hn]
    congr 2
    omega
  rw [e5] at row2
  refine lp_mk (fun j : Nat => [.int .i64 ((n + j : Nat) : Int)])
    (fun m j w' => m = 3 - j ∧ j ≤ 3 ∧ Ext no w w' ∧ Row w' w.heap.size 5 (some ⟨w.heap.size, 0, none⟩) (n + 3) (bv (bs ++ (List.replicate j 77 ++ List.replicate (3 - j) 0)))) 3 0 rfl ⟨rfl, by omega, x12, row2⟩ ?_
  rintro _ j w3 ⟨rfl, hj, x3, row3⟩ J hJ
  refine asI_i rfl (cond_split (fun hc => ?_) (fun hc => ?_))
  · have hj3 : j < 3 := by
      simp only [Int.toNat_natCast, decide_eq_true_eq] at hc
      omega
    rw [Int.toNat_natCast (n := n + 3)]
    refine row3.st (by omega) (by rw [Int.toNat_natCast, bv_length]; simp; omega) (by rw [bv_length]; simp; omega) rfl ?_
    intro w4 row4 x4 _
    have e4 : IntKind.wrap .i64 (((n + j : Nat) : Int) + 1) = ((n + (j + 1) : Nat) : Int) := by rw [wr64 (by omega) (by omega)]; omega
    refine lv_i ?_
    rw [e4]
    refine hJ (3 - (j + 1)) (j + 1) w4 (by omega) ⟨rfl, by omega, x3.then x4 fun k hk ⟨a, ha, hak⟩ => by have := (row3.at ha).1; omega, ?_⟩
    have es : (bs ++ (List.replicate j 77 ++ List.replicate (3 - j) 0)).set (n + j) 77 = bs ++ (List.replicate (j + 1) 77 ++ List.replicate (3 - (j + 1)) 0) := by
      subst hn
      rw [List.set_append_right _ _ (by omega)]
      congr 1
      have : j = 0 ∨ j = 1 ∨ j = 2 := by omega
      have e : bs.length + j - bs.length = j := by omega
      rw [e]
      rcases this with rfl | rfl | rfl <;> rfl
    rw [Int.toNat_natCast, show (Value.int .u8 77) = .int .u8 ((77 : Nat) : Int) from rfl, bv_set, es] at row4
    exact row4
  · have hj3 : j = 3 := by
      simp only [Int.toNat_natCast, decide_eq_false_iff_not] at hc
      omega
    subst hj3
    exact hK _ w3 x3 row3

/-- Kept: lent bytes stand as they did -/
theorem kept_k {w : World} {base : Nat} {p q : Option Addr} {n cq : Nat} {bs : List Nat} (hrow : Row w base 5 p (n + 3) (bv (bs ++ [77, 77, 77]))) (hq : Reads w q (bv bs)) (hn : bs.length = n) (hl : n ≤ 140737488351232) (hap : bs ≠ [] → Apart q p) {K : Value → World → Prop}
    (hK : ∀ w', Ext (blocks p) w w' → K (.bool true) w') :
    cl Try.prog 12 #[.slice p n (n + 3), .slice q n cq] w K := by
  apply F12_calls
  unfold F12
  have e3 : IntKind.wrap .i64 ((n : Int) + 3) = ((n + 3 : Nat) : Int) := by rw [wr64 (by omega) (by omega)]; omega
  rw [e3]
  refine jn_mk (cond_t (by simp) (asB_i rfl (cond_f (by simp) (bn2_mk (by omega) (by omega) (lv_i ?_)))))
  refine lp_mk (fun s : Nat × List Nat => [.int .i64 (s.1 : Int)])
    (fun m s w' => m = n + 3 - s.1 ∧ s.1 ≤ n + 3 ∧ Ext (blocks p) w w' ∧ Row w' base 5 p (n + 3) (bv s.2) ∧ s.2.length = n + 3 ∧ ∀ j, s.1 ≤ j → s.2[j]? = (bs ++ [77, 77, 77])[j]?) (n + 3) (0, bs ++ [77, 77, 77]) rfl
    ⟨rfl, by omega, Ext.refl _ _, hrow, by simp [hn], fun _ _ => rfl⟩ ?_
  rintro _ ⟨i, ys⟩ w1 ⟨rfl, hi, x1, row1, hlen, hys⟩ J hJ
  simp only at hi row1 hlen hys hJ ⊢
  refine asI_i rfl (cond_split (fun hc => ?_) (fun hc => hK _ x1))
  have hi3 : i < n + 3 := by
    simp only [Int.toNat_natCast, decide_eq_true_eq] at hc
    omega
  have hyi := hys i (Nat.le_refl _)
  have hyget : ys.getD i 0 = (bs ++ [77, 77, 77]).getD i 0 := by rw [List.getD_eq_getElem?_getD, List.getD_eq_getElem?_getD, hyi]
  rw [Int.toNat_natCast (n := n + 3)]
  refine jn_of (fun s w' => s = [.bool false] ∧ w' = w1.drew) ?_ ?_
  · rintro _ _ ⟨rfl, rfl⟩
    have row1d := row1.ext (Ext.drew w1) fun _ _ h => h
    refine asB_i rfl (cond_f rfl ?_)
    refine row1d.reads.at (by omega) (by rw [Int.toNat_natCast]; exact bv_get (by omega)) ?_ (by rw [bv_length]; omega)
    refine asI_i rfl (row1d.st (by omega) (by rw [Int.toNat_natCast, bv_length]; omega) (by rw [bv_length]; omega) rfl ?_)
    intro w2 row2 x2 _
    have ei : IntKind.wrap .i64 ((i : Int) + 1) = ((i + 1 : Nat) : Int) := by rw [wr64 (by omega) (by omega)]; omega
    refine lv_i ?_
    rw [ei]
    have hx : ∀ y : Nat, ∃ v : Nat, Go.bits .xor .u8 (y : Int) 255 = (v : Int) := by
      intro y
      refine ⟨(Go.bits .xor .u8 (y : Int) 255).toNat, ?_⟩
      have : 0 ≤ Go.bits .xor .u8 (y : Int) 255 := by
        simp only [Go.bits]
        have : ∀ a : Int, 0 ≤ IntKind.wrap .u8 a := by
          intro a
          have : IntKind.wrap .u8 a = a % 256 := by simp [IntKind.wrap, IntKind.bits, IntKind.signed]
          omega
        exact this _
      omega
    obtain ⟨v, hv⟩ := hx (ys.getD i 0)
    rw [hv, Int.toNat_natCast, bv_set] at row2
    have xd : Ext (blocks p) w1 w2 := ((Ext.drew w1).mono fun _ _ h => h.elim).trans x2
    refine hJ (n + 3 - (i + 1)) (i + 1, ys.set i v) w2 (by omega) ⟨rfl, by simp only; omega, x1.trans xd, row2, by simp [hlen], fun j hj => ?_⟩
    simp only at hj ⊢
    rw [List.getElem?_set_ne (by omega)]
    exact hys j (by omega)
  · intro J2 hJ2
    have row1d := row1.ext (Ext.drew w1) fun _ _ h => h
    refine dw_mk (cond_split (fun hs => ?_) (fun hs => ?_))
    · have hin : i < n := by simpa using hs
      have hbne : bs ≠ [] := by intro h; subst h; simp at hn; omega
      have hq1 : Reads w1.drew q (bv bs) := (hq.ext x1 fun a ha ⟨b, hb, hab⟩ => hap hbne a b ha hb hab.symm).ext (Ext.drew w1) fun _ _ h => h
      refine row1d.reads.at (by omega) (by rw [Int.toNat_natCast]; exact bv_get (by omega)) ?_ (by rw [bv_length]; omega)
      refine asI_i rfl ?_
      refine hq1.at (by omega) (by rw [Int.toNat_natCast]; exact bv_get (by omega)) ?_ (by rw [bv_length]; omega)
      have e : ys.getD i 0 = bs.getD i 0 := by
        rw [hyget, List.getD_eq_getElem?_getD, List.getElem?_append_left (by omega), ← List.getD_eq_getElem?_getD]
      rw [e]
      exact asI_i rfl (cond_f (by simp) (cond_f (by simp; omega) (hJ2 _ _ ⟨rfl, rfl⟩)))
    · have hin : n ≤ i := by simpa using hs
      refine cond_t (by simp; omega) ?_
      refine row1d.reads.at (by omega) (by rw [Int.toNat_natCast]; exact bv_get (by omega)) ?_ (by rw [bv_length]; omega)
      have e : ys.getD i 0 = 77 := by
        rw [hyget, List.getD_eq_getElem?_getD, List.getElem?_append_right (by omega)]
        have : i - bs.length = 0 ∨ i - bs.length = 1 ∨ i - bs.length = 2 := by omega
        rcases this with h | h | h <;> rw [h] <;> rfl
      rw [e]
      exact asI_i rfl (hJ2 _ _ ⟨by simp, rfl⟩)

/-- Row: the bits of bytes -/
theorem row_k {w : World} {q : Option Addr} {n cq : Nat} {bs : List Nat} (hr : Reads w q (bv bs)) (hn : bs.length = n) (small : ∀ b ∈ bs, b < 256) (hl : n ≤ 17592186044416) {K : Value → World → Prop}
    (hK : ∀ p c w', Ext no w w' → Row w' w.heap.size 4 p c (tv (bitsTo bs (8 * n))) → K (.slice p (8 * n) c) w') :
    cl Try.prog 13 #[.slice q n cq] w K := by
  apply F13_calls
  unfold F13
  refine lv_i ?_
  refine lp_mk (fun s : Option Addr × Nat × Nat => [.slice s.1 s.2.2 s.2.1, .int .i64 (s.2.2 : Int)])
    (fun m s w' => m = 8 * n - s.2.2 ∧ s.2.2 ≤ 8 * n ∧ Ext (ge w.heap.size) w w' ∧ Row w' w.heap.size 4 s.1 s.2.1 (tv (bitsTo bs s.2.2))) (8 * n) (none, 0, 0) rfl ⟨rfl, Nat.zero_le _, Ext.refl _ _, Row.nil _ _ _⟩ ?_
  rintro _ ⟨p, c, i⟩ w1 ⟨rfl, hi, x1, row1⟩ J hJ
  simp only at hi row1 hJ ⊢
  refine asS_i rfl (asI_i rfl ?_)
  have e8 : IntKind.wrap .i64 (8 * (n : Int)) = ((8 * n : Nat) : Int) := by rw [wr64 (by omega) (by omega)]; omega
  rw [e8]
  refine cond_split (fun hc => ?_) (fun hc => ?_)
  · have hi8 : i < 8 * n := by
      simp only [decide_eq_true_eq] at hc
      omega
    have e1 : IntKind.wrap .i64 (Int.tdiv (i : Int) 8) = ((i / 8 : Nat) : Int) := by rw [tdiv8, wr64 (by omega) (by omega)]
    have e2 : IntKind.wrap .i64 ((7 : Int) - Int.tmod (i : Int) 8) = ((7 - i % 8 : Nat) : Int) := by rw [tmod8, wr64 (by omega) (by omega)]; omega
    rw [e1]
    refine (hr.old x1 (Nat.le_refl _)).at (by omega) (by rw [Int.toNat_natCast]; exact bv_get (by omega)) ?_ (by rw [bv_length]; omega)
    refine asI_i rfl ?_
    rw [e2]
    refine nn_mk (by omega) ?_
    have hmin : min (Int.toNat ((7 - i % 8 : Nat) : Int)) 8 = 7 - i % 8 := by rw [Int.toNat_natCast]; omega
    have hx : bs.getD (i / 8) 0 < 256 := getD_small small _
    rw [hmin, bit_out hx]
    have hb : ((((bs.getD (i / 8) 0).testBit (7 - i % 8)).toNat : Int) == 1) = bitOf bs i := by
      unfold bitOf
      cases (bs.getD (i / 8) 0).testBit (7 - i % 8) <;> rfl
    rw [hb]
    refine s29.app1 row1 (by rw [tv_length, bitsTo_length]) x1.size rfl (le_maxLen (by omega)) (by omega) ?_
    intro p' c' w2 row2 x2 m2
    have ei : IntKind.wrap .i64 ((i : Int) + 1) = ((i + 1 : Nat) : Int) := by rw [wr64 (by omega) (by omega)]; omega
    refine asS_i rfl (lv_i ?_)
    rw [ei]
    have et : tv (bitsTo bs i) ++ [.bool (bitOf bs i)] = tv (bitsTo bs (i + 1)) := by simp [tv, bitsTo, List.range_succ]
    rw [et] at row2
    exact hJ (8 * n - (i + 1)) (p', c', i + 1) w2 (by omega) ⟨rfl, by simp only; omega, x1.trans (x2.mono fun k _ ⟨a, ha, hk⟩ => by have := (row1.at ha).1; show w.heap.size ≤ k; omega), row2⟩
  · have hi8 : i = 8 * n := by
      simp only [decide_eq_false_iff_not] at hc
      omega
    subst hi8
    exact hK p c w1 (Ext.to_no x1 (Nat.le_refl _)) row1

/-- the document's Take -/
def rtE (L : List Bool) (n : Int) : Int := if n < 0 ∨ 63 < n then 1 else if (L.length : Int) < n then 3 else 0
def rtV (L : List Bool) (n : Int) : Int := if rtE L n = 0 then (rdv (fun i => L.getD i false) 0 n.toNat : Int) else 0
def rtN (L : List Bool) (n : Int) : Nat := if rtE L n = 0 then n.toNat else 0

theorem rtake_k {w : World} {p : Option Addr} {ln c : Nat} {L : List Bool} (hr : Reads w p (tv L)) (hn : L.length = ln) (hc : ln ≤ c) {n : Int} {K : Value → World → Prop}
    (hK : ∀ p' c' w', Ext no w w' → Reads w' p' (tv (L.drop (rtN L n))) → ln - rtN L n ≤ c' → (∀ a, p' = some a → ∃ b, p = some b ∧ b.block = a.block) → K (.tuple #[.int .i64 (rtV L n), .slice p' (ln - rtN L n) c', .int .i64 (rtE L n)]) w') :
    cl Try.prog 15 #[.slice p ln c, .int .i64 n] w K := by
  subst hn
  have bad : ∀ e : Int, rtE L n = e → e ≠ 0 → K (.tuple #[.int .i64 0, .slice p L.length c, .int .i64 e]) w := by
    intro e he h0
    have hne : rtE L n ≠ 0 := by rw [he]; exact h0
    have hv : rtV L n = 0 := by simp [rtV, hne]
    have hN : rtN L n = 0 := by simp [rtN, hne]
    have := hK p c w (Ext.refl _ _) (by rw [hN]; simpa using hr) (by omega) (fun a ha => ⟨a, ha, rfl⟩)
    rw [hv, hN, he] at this
    exact this
  apply F15_calls
  unfold F15
  refine lv_i (lv_i (jn_mk (cond_split (fun h0 => asB_i rfl (cond_t rfl (lv_i (lv_i (bad 1 ?_ (by decide)))))) (fun h0 => asB_i rfl (cond_split (fun h1 => lv_i (lv_i (bad 1 ?_ (by decide)))) (fun h1 => ?_))))))
  · unfold rtE; rw [if_pos (.inl (by simpa using h0))]
  · unfold rtE; rw [if_pos (.inr (by simpa using h1))]
  simp only [decide_eq_false_iff_not, Int.not_lt, gt_iff_lt] at h0 h1
  refine cond_split (fun h2 => lv_i (lv_i (bad 3 ?_ (by decide)))) (fun h2 => lv_i (lv_i ?_))
  · unfold rtE; rw [if_neg (by omega), if_pos (by simpa using h2)]
  simp only [decide_eq_false_iff_not, Int.not_lt, gt_iff_lt] at h2
  obtain ⟨N, rfl⟩ : ∃ N : Nat, n = (N : Int) := ⟨n.toNat, by omega⟩
  have he : rtE L (N : Int) = 0 := by unfold rtE; rw [if_neg (by omega), if_neg (by omega)]
  have hv : rtV L (N : Int) = (rdv (fun i => L.getD i false) 0 N : Nat) := by simp [rtV, he]
  have hN : rtN L (N : Int) = N := by simp [rtN, he]
  rw [he, hv, hN] at hK
  refine lp_mk (fun i : Nat => [.int .i64 ((rdv (fun i => L.getD i false) 0 i : Nat) : Int), .int .i64 (i : Int)]) (fun m i w' => m = N - i ∧ i ≤ N ∧ w = w') N 0 rfl ⟨rfl, by omega, rfl⟩ ?_
  rintro _ i _ ⟨rfl, hi, rfl⟩ J hJ
  refine asI_i rfl (asI_i rfl (cond_split (fun hc1 => ?_) (fun hc1 => ?_)))
  · have hiN : i < N := by simpa using hc1
    have ei : IntKind.wrap .i64 ((i : Int) + 1) = ((i + 1 : Nat) : Int) := by rw [wr64 (by omega) (by omega)]; omega
    have hlt := rdv_lt (fun i => L.getD i false) 0 i
    have hlt' := rdv_lt (fun i => L.getD i false) 0 (i + 1)
    have hp := pow_le_of (show i ≤ 62 by omega)
    have hp' := pow_le_of (show i + 1 ≤ 63 by omega)
    have h62 : (2 : Nat) ^ 62 = 4611686018427387904 := by decide
    have h63 : (2 : Nat) ^ 63 = 9223372036854775808 := by decide
    have e2 : IntKind.wrap .i64 ((2 : Int) * ((rdv (fun i => L.getD i false) 0 i : Nat) : Int)) = ((2 * rdv (fun i => L.getD i false) 0 i : Nat) : Int) := by rw [wr64 (by omega) (by omega)]; omega
    have hstep : rdv (fun i => L.getD i false) 0 (i + 1) = 2 * rdv (fun i => L.getD i false) 0 i + (L.getD i false).toNat := by simp [rdv]
    refine jn_of (fun s w' => s = [.int .i64 ((rdv (fun i => L.getD i false) 0 (i + 1) : Nat) : Int)] ∧ w = w') ?_ ?_
    · rintro _ _ ⟨rfl, rfl⟩
      refine asI_i rfl (lv_i ?_)
      rw [ei]
      exact hJ (N - (i + 1)) (i + 1) _ (by omega) ⟨rfl, by omega, rfl⟩
    · intro J2 hJ2
      refine lv_i ?_
      refine hr.at (by omega) (by rw [Int.toNat_natCast]; exact tv_get (by omega)) ?_ (by rw [tv_length]; exact Nat.le_refl _)
      refine asB_i rfl (cond_split (fun hb => lv_i (hJ2 _ _ ⟨?_, rfl⟩)) (fun hb => hJ2 _ _ ⟨?_, rfl⟩))
      · rw [hb] at hstep
        simp only [Bool.toNat_true] at hstep
        rw [e2, wr64 (by omega) (by omega), hstep]
        simp
      · rw [hb] at hstep
        simp only [Bool.toNat_false, Nat.add_zero] at hstep
        rw [e2, hstep]
  · have hiN : i = N := by
      have : ¬ i < N := by simpa using hc1
      omega
    subst hiN
    refine dw_mk (bn2_mk (by omega) (by omega) (lv_i (lv_i ?_)))
    rw [Int.toNat_natCast]
    have hd : Reads w.drew p (tv L) := hr.ext (Ext.drew w) fun _ _ h => h
    have := hd.drop (c := c) (n := i) (by rw [tv_length]; exact hc)
    refine hK _ _ _ (Ext.drew w) ?_ (by omega) (fun a ha => slp_block ha)
    simpa [tv, List.map_drop] using this

/-- the document's Done -/
def rDone (L : List Bool) : Bool := decide (L.length < 8 ∧ ∀ i, i < L.length → L.getD i false = false)

theorem rdone_k {w : World} {p : Option Addr} {ln c : Nat} {L : List Bool} (hr : Reads w p (tv L)) (hn : L.length = ln) (hl : ln ≤ 1125899906842624) {K : Value → World → Prop} (hK : K (.bool (rDone L)) w) :
    cl Try.prog 16 #[.slice p ln c] w K := by
  subst hn
  apply F16_calls
  unfold F16
  refine lv_i (lp_mk (fun i : Nat => [.int .i64 (i : Int)]) (fun m i w' => m = L.length - i ∧ i ≤ L.length ∧ w = w' ∧ ∀ j, j < i → L.getD j false = false) L.length 0 rfl ⟨rfl, by omega, rfl, by omega⟩ ?_)
  rintro _ i _ ⟨rfl, hi, rfl, hz⟩ J hJ
  refine asI_i rfl (cond_split (fun hc => ?_) (fun hc => ?_))
  · have hil : i < L.length := by simpa using hc
    refine hr.at (by omega) (by rw [Int.toNat_natCast]; exact tv_get hil) ?_ (by rw [tv_length]; exact Nat.le_refl _)
    refine asB_i rfl (cond_split (fun hb => ?_) (fun hb => lv_i ?_))
    · have : rDone L = false := by
        simp only [rDone, decide_eq_false_iff_not]
        intro h
        have := h.2 i hil
        rw [hb] at this
        cases this
      rw [← this]
      exact hK
    · have ei : IntKind.wrap .i64 ((i : Int) + 1) = ((i + 1 : Nat) : Int) := by rw [wr64 (by omega) (by omega)]; omega
      rw [ei]
      refine hJ (L.length - (i + 1)) (i + 1) _ (by omega) ⟨rfl, by omega, rfl, fun j hj => ?_⟩
      by_cases hji : j = i
      · subst hji; exact hb
      · exact hz j (by omega)
  · have hil : i = L.length := by
      have : ¬ i < L.length := by simpa using hc
      omega
    subst hil
    have : rDone L = decide ((L.length : Int) < 8) := by
      simp only [rDone]
      congr 1
      apply propext
      constructor
      · intro h; omega
      · intro h; exact ⟨by omega, hz⟩
    rw [← this]
    exact hK

theorem drop_get (bs : List Nat) (at' m i : Nat) (h : at' + i < m) : ((bitsTo bs m).drop at').getD i false = bitOf bs (at' + i) := by
  rw [List.getD_eq_getElem?_getD, List.getElem?_drop, bitsTo_get h]
  rfl

/-- the document's answers are the reader's -/
theorem same_take {bs : List Nat} {at' : Nat} (h : at' ≤ 8 * bs.length) (n : Int) :
    rtE ((bitsTo bs (8 * bs.length)).drop at') n = takeE bs at' n ∧ rtV ((bitsTo bs (8 * bs.length)).drop at') n = takeV bs at' n ∧ at' + rtN ((bitsTo bs (8 * bs.length)).drop at') n = takeA bs at' n := by
  have hlen : ((bitsTo bs (8 * bs.length)).drop at').length = 8 * bs.length - at' := by rw [List.length_drop, bitsTo_length]
  have he : rtE ((bitsTo bs (8 * bs.length)).drop at') n = takeE bs at' n := by simp only [rtE, takeE, hlen]
  refine ⟨he, ?_, ?_⟩
  · unfold rtV takeV
    rw [he]
    by_cases h0 : takeE bs at' n = 0
    · rw [if_pos h0, if_pos h0]
      congr 1
      have hb : n.toNat ≤ 8 * bs.length - at' := by
        unfold takeE at h0
        split at h0
        · cases h0
        · split at h0
          · cases h0
          · omega
      refine rdv_congr _ fun i hi => ?_
      rw [Nat.zero_add, drop_get _ _ _ _ (by omega)]
    · rw [if_neg h0, if_neg h0]
  · unfold rtN takeA
    rw [he]
    split <;> omega

theorem same_done {bs : List Nat} {at' : Nat} : rDone ((bitsTo bs (8 * bs.length)).drop at') = doneB bs at' := by
  have hlen : ((bitsTo bs (8 * bs.length)).drop at').length = 8 * bs.length - at' := by rw [List.length_drop, bitsTo_length]
  unfold rDone doneB
  rw [hlen]
  congr 1
  apply propext
  constructor
  · rintro ⟨h1, h2⟩
    exact ⟨h1, fun i hi => by have := h2 i hi; rwa [drop_get _ _ _ _ (by omega)] at this⟩
  · rintro ⟨h1, h2⟩
    exact ⟨h1, fun i hi => by rw [drop_get _ _ _ _ (by omega)]; exact h2 i hi⟩

theorem bitsTakes_law (W : World) (a0 : Option Addr) (n0 c0 : Nat) (z0 : List Int) (R0 : Reads W a0 (iv .u8 z0)) (L0 : z0.length = n0) (F0 : ∀ n ∈ z0, (Lit.int .u8 n).wf = true) (_Y0 : n0 * 1 ≤ 140737488351232) (B0 : n0 ≤ 1048576)
    (a1 : Option Addr) (n1 c1 : Nat) (z1 : List Int) (R1 : Reads W a1 (iv .i64 z1)) (L1 : z1.length = n1) (_F1 : ∀ n ∈ z1, (Lit.int .i64 n).wf = true) (Y1 : n1 * 8 ≤ 140737488351232) (_B1 : n1 ≤ 1048576) :
    cl Try.prog 3 #[.slice a0 n0 c0, .slice a1 n1 c1] W fun v w' => v = .bool true ∧ Ext no W w' := by
  obtain ⟨bs, e0, l0, small⟩ := bytes_of F0
  rw [e0] at R0
  have hn0 : bs.length = n0 := l0.trans L0
  subst hn0
  apply F3_calls
  unfold F3
  refine awake_k ?_
  intro w1 x1
  refine asB_i rfl (lent_k (R0.old (Ext.to_ge x1) (Nat.le_refl _)) rfl (by omega) ?_)
  intro p2 w2 x2 row2
  have X2 : Ext no W w2 := x1.trans x2
  have hpre : Reads w2 p2 (bv bs) := by
    have := row2.reads
    rw [bv_append] at this
    exact this.pre
  refine asS_i rfl (read_k hpre rfl small (by omega) ?_)
  intro r3 p3 q3 w3 x3 h3
  have X3 : Ext no W w3 := X2.trans x3
  have g1 : W.heap.size ≤ w1.heap.size := x1.size
  have g2 := x2.size
  have g3 := x3.size
  refine asP_i rfl ?_
  have row3 := row2.ext x3 fun _ _ h => h
  refine kept_k row3 (R0.old (Ext.to_ge X3) (Nat.le_refl _)) rfl (by omega) ?_ ?_
  · intro hne a b ha hb
    have hne' : bv bs ≠ [] := by intro h; exact hne (by simpa [bv] using h)
    obtain ⟨a', ha', hlt⟩ := R0.lt hne'
    rw [ha'] at ha
    cases ha
    have := (row2.at hb).1
    omega
  intro w4 x4
  have X4 : Ext no W w4 := X3.then x4 fun k hk ⟨a, ha, hak⟩ => by have := (row2.at ha).1; omega
  have h4 := h3.keep x4 fun k h1 h2 ⟨a, ha, hak⟩ => by have := (row2.at ha).2; omega
  refine asB_i rfl (jn_mk (cond_f rfl (cond_f rfl (asB_i rfl (cond_f rfl ?_)))))
  refine row_k (R0.old (Ext.to_ge X4) (Nat.le_refl _)) rfl small (by omega) ?_
  intro p5 c5 w5 x5 row5
  have X5 : Ext no W w5 := X4.trans x5
  have h5 := h4.keep x5 fun _ _ _ h => h
  have g4 := x4.size
  have g5 := x5.size
  refine asS_i rfl (lv_i ?_)
  refine lp_mk (fun s : Option Addr × Nat × Nat × Nat => [.slice s.1 (8 * bs.length - s.2.2.1) s.2.1, .int .i64 (s.2.2.2 : Int)])
    (fun m s w' => m = n1 - s.2.2.2 ∧ s.2.2.2 ≤ n1 ∧ Ext (ge w2.heap.size) w5 w' ∧ Ext (onl r3) w5 w' ∧ Rdr w' w2.heap.size w3.heap.size r3 p3 q3 bs s.2.2.1 ∧ Reads w' s.1 (tv ((bitsTo bs (8 * bs.length)).drop s.2.2.1)) ∧ 8 * bs.length - s.2.2.1 ≤ s.2.1 ∧ (∀ a, s.1 = some a → a.block ≠ r3))
    n1 (p5, c5, 0, 0) ?_ ?_ ?_
  · simp
  · refine ⟨rfl, Nat.zero_le _, Ext.refl _ _, Ext.refl _ _, h5, by simpa using row5.reads, ?_, fun a ha => ?_⟩
    · have := row5.own
      rcases row5.cases with ⟨_, _, h⟩ | ⟨g, cur, _, _, _, h, _⟩
      · have := congrArg List.length h
        rw [tv_length, bitsTo_length] at this
        simp at this
        simp [this]
      · rw [tv_length, bitsTo_length] at h
        omega
    · have := (row5.at ha).1
      have := h4.hhi
      omega
  rintro _ ⟨p, c, at', i⟩ w6 ⟨rfl, hi, X6, X6', hR, hL, hc6, hne⟩ J hJ
  simp only at hi hR hL hc6 hne hJ ⊢
  have fin : ∀ {w'}, Ext (ge w2.heap.size) w5 w' → Ext no W w' := fun hx => Ext.to_no ((Ext.to_ge X5).trans hx) (by omega)
  have hat := hR.at_le
  have hlen : ((bitsTo bs (8 * bs.length)).drop at').length = 8 * bs.length - at' := by rw [List.length_drop, bitsTo_length]
  refine asS_i rfl (asI_i rfl (cond_split (fun hc => ?_) (fun hc => ?_)))
  · have hi1 : i < n1 := by simpa using hc
    refine (R1.old (Ext.to_ge (fin X6)) (Nat.le_refl _)).at (by omega) (by rw [Int.toNat_natCast]; exact iv_get (by omega)) ?_ (by rw [iv_length, L1]; exact Nat.le_refl _)
    refine asI_i rfl (take_k hR ?_)
    intro w7 hR7 x7
    have X7 := X6.trans (hR.ext_ge x7)
    have X7' := X6'.trans x7
    have hL7 : Reads w7 p (tv ((bitsTo bs (8 * bs.length)).drop at')) := hL.ext x7 fun a ha hk => hne a ha hk
    generalize hn : z1.getD i 0 = n at *
    refine asT_i rfl rfl (asI_i rfl (asI_i rfl (lv_i (lv_i ?_))))
    refine (R1.old (Ext.to_ge (fin X7)) (Nat.le_refl _)).at (by omega) (by rw [Int.toNat_natCast]; exact iv_get (by omega)) ?_ (by rw [iv_length, L1]; exact Nat.le_refl _)
    rw [hn]
    refine asI_i rfl (rtake_k hL7 hlen hc6 ?_)
    obtain ⟨s1, s2, s3⟩ := same_take hat n
    intro p8 c8 w8 x8 hL8 hc8 hb8
    have hat8 := hR7.at_le
    have hN : rtN ((bitsTo bs (8 * bs.length)).drop at') n = takeA bs at' n - at' := by omega
    have hge : at' ≤ takeA bs at' n := by omega
    rw [List.drop_drop, s3] at hL8
    have hN2 : 8 * bs.length - at' - rtN ((bitsTo bs (8 * bs.length)).drop at') n = 8 * bs.length - takeA bs at' n := by omega
    rw [hN2] at hc8
    rw [s1, s2, hN2]
    refine asT_i rfl rfl (asI_i rfl (asS_i rfl (asI_i rfl (lv_i (lv_i ?_)))))
    refine rdone_k hL8 (by rw [List.length_drop, bitsTo_length]) (by omega) ?_
    rw [same_done]
    have hR8 := hR7.keep x8 fun _ _ _ h => h
    refine asB_i rfl (jn_mk (cond_f (by simp) (cond_f (by simp) (rest_k hR8 ?_))))
    intro w9 x9
    have hR9 := hR8.keep x9 fun _ _ _ h => h
    refine asI_i rfl (cond_f (by simp) (done_k hR9 ?_))
    intro w10 x10
    refine asB_i rfl (asB_i rfl (cond_f (by simp) (lv_i ?_)))
    have ei : IntKind.wrap .i64 ((i : Int) + 1) = ((i + 1 : Nat) : Int) := by rw [wr64 (by omega) (by omega)]; omega
    rw [ei]
    have x810 := x8.trans (x9.trans x10)
    have x910 := x9.trans x10
    refine hJ (n1 - (i + 1)) (p8, c8, takeA bs at' n, i + 1) w10 (by omega) ⟨rfl, by simp only; omega, X7.trans (Ext.to_ge x810), X7'.trans (Ext.of_no x810), hR9.keep x10 fun _ _ _ h => h, hL8.ext x910 fun _ _ h => h, hc8, fun a ha => ?_⟩
    obtain ⟨b, hb, hab⟩ := hb8 a ha
    rw [← hab]
    exact hne b hb
  · refine rest_k hR ?_
    intro w7 x7
    refine asI_i rfl ⟨by simp, fin (X6.trans (Ext.to_ge x7))⟩
end Go.Proofs.Ytddljkkcpekcjaa
