/- BitsC: what the functions of package bits do, told as contracts over rows of bytes. Conditions: those of each theorem, on its arguments. -/
import Derived.Test.YtddljkkcpekcjaaF
import Derived.Test.YtddljkkcpekcjaaSz
import Derived.Test.YtddljkkcpekcjaaBitsM
namespace Go.Proofs.Ytddljkkcpekcjaa
open Go Go.Sx

theorem s22 : SlT Try.prog 22 5 (.int .u8 0) 1 := ⟨rfl, ⟨_, rfl, rfl, rfl, rfl⟩, rfl⟩

/-- a reader -/
structure Rdr (w : World) (lo hi r : Nat) (p : Option Addr) (c : Nat) (bs : List Nat) (at' : Nat) : Prop where
  hlo : lo ≤ r
  hhi : r < hi
  le : hi ≤ w.heap.size
  phi : ∀ a, p = some a → lo ≤ a.block ∧ a.block < hi
  ne : ∀ a, p = some a → a.block ≠ r
  blk : w.heap[r]? = some (.cells #[.slice p bs.length c, .int .i64 (at' : Int)] 51 (0, 0))
  reads : Reads w p (bv bs)
  small : ∀ b ∈ bs, b < 256
  len : bs.length ≤ 140737488355328
  at_le : at' ≤ 8 * bs.length

theorem Rdr.keep {w w' : World} {lo hi r : Nat} {p : Option Addr} {c : Nat} {bs : List Nat} {at' : Nat} (h : Rdr w lo hi r p c bs at') {M : Nat → Prop} (hx : Ext M w w')
    (hm : ∀ k, lo ≤ k → k < hi → ¬ M k) : Rdr w' lo hi r p c bs at' :=
  ⟨h.hlo, h.hhi, Nat.le_trans h.le hx.size, h.phi, h.ne, hx.blk h.blk (hm r h.hlo h.hhi), h.reads.ext hx fun a ha => hm _ (h.phi a ha).1 (h.phi a ha).2, h.small, h.len, h.at_le⟩

theorem read_k {w : World} {K : Value → World → Prop} {q : Option Addr} {n cq : Nat} {bs : List Nat} (hr : Reads w q (bv bs)) (hn : bs.length = n) (hs : ∀ b ∈ bs, b < 256) (hl : bs.length ≤ 140737488355328)
    (hK : ∀ r p c w', Ext no w w' → Rdr w' w.heap.size w'.heap.size r p c bs 0 → K (.pointer (some ⟨r, 0, none⟩)) w') :
    cl Try.prog 11 #[.slice q n cq] w K := by
  apply F11_calls
  unfold F11
  refine s22.app (n := 0) (Row.nil w w.heap.size 5) rfl (Nat.le_refl _) hr (by rw [bv_length, hn]) bv_one (le_maxLen (by omega)) (by omega) ?_
  intro p c w' hrow hE hmv _
  refine asS_i rfl (nw_mk ?_)
  have hx : Ext no w w' := hE.mono fun k _ hk => by obtain ⟨a, ha, _⟩ := hk; cases ha
  have ha : Ext no w' (w'.alloc (.cells #[.slice p (0 + n) c, .int .i64 0] 51)) := Ext.alloc w' _
  have hrow' := hrow.ext ha fun _ _ h => h
  rw [List.nil_append] at hrow hrow'
  refine hK _ p c _ (hx.trans ha) ⟨hx.size, ?_, Nat.le_refl _, fun a hp => ⟨(hrow.at hp).1, (hrow'.at hp).2⟩, fun a hp => Nat.ne_of_lt (hrow.at hp).2, ?_, hrow'.reads, hs, hl, Nat.zero_le _⟩
  · rw [new_size]; omega
  · rw [new_blk, hn]; simp

theorem Rdr.drew {w : World} {lo hi r : Nat} {p : Option Addr} {c : Nat} {bs : List Nat} {at' : Nat} (h : Rdr w lo hi r p c bs at') : Rdr w.drew lo hi r p c bs at' := h.keep (Ext.drew w) fun _ _ _ h => h
theorem rdr_ld0 {w : World} {lo hi r : Nat} {p : Option Addr} {c : Nat} {bs : List Nat} {at' : Nat} (h : Rdr w lo hi r p c bs at') : w.cell? ⟨r, 0, none⟩ = some (.slice p bs.length c) := by rw [blk_cell h.blk]; rfl
theorem rdr_ld1 {w : World} {lo hi r : Nat} {p : Option Addr} {c : Nat} {bs : List Nat} {at' : Nat} (h : Rdr w lo hi r p c bs at') : w.cell? (Addr.add ⟨r, 0, none⟩ 1) = some (.int .i64 (at' : Int)) := by rw [add_mk, blk_cell h.blk]; rfl

theorem rest_k {w : World} {lo hi r : Nat} {p : Option Addr} {c : Nat} {bs : List Nat} {at' : Nat} (h : Rdr w lo hi r p c bs at') {K : Value → World → Prop}
    (hK : ∀ w', Ext no w w' → K (.int .i64 ((8 * bs.length - at' : Nat) : Int)) w') :
    cl Try.prog 17 #[.pointer (some ⟨r, 0, none⟩)] w K := by
  apply F17_calls
  unfold F17
  refine lv_i (dw_mk (dr_i (ld_mk (rdr_ld0 h.drew) (asS_i rfl (dr_i (ld_mk (rdr_ld1 h.drew) (asI_i rfl (lv_i ?_))))))))
  have h1 := h.len
  have h2 := h.at_le
  have e : IntKind.wrap .i64 (IntKind.wrap .i64 (8 * (bs.length : Int)) - (at' : Int)) = ((8 * bs.length - at' : Nat) : Int) := by
    rw [wr64 (n := 8 * (bs.length : Int)) (by omega) (by omega), wr64 (by omega) (by omega)]
    omega
  rw [e]
  exact hK _ (Ext.drew w)

def takeE (bs : List Nat) (at' : Nat) (n : Int) : Int := if n < 0 ∨ 63 < n then 1 else if ((8 * bs.length - at' : Nat) : Int) < n then 3 else 0
def takeV (bs : List Nat) (at' : Nat) (n : Int) : Int := if takeE bs at' n = 0 then (rdv (bitOf bs) at' n.toNat : Int) else 0
def takeA (bs : List Nat) (at' : Nat) (n : Int) : Nat := if takeE bs at' n = 0 then at' + n.toNat else at'

theorem take_loop {w : World} {lo hi r : Nat} {p : Option Addr} {c : Nat} {bs : List Nat} {at' : Nat} (h : Rdr w lo hi r p c bs at') {N : Nat} (hN : N ≤ 63) (hle : at' + N ≤ 8 * bs.length) {Q : Value → World → Prop}
    (hQ : ∀ w', Rdr w' lo hi r p c bs (at' + N) → Ext (onl r) w w' → Q (.tuple #[.int .i64 (rdv (bitOf bs) at' N : Int), .int .i64 0]) w') :
    lp [(.int .i64 0), (.int .i64 (0 : Int))] w fun J17 s15 w16 => asI .i64 (s15.getD 0 undef) fun x18 => asI .i64 (s15.getD 1 undef) fun x19 => 
(cond (decide (x19 < (N : Int))) 
(dw w16 fun w20 => (dr (some ⟨r, 0, none⟩) fun a21 => (ld w20 a21 fun v22 => asS v22 fun p23 n24 _ => (dr (some ⟨r, 0, none⟩) fun a26 => (ld w20 (Addr.add a26 1) fun v27 => asI .i64 v27 fun x28 => (dr p23 fun a29 => (bnd (IntKind.wrap .i64 (Int.tdiv x28 (8 : Int))) n24 (ld w20 (Addr.add a29 (Int.toNat (IntKind.wrap .i64 (Int.tdiv x28 (8 : Int))) * 1)) fun v30 => asI .u8 v30 fun x31 => (dr (some ⟨r, 0, none⟩) fun a32 => (ld w20 (Addr.add a32 1) fun v33 => asI .i64 v33 fun x34 => (nn (IntKind.wrap .i64 ((7 : Int) - (Int.tmod x34 (8 : Int)))) (lv (Go.bits .or .i64 (IntKind.wrap .i64 (x18 * 2 ^ (min (Int.toNat (1 : Int)) 64))) (IntKind.wrap .i64 (Go.bits .and .u8 (Int.fdiv x31 (2 ^ (min (Int.toNat (IntKind.wrap .i64 ((7 : Int) - (Int.tmod x34 (8 : Int))))) 8))) (1 : Int)))) fun v_35 => 
(dr (some ⟨r, 0, none⟩) fun a36 => (ld w20 (Addr.add a36 1) fun v37 => asI .i64 v37 fun x38 => (dr (some ⟨r, 0, none⟩) fun a39 => (st w20 (Addr.add a39 1) (.int .i64 (IntKind.wrap .i64 (x38 + (1 : Int)))) fun w40 => 
(J17 [(.int .i64 v_35), (.int .i64 (IntKind.wrap .i64 (x19 + (1 : Int))))] w40))))))))))))))))) 
(lv x18 fun y41 => (lv (0 : Int) fun y42 => 
(Q (.tuple #[(.int .i64 y41), (.int .i64 y42)]) w16)))) := by
  refine lp_mk (fun i : Nat => [.int .i64 (rdv (bitOf bs) at' i : Int), .int .i64 (i : Int)]) (fun m i w' => m = N - i ∧ i ≤ N ∧ Rdr w' lo hi r p c bs (at' + i) ∧ Ext (onl r) w w') N 0 rfl ⟨rfl, Nat.zero_le _, h, Ext.refl _ _⟩ ?_
  rintro m i w1 ⟨rfl, hi', hR, hX⟩ J hJ
  refine asI_i rfl (asI_i rfl (cond_split (fun hc => ?_) (fun hc => ?_)))
  · have hiN : i < N := by simpa using hc
    have hl := h.len
    refine dw_mk (dr_i (ld_mk (rdr_ld0 hR.drew) (asS_i rfl (dr_i (ld_mk (rdr_ld1 hR.drew) (asI_i rfl ?_))))))
    have hq : (at' + i) / 8 < bs.length := by omega
    have e1 : IntKind.wrap .i64 (Int.tdiv ((at' + i : Nat) : Int) 8) = (((at' + i) / 8 : Nat) : Int) := by rw [tdiv8, wr64 (by omega) (by omega)]
    have e2 : IntKind.wrap .i64 ((7 : Int) - Int.tmod ((at' + i : Nat) : Int) 8) = ((7 - (at' + i) % 8 : Nat) : Int) := by rw [tmod8, wr64 (by omega) (by omega)]; omega
    rw [e1]
    refine hR.drew.reads.at (by omega) (by rw [Int.toNat_natCast]; exact bv_get hq) (asI_i rfl (dr_i (ld_mk (rdr_ld1 hR.drew) (asI_i rfl ?_)))) (by rw [bv_length]; exact Nat.le_refl _)
    rw [e2]
    refine nn_mk (by omega) (lv_i (dr_i (ld_mk (rdr_ld1 hR.drew) (asI_i rfl (dr_i ?_)))))
    rw [add_mk]
    have hb : w1.drew.heap[r]? = some (.cells #[.slice p bs.length c, .int .i64 ((at' + i : Nat) : Int)] 51 (0, 0)) := hR.blk
    refine st_mk hb (by simp) rfl ?_
    have hE : Ext (onl r) w1 (w1.drew.setCell ⟨r, 0 + 1, none⟩ (.int .i64 (IntKind.wrap .i64 (((at' + i : Nat) : Int) + 1)))) := (Ext.of_no (Ext.drew w1)).trans (Ext.set w1.drew ⟨r, 0 + 1, none⟩ _)
    have hb' := blk_set hb (0 + 1) (.int .i64 (IntKind.wrap .i64 (((at' + i : Nat) : Int) + 1)))
    have hx : bs.getD ((at' + i) / 8) 0 < 256 := by
      have : bs[(at' + i) / 8]? = some (bs[(at' + i) / 8]'hq) := List.getElem?_eq_getElem hq
      rw [List.getD_eq_getElem?_getD, this]
      exact h.small _ (List.getElem_mem _)
    have hv : Go.bits .or .i64 (IntKind.wrap .i64 ((rdv (bitOf bs) at' i : Int) * 2 ^ (min (Int.toNat (1 : Int)) 64))) (IntKind.wrap .i64 (Go.bits .and .u8 (Int.fdiv (bs.getD ((at' + i) / 8) 0 : Nat) (2 ^ (min (Int.toNat ((7 - (at' + i) % 8 : Nat) : Int)) 8))) (1 : Int))) = ((rdv (bitOf bs) at' (i + 1) : Nat) : Int) := by
      have hlt := rdv_lt (bitOf bs) at' i
      have h2i : 2 ^ i ≤ 2 ^ 62 := Nat.pow_le_pow_right (by decide) (by omega)
      have hs : (2 : Nat) ^ 62 = 4611686018427387904 := by decide
      have hbit : (bitOf bs (at' + i)).toNat ≤ 1 := by cases bitOf bs (at' + i) <;> decide
      have hmin : min (Int.toNat ((7 - (at' + i) % 8 : Nat) : Int)) 8 = 7 - (at' + i) % 8 := by rw [Int.toNat_natCast]; omega
      rw [hmin, bit_out hx]
      show Go.bits .or .i64 (IntKind.wrap .i64 ((rdv (bitOf bs) at' i : Int) * 2)) (IntKind.wrap .i64 ((bitOf bs (at' + i)).toNat : Int)) = _
      rw [wr64 (n := ((bitOf bs (at' + i)).toNat : Int)) (by omega) (by omega), wr64 (n := (rdv (bitOf bs) at' i : Int) * 2) (by omega) (by omega)]
      have e3 : (rdv (bitOf bs) at' i : Int) * 2 = ((2 * rdv (bitOf bs) at' i : Nat) : Int) := by omega
      rw [e3, bits_or_nat (by simp [IntKind.bits]; omega) (by simp [IntKind.bits]; omega), or_low, wr64 (by omega) (by omega)]
      rfl
    have hi64 : IntKind.wrap .i64 ((i : Int) + 1) = ((i + 1 : Nat) : Int) := by rw [wr64 (by omega) (by omega)]; omega
    rw [hv, hi64]
    refine hJ (N - (i + 1)) (i + 1) _ (by omega) ⟨rfl, by omega, ?_, hX.trans hE⟩
    refine ⟨hR.hlo, hR.hhi, Nat.le_trans hR.le hE.size, hR.phi, hR.ne, ?_, hR.reads.ext hE fun a ha => hR.ne a ha, hR.small, hR.len, by omega⟩
    rw [hb']
    have e4 : IntKind.wrap .i64 (((at' + i : Nat) : Int) + 1) = ((at' + (i + 1) : Nat) : Int) := by rw [wr64 (by omega) (by omega)]; omega
    rw [e4]
    rfl
  · have hiN : i = N := by have : ¬ i < N := by simpa using hc
                           omega
    subst hiN
    refine lv_i (lv_i (hQ _ hR hX))

theorem take_k {w : World} {lo hi r : Nat} {p : Option Addr} {c : Nat} {bs : List Nat} {at' : Nat} (h : Rdr w lo hi r p c bs at') {n : Int} {K : Value → World → Prop}
    (hK : ∀ w', Rdr w' lo hi r p c bs (takeA bs at' n) → Ext (onl r) w w' → K (.tuple #[.int .i64 (takeV bs at' n), .int .i64 (takeE bs at' n)]) w') :
    cl Try.prog 14 #[.pointer (some ⟨r, 0, none⟩), .int .i64 n] w K := by
  apply F14_calls
  unfold F14
  refine lv_i (lv_i (jn_mk (cond_split (fun h0 => asB_i rfl (cond_t rfl ?_)) (fun h0 => asB_i rfl (cond_split (fun h1 => ?_) (fun h1 => ?_))))))
  · have : takeE bs at' n = 1 := by unfold takeE; rw [if_pos (.inl (by simpa using h0))]
    have := hK w (by simpa [takeA, this] using h) (Ext.refl _ _)
    refine lv_i (lv_i ?_)
    simpa [takeV, *] using this
  · have : takeE bs at' n = 1 := by unfold takeE; rw [if_pos (.inr (by simpa using h1))]
    have := hK w (by simpa [takeA, this] using h) (Ext.refl _ _)
    refine lv_i (lv_i ?_)
    simpa [takeV, *] using this
  · simp only [decide_eq_false_iff_not, Int.not_lt, gt_iff_lt] at h0 h1
    refine rest_k h ?_
    intro w1 hx
    have h' := h.keep hx fun _ _ _ h => h
    refine asI_i rfl (cond_split (fun h2 => ?_) (fun h2 => ?_))
    · have : takeE bs at' n = 3 := by unfold takeE; rw [if_neg (by omega), if_pos (by simpa using h2)]
      have := hK w1 (by simpa [takeA, this] using h') (Ext.of_no hx)
      refine lv_i (lv_i ?_)
      simpa [takeV, *] using this
    · simp only [decide_eq_false_iff_not, Int.not_lt, gt_iff_lt] at h2
      have : takeE bs at' n = 0 := by unfold takeE; rw [if_neg (by omega), if_neg (by omega)]
      have hat := h.at_le
      obtain ⟨N, rfl⟩ : ∃ N : Nat, n = (N : Int) := ⟨n.toNat, by omega⟩
      refine lv_i (take_loop (N := N) h' (by omega) (by omega) ?_)
      intro w' hR hX
      have := hK w' (by simpa [takeA, this] using hR) ((Ext.of_no hx).trans hX)
      simpa [takeV, *] using this
end Go.Proofs.Ytddljkkcpekcjaa
