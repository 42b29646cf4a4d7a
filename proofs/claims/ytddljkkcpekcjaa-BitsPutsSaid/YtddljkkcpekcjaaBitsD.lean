/- BitsD: what the rest of package bits does (Done, New, Put, Len, Bytes), told as contracts over rows of bits. Conditions: those of each theorem, on its arguments. -/
import Derived.Test.YtddljkkcpekcjaaBitsC
namespace Go.Proofs.Ytddljkkcpekcjaa
open Go Go.Sx

def doneB (bs : List Nat) (at' : Nat) : Bool := decide (8 * bs.length - at' < 8 ∧ ∀ i, i < 8 * bs.length - at' → bitOf bs (at' + i) = false)

theorem getD_small {bs : List Nat} (h : ∀ b ∈ bs, b < 256) (i : Nat) : bs.getD i 0 < 256 := by
  rw [List.getD_eq_getElem?_getD]
  cases hi : bs[i]? with
  | none => decide
  | some x => exact h x (List.mem_of_getElem? hi)

theorem done_val {bs : List Nat} {at' n : Nat} (hn : n = 8 * bs.length - at') (hle : at' ≤ 8 * bs.length) (h8 : n < 8) :
    ((((bs.getD (at' / 8) 0) % 2 ^ n : Nat) : Int) == (0 : Int)) = doneB bs at' := by
  rw [Bool.eq_iff_iff]
  simp only [doneB, decide_eq_true_eq, beq_iff_eq, ← hn, h8, true_and]
  have key : ∀ i, i < n → bitOf bs (at' + i) = ((bs.getD (at' / 8) 0) % 2 ^ n).testBit (n - 1 - i) := by
    intro i hi
    rw [Nat.testBit_mod_two_pow]
    unfold bitOf
    have e1 : (at' + i) / 8 = at' / 8 := by omega
    have e2 : 7 - (at' + i) % 8 = n - 1 - i := by omega
    have e3 : n - 1 - i < n := by omega
    rw [e1, e2]
    simp [e3]
  constructor
  · intro h i hi
    rw [key i hi, Int.ofNat_eq_zero.1 h]
    simp
  · intro h
    have : (bs.getD (at' / 8) 0) % 2 ^ n = 0 := by
      apply Nat.eq_of_testBit_eq
      intro j
      by_cases hj : j < n
      · have := h (n - 1 - j) (by omega)
        rw [key _ (by omega)] at this
        have e : n - 1 - (n - 1 - j) = j := by omega
        rw [e] at this
        simpa using this
      · rw [Nat.testBit_mod_two_pow]
        simp [hj]
    rw [this]; rfl

theorem done_k {w : World} {lo hi r : Nat} {p : Option Addr} {c : Nat} {bs : List Nat} {at' : Nat} (h : Rdr w lo hi r p c bs at') {K : Value → World → Prop}
    (hK : ∀ w', Ext no w w' → K (.bool (doneB bs at')) w') :
    cl Try.prog 18 #[.pointer (some ⟨r, 0, none⟩)] w K := by
  apply F18_calls
  unfold F18
  refine rest_k h ?_
  intro w1 hx
  have h1 := h.keep hx fun _ _ _ h => h
  have hlen := h.len
  have hle := h.at_le
  refine asI_i rfl (lv_i (cond_split (fun h8 => ?_) (fun h8 => ?_)))
  · have : doneB bs at' = false := by
      simp only [ge_iff_le, decide_eq_true_eq] at h8
      simp only [doneB, decide_eq_false_iff_not]
      omega
    rw [← this]
    exact hK _ hx
  · have hn8 : 8 * bs.length - at' < 8 := by
      simp only [ge_iff_le, decide_eq_false_iff_not] at h8
      omega
    have key : ∀ w2, Ext no w1 w2 → asI .u8 (([.int .u8 ((bs.getD (at' / 8) 0 : Nat) : Int)] : List Value).getD 0 undef) fun x37 => (nn ((8 * bs.length - at' : Nat) : Int) 
        (K (.bool ((Go.bits .and .u8 x37 (IntKind.wrap .u8 ((IntKind.wrap .u8 ((1 : Int) * 2 ^ (min (Int.toNat ((8 * bs.length - at' : Nat) : Int)) 8))) - (1 : Int)))) == (0 : Int))) w2)) := by
      intro w2 hx2
      refine asI_i rfl (nn_mk (by omega) ?_)
      rw [low_u8 (getD_small h.small _) (by omega), done_val rfl hle hn8]
      exact hK _ (hx.trans hx2)
    have e1 : IntKind.wrap .i64 (Int.tdiv (at' : Int) 8) = ((at' / 8 : Nat) : Int) := by rw [tdiv8, wr64 (by omega) (by omega)]
    refine lv_i (jn_mk (dw_mk (dr_i (ld_mk (rdr_ld0 h1.drew) (asS_i rfl (dr_i (ld_mk (rdr_ld1 h1.drew) (asI_i rfl ?_))))))))
    rw [e1]
    refine bn2_mk (by omega) (by omega) ?_
    refine lp_mk (fun _ : Unit => [.int .u8 0, .int .i64 (0 : Int)]) (fun _ _ w' => Rdr w' lo hi r p c bs at' ∧ Ext no w1 w') 0 () rfl ⟨h1.drew, Ext.drew w1⟩ ?_
    rintro m ⟨⟩ w2 ⟨h2, hx2⟩ J hJ
    refine asI_i rfl (asI_i rfl (cond_split (fun hc => ?_) (fun hc => ?_)))
    · have hlt : at' / 8 < bs.length := by
        simp only [Int.toNat_natCast, decide_eq_true_eq] at hc
        omega
      refine lv_i (dw_mk (dr_i (ld_mk (rdr_ld0 h2.drew) (asS_i rfl (dr_i (ld_mk (rdr_ld1 h2.drew) (asI_i rfl ?_)))))))
      have e2 : IntKind.wrap .i64 (IntKind.wrap .i64 (Int.tdiv (at' : Int) 8) + 0) = ((at' / 8 : Nat) : Int) := by rw [e1, wr64 (by omega) (by omega)]; omega
      rw [e2]
      refine h2.drew.reads.at (by omega) (by rw [Int.toNat_natCast]; exact bv_get hlt) (asI_i rfl (lv_i (key _ (hx2.trans (Ext.drew w2))))) (by rw [bv_length]; exact Nat.le_refl _)
    · have hge : bs.length ≤ at' / 8 := by
        simp only [Int.toNat_natCast, decide_eq_false_iff_not] at hc
        omega
      have : bs.getD (at' / 8) 0 = 0 := by
        rw [List.getD_eq_getElem?_getD, List.getElem?_eq_none hge]
        rfl
      have hk := key _ hx2
      rw [this] at hk
      exact hk

/-- a writer -/
structure Wtr (w : World) (base r : Nat) (p : Option Addr) (c : Nat) (bs : List Nat) (l : List Bool) : Prop where
  hlo : base ≤ r
  le : base ≤ w.heap.size
  ne : ∀ a, p = some a → a.block ≠ r
  blk : w.heap[r]? = some (.cells #[.slice p bs.length c, .int .i64 (l.length : Int)] 54 (0, 0))
  row : Row w base 5 p c (bv bs)
  pk : Packs bs l
  most : l.length ≤ 1048576

theorem Wtr.keep {w w' : World} {base r : Nat} {p : Option Addr} {c : Nat} {bs : List Nat} {l : List Bool} (h : Wtr w base r p c bs l) {M : Nat → Prop} (hx : Ext M w w')
    (hr : ¬ M r) (hp : ∀ a, p = some a → ¬ M a.block) : Wtr w' base r p c bs l :=
  ⟨h.hlo, Nat.le_trans h.le hx.size, h.ne, hx.blk h.blk hr, h.row.ext hx hp, h.pk, h.most⟩
theorem Wtr.drew {w : World} {base r : Nat} {p : Option Addr} {c : Nat} {bs : List Nat} {l : List Bool} (h : Wtr w base r p c bs l) : Wtr w.drew base r p c bs l := h.keep (Ext.drew w) (fun h => h) fun _ _ h => h

theorem wtr_ld0 {w : World} {base r : Nat} {p : Option Addr} {c : Nat} {bs : List Nat} {l : List Bool} (h : Wtr w base r p c bs l) : w.cell? ⟨r, 0, none⟩ = some (.slice p bs.length c) := by rw [blk_cell h.blk]; rfl
theorem wtr_ld1 {w : World} {base r : Nat} {p : Option Addr} {c : Nat} {bs : List Nat} {l : List Bool} (h : Wtr w base r p c bs l) : w.cell? (Addr.add ⟨r, 0, none⟩ 1) = some (.int .i64 (l.length : Int)) := by rw [add_mk, blk_cell h.blk]; rfl

theorem new_k {w : World} {K : Value → World → Prop} (hK : ∀ r w', Ext no w w' → Wtr w' w.heap.size r none 0 [] [] → K (.pointer (some ⟨r, 0, none⟩)) w') : cl Try.prog 19 #[] w K := by
  apply F19_calls
  unfold F19
  refine nw_mk (hK _ _ (Ext.alloc w _) ⟨Nat.le_refl _, (Ext.alloc w _).size, by simp, new_blk w _, Row.nil _ _ _, Packs.nil, by simp⟩)

theorem len_k {w : World} {base r : Nat} {p : Option Addr} {c : Nat} {bs : List Nat} {l : List Bool} (h : Wtr w base r p c bs l) {K : Value → World → Prop} (hK : K (.int .i64 (l.length : Int)) w) :
    cl Try.prog 23 #[.pointer (some ⟨r, 0, none⟩)] w K := by
  apply F23_calls
  unfold F23
  exact lv_i (dr_i (ld_mk (wtr_ld1 h) (asI_i rfl (lv_i hK))))

theorem Packs.le {bs : List Nat} {l : List Bool} (h : Packs bs l) (hl : l.length ≤ 1048576) : bs.length ≤ 131072 := by have := h.len; omega

theorem bytes_k {w : World} {base r : Nat} {p : Option Addr} {c : Nat} {bs : List Nat} {l : List Bool} (h : Wtr w base r p c bs l) {K : Value → World → Prop}
    (hK : ∀ p' c' w', Ext no w w' → Row w' w.heap.size 5 p' c' (bv bs) → (p' = none → bs = []) → K (.slice p' bs.length c') w') :
    cl Try.prog 21 #[.pointer (some ⟨r, 0, none⟩)] w K := by
  have hb := Packs.le h.pk h.most
  apply F21_calls
  unfold F21
  refine dw_mk (dr_i (ld_mk (wtr_ld0 h.drew) (asS_i rfl (dr_i (ld_mk (wtr_ld0 h.drew) (asS_i rfl ?_))))))
  refine s22.make0 (by omega) (le_maxLen (by omega)) ?_
  intro w1 hr1 hx1
  have h1 := h.drew.keep hx1 (fun h => h) fun _ _ h => h
  refine asS_i rfl (hd_i (wtr_ld0 h1) (hd_i (wtr_ld0 h1) ?_))
  refine s22.app (n := 0) hr1 rfl hx1.size h1.row.reads (bv_length bs) bv_one (le_maxLen (by omega)) (by omega) ?_
  intro p' c' w2 hr2 hx2 hm hnil
  have hx12 : Ext no w.drew w2 := hx1.then hx2 fun k hk hkb => by
    obtain ⟨a, ha, rfl⟩ := hkb
    have := (hr1.at ha).1
    omega
  have h2 := h.drew.keep hx12 (fun h => h) fun _ _ h => h
  refine asS_i rfl (hd_i (wtr_ld0 h2) ?_)
  rw [Nat.zero_add]
  rw [List.nil_append] at hr2 hnil
  refine hK _ _ _ ((Ext.drew w).trans hx12) hr2 fun hp => ?_
  have := hnil hp
  simpa [bv] using this

def putE (l : List Bool) (v n : Int) : Int := if n < 0 ∨ 63 < n ∨ v < 0 ∨ v.toNat >>> n.toNat ≠ 0 then 1 else if 1048576 < (l.length : Int) + n then 2 else 0
def putL (l : List Bool) (v n : Int) : List Bool := if putE l v n = 0 then l ++ numBits v.toNat n.toNat else l

theorem numBits_split {v m k : Nat} (hk : k ≤ m) : ((List.range k).map fun i => v.testBit (m - 1 - i)) ++ numBits v (m - k) = numBits v m := by
  apply List.ext_getElem?
  intro i
  by_cases h1 : i < k
  · rw [List.getElem?_append_left (by simpa using h1), numBits_get _ _ _ (by omega)]
    simp [h1]
  · rw [List.getElem?_append_right (by simpa using h1)]
    by_cases h2 : i < m
    · rw [numBits_get _ _ _ h2, numBits_get _ _ _ (by simp; omega)]
      have e : m - k - 1 - (i - k) = m - 1 - i := by omega
      simp [e]
    · rw [List.getElem?_eq_none (by simp [numBits]; omega), List.getElem?_eq_none (by simp [numBits]; omega)]
end Go.Proofs.Ytddljkkcpekcjaa
