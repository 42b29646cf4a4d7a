/- BitsPutsA: what the document's Put and Bytes do, told as contracts over rows of bits. Conditions: those of each theorem, on its arguments. -/
import Derived.Test.YtddljkkcpekcjaaBitsTakes
namespace Go.Proofs.Ytddljkkcpekcjaa
open Go Go.Sx

theorem rput_k {w : World} {base : Nat} {p : Option Addr} {c : Nat} {l : List Bool} (hrow : Row w base 4 p c (tv l)) (hb : base ≤ w.heap.size) (hl : l.length ≤ 1048576) {v n : Int} (hv : v ≤ 9223372036854775807) {K : Value → World → Prop}
    (hK : ∀ p' c' w', Row w' base 4 p' c' (tv (putL l v n)) → Ext (blocks p) w w' → Moved w p p' → K (.tuple #[.slice p' (putL l v n).length c', .int .i64 (putE l v n)]) w') :
    cl Try.prog 22 #[.slice p l.length c, .int .i64 v, .int .i64 n] w K := by
  have bad : ∀ e : Int, putE l v n = e → e ≠ 0 → K (.tuple #[.slice p l.length c, .int .i64 e]) w := by
    intro e he h0
    have hL : putL l v n = l := by simp [putL, he, h0]
    have := hK p c w (by rw [hL]; exact hrow) (Ext.refl _ _) (.inl rfl)
    rwa [hL, he] at this
  apply F22_calls
  unfold F22
  refine lv_i (jn_of (fun s w' => w = w' ∧ s = [.bool (decide (n < 0 ∨ 63 < n ∨ v < 0 ∨ v.toNat >>> n.toNat ≠ 0))]) ?_ ?_)
  · rintro _ _ ⟨rfl, rfl⟩
    refine asB_i rfl (cond_split (fun hc => lv_i (bad 1 ?_ (by decide))) (fun hc => ?_))
    · unfold putE; rw [if_pos (by simpa using hc)]
    have hnot : ¬ (n < 0 ∨ 63 < n ∨ v < 0 ∨ v.toNat >>> n.toNat ≠ 0) := by simpa using hc
    rw [wr64 (n := (l.length : Int) + n) (by omega) (by omega)]
    refine cond_split (fun h4 => lv_i (bad 2 ?_ (by decide))) (fun h4 => ?_)
    · unfold putE; rw [if_neg hnot, if_pos (by simpa using h4)]
    have he : putE l v n = 0 := by unfold putE; rw [if_neg hnot, if_neg (by simpa using h4)]
    obtain ⟨N, rfl⟩ : ∃ N : Nat, n = (N : Int) := ⟨n.toNat, by omega⟩
    obtain ⟨V, rfl⟩ : ∃ V : Nat, v = (V : Int) := ⟨v.toNat, by omega⟩
    simp only [gt_iff_lt, decide_eq_false_iff_not, Int.not_lt] at h4
    have hL : putL l (V : Int) (N : Int) = l ++ numBits V N := by simp [putL, he]
    rw [hL, he] at hK
    have h63 : (2 : Nat) ^ 63 = 9223372036854775808 := by decide
    refine lv_i (lp_mk (fun s : Option Addr × Nat × Nat => [.slice s.1 (l.length + s.2.2) s.2.1, .int .i64 ((N : Int) - 1 - (s.2.2 : Int))])
      (fun m s w' => m = N - s.2.2 ∧ s.2.2 ≤ N ∧ Ext (blocks p) w w' ∧ Moved w p s.1 ∧ Row w' base 4 s.1 s.2.1 (tv (l ++ (numBits V N).take s.2.2))) N (p, c, 0) ?_ ⟨rfl, Nat.zero_le _, Ext.refl _ _, .inl rfl, by simpa using hrow⟩ ?_)
    · rw [wr64 (by omega) (by omega)]
      simp
    rintro _ ⟨p1, c1, j⟩ w1 ⟨rfl, hj, x1, m1, row1⟩ J hJ
    simp only at hj m1 row1 hJ ⊢
    have hlen1 : (tv (l ++ (numBits V N).take j)).length = l.length + j := by
      rw [tv_length, List.length_append, List.length_take, numBits_length]
      omega
    refine asS_i rfl (asI_i rfl (cond_split (fun hc2 => ?_) (fun hc2 => ?_)))
    · have hjN : j < N := by
        simp only [ge_iff_le, decide_eq_true_eq] at hc2
        omega
      refine nn_mk (by omega) ?_
      have hmin : min (Int.toNat ((N : Int) - 1 - (j : Int))) 64 = N - 1 - j := by omega
      rw [hmin, bit64 (by omega)]
      have hb' : (((V.testBit (N - 1 - j)).toNat : Int) == 1) = V.testBit (N - 1 - j) := by cases V.testBit (N - 1 - j) <;> rfl
      rw [hb']
      refine s29.app1 row1 hlen1 (Nat.le_trans hb x1.size) rfl (le_maxLen (by omega)) (by omega) ?_
      intro p2 c2 w2 row2 x2 m2
      refine asS_i rfl (lv_i ?_)
      have ei : IntKind.wrap .i64 ((N : Int) - 1 - (j : Int) - 1) = (N : Int) - 1 - ((j + 1 : Nat) : Int) := by rw [wr64 (by omega) (by omega)]; omega
      rw [ei]
      have et : tv (l ++ (numBits V N).take j) ++ [.bool (V.testBit (N - 1 - j))] = tv (l ++ (numBits V N).take (j + 1)) := by
        rw [List.take_add_one, numBits_get _ _ _ hjN]
        simp [tv]
      rw [et] at row2
      refine hJ (N - (j + 1)) (p2, c2, j + 1) w2 (by omega) ⟨rfl, by simp only; omega, x1.then x2 fun k hk hkb => ?_, m1.trans x1.size m2, row2⟩
      obtain ⟨a, ha, rfl⟩ := hkb
      rcases m1 with h | h
      · exact ⟨a, by rw [← h]; exact ha, rfl⟩
      · have := h a ha
        omega
    · have hjN : j = N := by
        simp only [ge_iff_le, decide_eq_false_iff_not] at hc2
        omega
      subst hjN
      have ht : (numBits V j).take j = numBits V j := List.take_of_length_le (by rw [numBits_length]; exact Nat.le_refl _)
      rw [ht] at row1
      have := hK p1 c1 w1 row1 x1 m1
      rw [List.length_append, numBits_length] at this
      exact lv_i this
  · intro J2 hJ2
    refine cond_split (fun h0 => hJ2 _ _ ⟨rfl, ?_⟩) (fun h0 => cond_split (fun h1 => hJ2 _ _ ⟨rfl, ?_⟩) (fun h1 => cond_split (fun h2 => hJ2 _ _ ⟨rfl, ?_⟩) (fun h2 => cond_split (fun h3 => ?_) (fun h3 => hJ2 _ _ ⟨rfl, ?_⟩))))
    · have h : n < 0 := by simpa using h0
      simp [h]
    · have h : 63 < n := by simpa using h1
      simp [h]
    · have h : v < 0 := by simpa using h2
      simp [h]
    · simp only [decide_eq_false_iff_not, decide_eq_true_eq, Int.not_lt, gt_iff_lt] at h0 h1 h2 h3
      refine nn_mk h0 (hJ2 _ _ ⟨rfl, ?_⟩)
      congr 2
      obtain ⟨N, rfl⟩ : ∃ N : Nat, n = (N : Int) := ⟨n.toNat, by omega⟩
      obtain ⟨V, rfl⟩ : ∃ V : Nat, v = (V : Int) := ⟨v.toNat, by omega⟩
      have hmin : min (Int.toNat (N : Int)) 64 = N := by rw [Int.toNat_natCast]; omega
      have hp : 2 ^ N ≤ 2 ^ 62 := pow_le_of (by omega)
      have h62 : (2 : Nat) ^ 62 = 4611686018427387904 := by decide
      have hp0 : 0 < 2 ^ N := Nat.two_pow_pos N
      have e1 : ((1 : Int) * 2 ^ N) = ((2 ^ N : Nat) : Int) := by simp
      rw [hmin, e1, wr64 (by omega) (by omega)]
      have hsh : V >>> N ≠ 0 ↔ 2 ^ N ≤ V := by
        rw [Nat.shiftRight_eq_div_pow]
        constructor
        · intro h
          by_cases hlt : V < 2 ^ N
          · exact absurd (Nat.div_eq_of_lt hlt) h
          · omega
        · intro h hz
          have := (Nat.div_eq_zero_iff_lt (Nat.two_pow_pos N)).1 hz
          omega
      congr 1
      apply propext
      simp only [Int.toNat_natCast, ge_iff_le]
      constructor
      · intro h
        exact .inr (.inr (.inr (hsh.2 (by omega))))
      · rintro (h | h | h | h)
        · omega
        · omega
        · omega
        · have := hsh.1 h
          omega
    · simp only [decide_eq_false_iff_not, Int.not_lt, gt_iff_lt] at h0 h1 h2 h3
      have hn : n = 63 := by omega
      subst hn
      have hs : v.toNat >>> 63 = 0 := by
        rw [Nat.shiftRight_eq_div_pow]
        apply Nat.div_eq_of_lt
        have : (2 : Nat) ^ 63 = 9223372036854775808 := by decide
        omega
      have : ¬ (v < 0) := by omega
      simp [hs, this]

theorem rbytes_k {w : World} {p : Option Addr} {c : Nat} {l : List Bool} (hr : Reads w p (tv l)) (hl : l.length ≤ 1048576) {K : Value → World → Prop}
    (hK : ∀ p' bs w', Ext no w w' → Row w' w.heap.size 5 p' bs.length (bv bs) → Packs bs l → K (.slice p' bs.length bs.length) w') :
    cl Try.prog 24 #[.slice p l.length c] w K := by
  apply F24_calls
  unfold F24
  have e1 : IntKind.wrap .i64 (Int.tdiv (IntKind.wrap .i64 ((l.length : Int) + 7)) 8) = (((l.length + 7) / 8 : Nat) : Int) := by
    rw [wr64 (n := (l.length : Int) + 7) (by omega) (by omega), show (l.length : Int) + 7 = ((l.length + 7 : Nat) : Int) by omega, tdiv8, wr64 (by omega) (by omega)]
  rw [e1]
  refine s22.makeN (by omega) (le_maxLen (by omega)) ?_
  intro w1 row1 x1
  refine asS_i rfl (lv_i ?_)
  rw [bv_rep] at row1
  refine lp_mk (fun s : Nat × List Nat => [.int .i64 (s.1 : Int)])
    (fun m s w' => m = l.length - s.1 ∧ s.1 ≤ l.length ∧ Ext no w w' ∧ s.2.length = (l.length + 7) / 8 ∧ (∀ b ∈ s.2, b < 256) ∧ (∀ j, j < 8 * s.2.length → bitOf s.2 j = (decide (j < s.1) && l.getD j false)) ∧ Row w' w.heap.size 5 (some ⟨w.heap.size, 0, none⟩) ((l.length + 7) / 8) (bv s.2))
    l.length (0, List.replicate ((l.length + 7) / 8) 0) rfl ⟨rfl, Nat.zero_le _, x1, by simp, by simp, ?_, row1⟩ ?_
  · intro j hj
    simp only at hj ⊢
    unfold bitOf
    rw [List.getD_eq_getElem?_getD, List.getElem?_replicate]
    split <;> simp
  rintro _ ⟨i, ys⟩ w2 ⟨rfl, hi, x2, hy, hys, hbit, row2⟩ J hJ
  simp only at hi hy hys hbit row2 hJ ⊢
  refine asI_i rfl (cond_split (fun hc => ?_) (fun hc => ?_))
  · have hil : i < l.length := by simpa using hc
    have ei : IntKind.wrap .i64 ((i : Int) + 1) = ((i + 1 : Nat) : Int) := by rw [wr64 (by omega) (by omega)]; omega
    refine jn_of (fun s w' => Ext no w w' ∧ ∃ zs : List Nat, zs.length = (l.length + 7) / 8 ∧ (∀ b ∈ zs, b < 256) ∧ (∀ j, j < 8 * zs.length → bitOf zs j = (decide (j < i + 1) && l.getD j false)) ∧ Row w' w.heap.size 5 (some ⟨w.heap.size, 0, none⟩) ((l.length + 7) / 8) (bv zs)) ?_ ?_
    · rintro _ w3 ⟨x3, zs, h1, h2, h3, h4⟩
      refine lv_i ?_
      rw [ei]
      exact hJ (l.length - (i + 1)) (i + 1, zs) w3 (by omega) ⟨rfl, by simp only; omega, x3, h1, h2, h3, h4⟩
    · intro J2 hJ2
      refine (hr.ext x2 fun _ _ h => h).at (by omega) (by rw [Int.toNat_natCast]; exact tv_get hil) ?_ (by rw [tv_length]; exact Nat.le_refl _)
      refine asB_i rfl (cond_split (fun hb => dw_mk ?_) (fun hb => hJ2 _ _ ⟨x2, ys, hy, hys, fun j hj => ?_, row2⟩))
      · have e3 : IntKind.wrap .i64 (Int.tdiv (i : Int) 8) = ((i / 8 : Nat) : Int) := by rw [tdiv8, wr64 (by omega) (by omega)]
        have e2 : IntKind.wrap .i64 ((7 : Int) - Int.tmod (i : Int) 8) = ((7 - i % 8 : Nat) : Int) := by rw [tmod8, wr64 (by omega) (by omega)]; omega
        rw [e3]
        have row2d := row2.ext (Ext.drew w2) fun _ _ h => h
        refine row2d.reads.at (by omega) (by rw [Int.toNat_natCast]; exact bv_get (by omega)) ?_ (by rw [bv_length]; omega)
        have hx := getD_small hys (i / 8)
        obtain ⟨o1, o2⟩ := or_bit hx (show 7 - i % 8 ≤ 7 by omega)
        rw [e2]
        refine asI_i rfl ?_
        rw [o1]
        refine (nn_mk (by omega) (row2d.st (by omega) (by rw [Int.toNat_natCast, bv_length]; omega) (by rw [bv_length]; omega) rfl ?_))
        intro w3 row3 x3 _
        rw [Int.toNat_natCast, bv_set] at row3
        refine hJ2 _ _ ⟨(x2.trans (Ext.drew w2)).then x3 fun k hk ⟨a, ha, hak⟩ => ?_, _, by simpa using hy, ?_, ?_, row3⟩
        · cases ha
          simp only at hak
          omega
        · intro b hb'
          rcases List.mem_or_eq_of_mem_set hb' with h | rfl
          · exact hys b h
          · exact o2
        · intro j hj
          rw [List.length_set] at hj
          have hold := hbit j hj
          unfold bitOf at hold ⊢
          by_cases hq : j / 8 = i / 8
          · rw [hq, List.getD_eq_getElem?_getD, List.getElem?_set_self (by omega), Option.getD_some, Nat.testBit_or, ← hq, hold, Nat.testBit_two_pow]
            by_cases hji : j = i
            · subst hji
              rw [hb]
              simp
            · have hne : ¬ (7 - i % 8 = 7 - j % 8) := by omega
              have : decide (j < i + 1) = decide (j < i) := by
                congr 1
                apply propext
                omega
              rw [this, decide_eq_false hne]
              simp
          · rw [List.getD_eq_getElem?_getD, List.getElem?_set_ne (fun h => hq h.symm), ← List.getD_eq_getElem?_getD, hold]
            congr 2
            apply propext
            constructor
            · intro h; omega
            · intro h
              have : j ≠ i := fun h => hq (by rw [h])
              omega
      · rw [hbit j hj]
        by_cases hji : j = i
        · subst hji
          rw [hb]
          simp
        · congr 2
          apply propext
          omega
  · have hil : i = l.length := by
      have : ¬ i < l.length := by simpa using hc
      omega
    subst hil
    have := hK (some ⟨w.heap.size, 0, none⟩) ys w2 x2 (by rw [hy]; exact row2) ⟨hy, hys, fun j hj => ?_⟩
    · rw [hy] at this
      exact this
    · rw [hbit j hj]
      by_cases hjl : j < l.length
      · simp [hjl]
      · rw [List.getD_eq_getElem?_getD, List.getElem?_eq_none (by omega)]
        simp
end Go.Proofs.Ytddljkkcpekcjaa
