/- BitsE: what Writer.Put does, told as a contract over rows of bits. Conditions: those of each theorem, on its arguments. -/
import Derived.Test.YtddljkkcpekcjaaBitsD
namespace Go.Proofs.Ytddljkkcpekcjaa
open Go Go.Sx

theorem bv_set {bs : List Nat} {i b : Nat} : (bv bs).set i (.int .u8 (b : Int)) = bv (bs.set i b) := by simp [bv, List.map_set]

/-- what a writer's functions may write -/
def wm (r : Nat) (p : Option Addr) : Nat → Prop := fun k => k = r ∨ blocks p k

/-- two steps of a writer -/
theorem wm_then {a b c : World} {r : Nat} {p p' : Option Addr} (h : Ext (wm r p) a b) (hm : Moved a p p') (k : Ext (wm r p') b c) : Ext (wm r p) a c := by
  refine h.then k fun i hi hk => ?_
  rcases hk with rfl | ⟨x, hx, rfl⟩
  · exact .inl rfl
  · rcases hm with rfl | hm
    · exact .inr ⟨x, hx, rfl⟩
    · exact absurd (hm x hx) (by omega)

theorem put_k {w : World} {base r : Nat} {p : Option Addr} {c : Nat} {bs : List Nat} {l : List Bool} (h : Wtr w base r p c bs l) {v n : Int} {K : Value → World → Prop}
    (hK : ∀ p' c' bs' w', Wtr w' base r p' c' bs' (putL l v n) → Ext (wm r p) w w' → Moved w p p' → K (.int .i64 (putE l v n)) w') :
    cl Try.prog 20 #[.pointer (some ⟨r, 0, none⟩), .int .i64 v, .int .i64 n] w K := by
  have bad : putE l v n = 1 → K (.int .i64 1) w := fun he => by
    have := hK p c bs w (by simpa [putL, he] using h) (Ext.refl _ _) (.inl rfl)
    rwa [he] at this
  apply F20_calls
  unfold F20
  refine lv_i (jn_mk (cond_split (fun h0 => asB_i rfl (cond_t rfl (lv_i (bad ?_)))) (fun h0 => cond_split (fun h1 => asB_i rfl (cond_t rfl (lv_i (bad ?_)))) (fun h1 => cond_split (fun h2 => asB_i rfl (cond_t rfl (lv_i (bad ?_)))) (fun h2 => ?_)))))
  · unfold putE; rw [if_pos (.inl (by simpa using h0))]
  · unfold putE; rw [if_pos (.inr (.inl (by simpa using h1)))]
  · unfold putE; rw [if_pos (.inr (.inr (.inl (by simpa using h2))))]
  · simp only [decide_eq_false_iff_not, Int.not_lt, gt_iff_lt] at h0 h1 h2
    obtain ⟨V, rfl⟩ : ∃ V : Nat, v = (V : Int) := ⟨v.toNat, by omega⟩
    obtain ⟨N, rfl⟩ : ∃ N : Nat, n = (N : Int) := ⟨n.toNat, by omega⟩
    refine nn_mk (by omega) ?_
    have hmin : min (Int.toNat (N : Int)) 64 = N := by rw [Int.toNat_natCast]; omega
    rw [hmin, fdiv_pow]
    refine asB_i rfl (cond_split (fun h3 => lv_i (bad ?_)) (fun h3 => ?_))
    · have hne : V >>> N ≠ 0 := fun hz => by rw [hz] at h3; simp at h3
      unfold putE
      rw [if_pos (.inr (.inr (.inr hne)))]
    have hsh : V >>> N = 0 := by
      have : ((V >>> N : Nat) : Int) = 0 := by
        simp only [bne_eq_false_iff_eq] at h3
        exact h3
      omega
    have hV : V < 2 ^ N := by
      rw [Nat.shiftRight_eq_div_pow] at hsh
      exact (Nat.div_eq_zero_iff_lt (Nat.two_pow_pos N)).1 hsh
    have hV63 : V < 2 ^ 63 := Nat.lt_of_lt_of_le hV (pow_le_of (by omega))
    have hnot : ¬ ((N : Int) < 0 ∨ 63 < (N : Int) ∨ (V : Int) < 0 ∨ (V : Int).toNat >>> (N : Int).toNat ≠ 0) := by
      simp only [Int.toNat_natCast, hsh]
      omega
    refine dr_i (ld_mk (wtr_ld1 h) (asI_i rfl ?_))
    have hmost := h.most
    rw [wr64 (by omega) (by omega)]
    refine cond_split (fun h4 => lv_i ?_) (fun h4 => ?_)
    · have he : putE l V N = 2 := by
        unfold putE
        rw [if_neg hnot, if_pos (by simpa using h4)]
      have := hK p c bs w (by simpa [putL, he] using h) (Ext.refl _ _) (.inl rfl)
      rwa [he] at this
    have he : putE l V N = 0 := by
      unfold putE
      rw [if_neg hnot, if_neg (by simpa using h4)]
    have hlN : l.length + N ≤ 1048576 := by
      simp only [decide_eq_false_iff_not, Int.not_lt, gt_iff_lt] at h4
      omega
    have hpL : putL l V N = l ++ numBits V N := by simp [putL, he]
    rw [hpL, he] at hK
    refine lp_mk (fun m : Nat => [.int .i64 (m : Int)])
      (fun m0 m w' => m = m0 ∧ m ≤ N ∧ ∃ p' c' bs' l', Wtr w' base r p' c' bs' l' ∧ l' ++ numBits V m = l ++ numBits V N ∧ Ext (wm r p) w w' ∧ Moved w p p') N N rfl
      ⟨rfl, Nat.le_refl _, p, c, bs, l, h, rfl, Ext.refl _ _, .inl rfl⟩ ?_
    rintro _ m w1 ⟨rfl, hmN, p1, c1, bs1, l1, hW, hl1, hX, hM⟩ J hJ
    refine asI_i rfl (cond_split (fun hm0 => ?_) (fun hm0 => ?_))
    · have hm0' : m = 0 := by simpa using hm0
      subst hm0'
      have : l1 = l ++ numBits V N := by rw [← hl1]; simp [numBits]
      subst this
      exact lv_i (hK _ _ _ _ hW hX hM)
    have hmpos : 0 < m := by
      have : ¬ (m : Int) = 0 := by simpa using hm0
      omega
    have hl1len : l1.length + m = l.length + N := by
      have := congrArg List.length hl1
      simpa [numBits_length] using this
    have hmost1 := hW.most
    -- the round, once there is a byte with room
    have round : ∀ (p2 : Option Addr) (c2 : Nat) (bs2 : List Nat) (w2 : World), base ≤ w2.heap.size → (∀ a, p2 = some a → a.block ≠ r) →
        w2.heap[r]? = some (.cells #[.slice p2 bs2.length c2, .int .i64 (l1.length : Int)] 54 (0, 0)) → Row w2 base 5 p2 c2 (bv bs2) → PacksR bs2 l1 → Ext (wm r p) w w2 → Moved w p p2 →
        (dr (some ⟨r, 0, none⟩) fun a36 => (ld w2 (Addr.add a36 1) fun v37 => asI .i64 v37 fun x38 => (lv (IntKind.wrap .i64 ((8 : Int) - (Int.tmod x38 (8 : Int)))) fun free_39 => 
(lv (if (m : Int) < free_39 then (m : Int) else free_39) fun k_40 => 
(dw w2 fun w41 => (dr (some ⟨r, 0, none⟩) fun a42 => (ld w41 a42 fun v43 => asS v43 fun p44 n45 _ => (dr (some ⟨r, 0, none⟩) fun a47 => (ld w41 a47 fun v48 => asS v48 fun _ n50 _ => (dr p44 fun a52 => (bnd (IntKind.wrap .i64 ((n50 : Int) - (1 : Int))) n45 (ld w41 (Addr.add a52 (Int.toNat (IntKind.wrap .i64 ((n50 : Int) - (1 : Int))) * 1)) fun v53 => asI .u8 v53 fun x54 => (nn (IntKind.wrap .i64 ((m : Int) - k_40)) (nn k_40 (nn (IntKind.wrap .i64 (free_39 - k_40)) (dr p44 fun a55 => (bnd (IntKind.wrap .i64 ((n50 : Int) - (1 : Int))) n45 (st w41 (Addr.add a55 (Int.toNat (IntKind.wrap .i64 ((n50 : Int) - (1 : Int))) * 1)) (.int .u8 (Go.bits .or .u8 x54 (IntKind.wrap .u8 ((IntKind.wrap .u8 (Go.bits .and .i64 (Int.fdiv (V : Int) (2 ^ (min (Int.toNat (IntKind.wrap .i64 ((m : Int) - k_40))) 64))) (IntKind.wrap .i64 ((IntKind.wrap .i64 ((1 : Int) * 2 ^ (min (Int.toNat k_40) 64))) - (1 : Int))))) * 2 ^ (min (Int.toNat (IntKind.wrap .i64 (free_39 - k_40))) 8))))) fun w56 => 
(dr (some ⟨r, 0, none⟩) fun a57 => (ld w56 (Addr.add a57 1) fun v58 => asI .i64 v58 fun x59 => (dr (some ⟨r, 0, none⟩) fun a60 => (st w56 (Addr.add a60 1) (.int .i64 (IntKind.wrap .i64 (x59 + k_40))) fun w61 => 
(lv (IntKind.wrap .i64 ((m : Int) - k_40)) fun n_62 => 
(J [(.int .i64 n_62)] w61)))))))))))))))))))))))) := by
      intro p2 c2 bs2 w2 hb2 hne2 hblk2 hrow2 hpk2 hX2 hM2
      have hld0 : w2.cell? ⟨r, 0, none⟩ = some (.slice p2 bs2.length c2) := by rw [blk_cell hblk2]; rfl
      have hld1 : w2.cell? (Addr.add ⟨r, 0, none⟩ 1) = some (.int .i64 (l1.length : Int)) := by rw [add_mk, blk_cell hblk2]; rfl
      refine dr_i (ld_mk hld1 (asI_i rfl ?_))
      have hlen2 := hpk2.len
      obtain ⟨free, hfree⟩ : ∃ free, free = 8 - l1.length % 8 := ⟨_, rfl⟩
      have ef : IntKind.wrap .i64 ((8 : Int) - Int.tmod (l1.length : Int) 8) = (free : Int) := by rw [tmod8, wr64 (by omega) (by omega)]; omega
      rw [ef]
      obtain ⟨k, hkdef⟩ : ∃ k : Nat, k = min m free := ⟨_, rfl⟩
      have ek : (if (m : Int) < (free : Int) then (m : Int) else (free : Int)) = (k : Int) := by split <;> omega
      refine lv_i ?_
      rw [ek]
      refine lv_i (dw_mk (dr_i (ld_mk hld0 (asS_i rfl (dr_i (ld_mk hld0 (asS_i rfl ?_)))))))
      have e1 : IntKind.wrap .i64 ((bs2.length : Int) - 1) = ((bs2.length - 1 : Nat) : Int) := by rw [wr64 (by omega) (by omega)]; omega
      have e2 : IntKind.wrap .i64 ((m : Int) - (k : Int)) = ((m - k : Nat) : Int) := by rw [wr64 (by omega) (by omega)]; omega
      have e3 : IntKind.wrap .i64 ((free : Int) - (k : Int)) = ((free - k : Nat) : Int) := by rw [wr64 (by omega) (by omega)]; omega
      rw [e1, e2, e3]
      have hrowd : Row w2.drew base 5 p2 c2 (bv bs2) := hrow2.ext (Ext.drew w2) fun _ _ h => h
      refine hrowd.reads.at (by omega) (by rw [Int.toNat_natCast]; exact bv_get (by omega)) (asI_i rfl (nn_mk (by omega) (nn_mk (by omega) (nn_mk (by omega) ?_)))) (by rw [bv_length]; exact Nat.le_refl _)
      have hput := put_byte (x := bs2.getD (bs2.length - 1) 0) (v := V) (m := m) (k := k) (free := free) (getD_small hpk2.small _) hV63 (by omega) (by omega) (by omega) (by omega)
      rw [hput]
      refine hrowd.st (by omega) (by rw [bv_length]; omega) (by rw [bv_length]; exact Nat.le_refl _) rfl ?_
      intro w3 hrow3 hx3 hs3
      rw [Int.toNat_natCast, bv_set] at hrow3
      have hx23 : Ext (blocks p2) w2 w3 := ((Ext.drew w2).mono fun _ _ h => h.elim).trans hx3
      have hblk3 := hx23.blk hblk2 (fun ⟨a, ha, hab⟩ => hne2 a ha hab)
      have hld3 : w3.cell? (Addr.add ⟨r, 0, none⟩ 1) = some (.int .i64 (l1.length : Int)) := by rw [add_mk, blk_cell hblk3]; rfl
      refine dr_i (ld_mk hld3 (asI_i rfl (dr_i ?_)))
      rw [add_mk]
      refine st_mk hblk3 (by simp) rfl (lv_i ?_)
      have e4 : IntKind.wrap .i64 ((l1.length : Int) + (k : Int)) = ((l1.length + k : Nat) : Int) := by rw [wr64 (by omega) (by omega)]; omega
      rw [e4]
      have hx4 := Ext.set w3 ⟨r, 0 + 1, none⟩ (.int .i64 ((l1.length + k : Nat) : Int))
      have hblk4 := blk_set hblk3 (0 + 1) (.int .i64 ((l1.length + k : Nat) : Int))
      have hrow4 := hrow3.ext hx4 fun a ha hk => hne2 a ha hk
      have hpk4 := hpk2.round (v := V) (n := m) hfree (by omega) (show k ≤ free by omega) (by omega)
      have hX4 : Ext (wm r p) w (w3.setCell ⟨r, 0 + 1, none⟩ (.int .i64 ((l1.length + k : Nat) : Int))) :=
        wm_then hX2 hM2 ((hx23.mono fun i _ hi => .inr hi).trans (hx4.mono fun i _ hi => .inl hi))
      refine hJ (m - k) (m - k) _ (by omega) ⟨rfl, by omega, p2, c2, _, l1 ++ (List.range k).map (fun i => V.testBit (m - 1 - i)), ⟨hW.hlo, Nat.le_trans hb2 (Nat.le_trans hx23.size hx4.size), hne2, ?_, hrow4, hpk4, ?_⟩, ?_, hX4, hM2⟩
      · rw [hblk4]
        simp
      · simp only [List.length_append, List.length_map, List.length_range]
        omega
      · rw [List.append_assoc, numBits_split (by omega)]
        exact hl1
    refine jn_mk (dr_i (ld_mk (wtr_ld1 hW) (asI_i rfl (cond_split (fun h8 => ?_) (fun h8 => ?_)))))
    · have h8' : l1.length % 8 = 0 := by
        have : (Int.tmod (l1.length : Int) 8) = 0 := by simpa using h8
        rw [tmod8] at this
        omega
      refine dr_i (ld_mk (wtr_ld0 hW) (asS_i rfl ?_))
      have hbl := Packs.le hW.pk hW.most
      refine s22.app1 hW.row (bv_length bs1) hW.le rfl (le_maxLen (by omega)) (by omega) ?_
      intro p2 c2 w2 hrow2 hx2 hm2
      have hblk2 := hx2.blk hW.blk (fun ⟨a, ha, hab⟩ => hW.ne a ha hab)
      refine asS_i rfl (dr_i (st_mk hblk2 (by simp) rfl ?_))
      have hx3 := Ext.set w2 ⟨r, 0, none⟩ (.slice p2 (bs1.length + 1) c2)
      have hne2 : ∀ a, p2 = some a → a.block ≠ r := by
        intro a ha
        rcases hm2 with rfl | hm2
        · exact hW.ne a ha
        · have := hm2 a ha
          have := blk_lt hW.blk
          omega
      have hrow3 := hrow2.ext hx3 fun a ha hk => hne2 a ha hk
      refine round p2 c2 (bs1 ++ [0]) _ (Nat.le_trans hW.le (Nat.le_trans hx2.size hx3.size)) hne2 ?_ ?_ (hW.pk.room_new h8') ?_ (hM.trans hX.size hm2)
      · rw [blk_set hblk2]
        simp
      · rw [bv_append]
        exact hrow3
      · exact wm_then hX hM ((hx2.mono fun i _ hi => .inr hi).then hx3 fun i _ hi => .inl hi)
    · have h8' : l1.length % 8 ≠ 0 := by
        have : ¬ (Int.tmod (l1.length : Int) 8) = 0 := by simpa using h8
        rw [tmod8] at this
        omega
      exact round p1 c1 bs1 w1 hW.le hW.ne hW.blk hW.row (hW.pk.room_old h8') hX hM
end Go.Proofs.Ytddljkkcpekcjaa
