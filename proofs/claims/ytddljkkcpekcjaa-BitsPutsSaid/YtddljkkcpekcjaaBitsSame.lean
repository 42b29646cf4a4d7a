/- BitsSame: the law BitsSame comes out true for every input: bits that were taken and put again are the same bytes. Conditions: those of the law's arguments as they are read. -/
import Derived.Test.YtddljkkcpekcjaaBitsBack
namespace Go.Proofs.Ytddljkkcpekcjaa
open Go Go.Sx

/-- the first bits of bytes -/
def bitsTo (bs : List Nat) (a : Nat) : List Bool := (List.range a).map (bitOf bs)
theorem bitsTo_length (bs : List Nat) (a : Nat) : (bitsTo bs a).length = a := by simp [bitsTo]
theorem bitsTo_get {bs : List Nat} {a i : Nat} (h : i < a) : (bitsTo bs a)[i]? = some (bitOf bs i) := by simp [bitsTo, h]

theorem numBits_rdv (bs : List Nat) (a n : Nat) : bitsTo bs a ++ numBits (rdv (bitOf bs) a n) n = bitsTo bs (a + n) := by
  apply List.ext_getElem?
  intro i
  by_cases h1 : i < a
  · rw [List.getElem?_append_left (by rwa [bitsTo_length]), bitsTo_get h1, bitsTo_get (by omega)]
  · rw [List.getElem?_append_right (by rw [bitsTo_length]; omega), bitsTo_length]
    by_cases h2 : i < a + n
    · rw [numBits_get _ _ _ (by omega), bitsTo_get h2, rdv_test]
      have e1 : n - 1 - (i - a) < n := by omega
      have e2 : a + n - 1 - (n - 1 - (i - a)) = i := by omega
      rw [e2]
      simp [e1]
    · rw [List.getElem?_eq_none (by rw [numBits_length]; omega), List.getElem?_eq_none (by rw [bitsTo_length]; omega)]

theorem Packs.self {bs : List Nat} (h : ∀ b ∈ bs, b < 256) : Packs bs (bitsTo bs (8 * bs.length)) := by
  refine ⟨by rw [bitsTo_length]; omega, h, fun i hi => ?_⟩
  rw [List.getD_eq_getElem?_getD, bitsTo_get hi]
  rfl

theorem and63 (x : Int) : 0 ≤ Go.bits .and .i64 x 63 ∧ Go.bits .and .i64 x 63 ≤ 63 := by
  have h : ∀ a : Nat, a ≤ 63 → 0 ≤ IntKind.wrap .i64 (a : Int) ∧ IntKind.wrap .i64 (a : Int) ≤ 63 := fun a ha => by
    rw [wr64 (by omega) (by omega)]; omega
  simp only [Go.bits]
  refine h _ ?_
  rw [BitVec.toNat_and]
  refine Nat.le_trans Nat.and_le_right ?_
  decide

theorem hr_i {P : Program} {w : World} {s : Sem Value} {v : Value} {X : Prop} (h : s.run P w = .ok v w) (hx : X) : hr P w s v X := ⟨h, hx⟩

theorem putE_of {l : List Bool} {v n : Nat} (hn : n ≤ 63) (hv : v < 2 ^ n) (hl : l.length + n ≤ 1048576) : putE l v n = 0 := by
  unfold putE
  have : v >>> n = 0 := by
    rw [Nat.shiftRight_eq_div_pow]
    exact (Nat.div_eq_zero_iff_lt (Nat.two_pow_pos n)).2 hv
  rw [if_neg (by simp only [Int.toNat_natCast, this]; omega), if_neg (by omega)]

theorem bitsSame_law (W : World) (a0 : Option Addr) (n0 c0 : Nat) (z0 : List Int) (R0 : Reads W a0 (iv .u8 z0)) (L0 : z0.length = n0) (F0 : ∀ n ∈ z0, (Lit.int .u8 n).wf = true) (Y0 : n0 * 1 ≤ 140737488351232)
    (a1 : Option Addr) (n1 c1 : Nat) (z1 : List Int) (R1 : Reads W a1 (iv .i64 z1)) (L1 : z1.length = n1) (_F1 : ∀ n ∈ z1, (Lit.int .i64 n).wf = true) (Y1 : n1 * 8 ≤ 140737488351232) :
    cl Try.prog 5 #[.slice a0 n0 c0, .slice a1 n1 c1] W fun v w' => v = .bool true ∧ Ext no W w' := by
  obtain ⟨bs, e0, l0, small⟩ := bytes_of F0
  rw [e0] at R0
  have hn0 : bs.length = n0 := l0.trans L0
  apply F5_calls
  unfold F5
  refine awake_k ?_
  intro w1 x1
  refine asB_i rfl (read_k (R0.old (Ext.to_ge x1) (Nat.le_refl _)) hn0 small (by omega) ?_)
  intro r2 p2 q2 w2 x2 h2
  refine asP_i rfl (new_k ?_)
  intro r3 w3 x3 h3
  have X3 : Ext no W w3 := x1.trans (x2.trans x3)
  have g1 : W.heap.size ≤ w1.heap.size := x1.size
  have g2 := x2.size
  have g3 := x3.size
  refine asP_i rfl (jn_mk (cond_f rfl (cond_f rfl (cond_f rfl (asB_i rfl (cond_split (fun hbig => ⟨rfl, X3⟩) (fun hbig => lv_i ?_)))))))
  have hsm : n0 ≤ 100000 := by
    simp only [decide_eq_false_iff_not] at hbig
    omega
  have h2' := h2.keep x3 fun _ _ _ h => h
  refine lp_mk (fun s : Nat × Nat => [.int .i64 (s.1 : Int)])
    (fun m s w' => m = n1 + 8 * n0 + 1 - s.1 ∧ s.1 ≤ n1 + s.2 ∧ s.2 ≤ 8 * n0 ∧ Ext (ge w1.heap.size) w3 w' ∧ Rdr w' w1.heap.size w2.heap.size r2 p2 q2 bs s.2 ∧ ∃ p c bs', Wtr w' w2.heap.size r3 p c bs' (bitsTo bs s.2))
    (n1 + 8 * n0 + 1) (0, 0) rfl ⟨rfl, Nat.zero_le _, Nat.zero_le _, Ext.refl _ _, h2', none, 0, [], h3⟩ ?_
  rintro _ ⟨i, a⟩ w4 ⟨rfl, hia, ha, X4, hR, p, c, bs', hW⟩ J hJ
  simp only at hia ha hR hW hJ ⊢
  have fin : ∀ {w'}, Ext (ge w1.heap.size) w3 w' → Ext no W w' := fun hx => Ext.to_no ((Ext.to_ge X3).trans hx) g1
  refine asI_i rfl (rest_k hR ?_)
  intro w5 x5
  have hR5 := hR.keep x5 fun _ _ _ h => h
  have hW5 := hW.keep x5 (fun h => h) fun _ _ h => h
  have X5 := X4.trans (Ext.to_ge (b := w1.heap.size) x5)
  refine asI_i rfl (cond_split (fun hc => ?_) (fun hc => ?_))
  · have hrest : 0 < 8 * bs.length - a := by
      simp only [gt_iff_lt, decide_eq_true_eq] at hc
      omega
    refine rest_k hR5 ?_
    intro w6 x6
    have hR6 := hR5.keep x6 fun _ _ _ h => h
    have hW6 := hW5.keep x6 (fun h => h) fun _ _ h => h
    have X6 := X5.trans (Ext.to_ge (b := w1.heap.size) x6)
    refine asI_i rfl (lv_i ?_)
    refine jn_of (fun s w' => ∃ N : Nat, s = [.int .i64 (N : Int)] ∧ N ≤ 63 ∧ N ≤ 8 * bs.length - a ∧ (i < n1 ∨ 0 < N) ∧ Ext no w6 w') ?_ ?_
    · rintro _ w7 ⟨N, rfl, hN, hNr, hprog, x7⟩
      have hR7 := hR6.keep x7 fun _ _ _ h => h
      have hW7 := hW6.keep x7 (fun h => h) fun _ _ h => h
      have X7 := X6.trans (Ext.to_ge (b := w1.heap.size) x7)
      refine asI_i rfl (take_k hR7 ?_)
      intro w8 hR8 x8
      have he : takeE bs a (N : Int) = 0 := by
        unfold takeE
        rw [if_neg (by omega), if_neg (by omega)]
      have hv : takeV bs a (N : Int) = ((rdv (bitOf bs) a N : Nat) : Int) := by simp [takeV, he]
      have hA : takeA bs a (N : Int) = a + N := by simp [takeA, he]
      rw [hA] at hR8
      rw [hv, he]
      have hW8 := hW7.keep x8 (fun h => by have := hR7.hhi; have := hW7.hlo; have : r3 = r2 := h; omega) fun b hb h => by
        have := (hW7.row.at hb).1
        have := hR7.hhi
        have : b.block = r2 := h
        omega
      refine asT_i rfl rfl (asI_i rfl (asI_i rfl (lv_i (lv_i (put_k hW8 ?_)))))
      have hpe : putE (bitsTo bs a) ((rdv (bitOf bs) a N : Nat) : Int) (N : Int) = 0 := putE_of hN (rdv_lt _ _ _) (by rw [bitsTo_length]; omega)
      have hpl : putL (bitsTo bs a) ((rdv (bitOf bs) a N : Nat) : Int) (N : Int) = bitsTo bs (a + N) := by
        simp only [putL, hpe, if_true, Int.toNat_natCast]
        exact numBits_rdv bs a N
      rw [hpe, hpl]
      intro p' c' bs'' w9 hW9 x9 m9
      have X8 := X7.trans (hR7.ext_ge x8)
      have hx9 := hW8.ext_ge x9
      have X9 := X8.trans (hx9.mono fun k _ (hk : w2.heap.size ≤ k) => show w1.heap.size ≤ k by omega)
      have hR9 := hR8.keep hx9 fun k h1 h2 (hk : w2.heap.size ≤ k) => by omega
      refine asI_i rfl (lv_i (jn_mk (cond_f rfl (cond_f rfl (asB_i rfl ?_)))))
      have e1 : IntKind.wrap .i64 ((n1 : Int) + IntKind.wrap .i64 (8 * (n0 : Int))) = ((n1 + 8 * n0 : Nat) : Int) := by
        rw [wr64 (n := 8 * (n0 : Int)) (by omega) (by omega), wr64 (by omega) (by omega)]; omega
      rw [e1]
      refine cond_f (by simp only [decide_eq_false_iff_not]; omega) (lv_i ?_)
      have ei : IntKind.wrap .i64 ((i : Int) + 1) = ((i + 1 : Nat) : Int) := by rw [wr64 (by omega) (by omega)]; omega
      rw [ei]
      exact hJ (n1 + 8 * n0 + 1 - (i + 1)) (i + 1, a + N) w9 (by omega) ⟨rfl, by simp only; omega, by simp only; omega, X9, hR9, p', c', bs'', hW9⟩
    · intro J2 hJ2
      refine cond_split (fun hs => ?_) (fun hs => ?_)
      · have hi1 : i < n1 := by simpa using hs
        have X6' := X6.trans (Ext.to_ge (b := w1.heap.size) (Ext.drew w6))
        refine dw_mk ?_
        have hrd := R1.old (Ext.to_ge (fin X6')) (Nat.le_refl _)
        have hrd2 : ∀ {w'}, Ext no w6.drew w' → Reads w' a1 (iv .i64 z1) := fun hx => hrd.ext hx fun _ _ h => h
        rcases hrd2 (Ext.refl _ _) with hnil | ⟨b, o, rfl, _⟩
        · have := congrArg List.length hnil
          rw [iv_length, List.length_nil] at this
          omega
        · refine hrd.at (by omega) (by rw [Int.toNat_natCast]; exact iv_get (by omega)) ?_ (by rw [iv_length, L1]; exact Nat.le_refl _)
          refine asI_i rfl (rest_k hR6.drew ?_)
          intro w7 x7
          refine asI_i rfl ?_
          have h63 := and63 (z1.getD i 0)
          generalize Go.bits .and .i64 (z1.getD i 0) 63 = m at h63
          refine hd_i ?_ (lv_i ?_)
          · rcases hrd2 x7 with hnil | ⟨b', o', hbo, hc'⟩
            · have := congrArg List.length hnil
              rw [iv_length, List.length_nil] at this
              omega
            · cases hbo
              rw [Int.toNat_natCast, Nat.mul_one, add_mk]
              exact hc' i _ (iv_get (by omega))
          · have hex : ∃ N : Nat, (if ((8 * bs.length - a : Nat) : Int) < m then ((8 * bs.length - a : Nat) : Int) else m) = (N : Int) ∧ N ≤ 63 ∧ N ≤ 8 * bs.length - a := by
              split
              · exact ⟨8 * bs.length - a, rfl, by omega, by omega⟩
              · exact ⟨m.toNat, by omega, by omega, by omega⟩
            obtain ⟨N, hN, h1, h2⟩ := hex
            rw [hN]
            exact hJ2 _ _ ⟨N, rfl, h1, h2, .inl hi1, (Ext.drew w6).trans x7⟩
      · have hex : ∃ N : Nat, (if ((8 * bs.length - a : Nat) : Int) < 7 then ((8 * bs.length - a : Nat) : Int) else 7) = (N : Int) ∧ N ≤ 63 ∧ N ≤ 8 * bs.length - a ∧ 0 < N := by
          split
          · exact ⟨8 * bs.length - a, rfl, by omega, by omega, by omega⟩
          · exact ⟨7, by omega, by omega, by omega, by omega⟩
        obtain ⟨N, hN, h1, h2, h3⟩ := hex
        rw [hN]
        exact hJ2 _ _ ⟨N, rfl, h1, h2, .inr h3, Ext.refl _ _⟩
  · have hrest : a = 8 * bs.length := by
      simp only [gt_iff_lt, decide_eq_false_iff_not] at hc
      omega
    subst hrest
    have hbs : bs' = bs := hW.pk.unique (Packs.self small)
    subst hbs
    have X5' := X5.trans (Ext.to_ge (b := w1.heap.size) (Ext.drew w5))
    have hnone : a0 = none → bs' = [] := fun hn => by
      rcases R0 with h | ⟨b, o, h, _⟩
      · simpa [bv] using h
      · rw [hn] at h; cases h
    refine dw_mk (rq_mk (run_str s22.und rfl rfl (R0.old (Ext.to_ge (fin X5')) (Nat.le_refl _)) hn0 hnone) (asY_i rfl (bytes_k hW5.drew ?_)))
    intro p6 c6 w6 x6 row6 hp6
    have X6 := X5'.trans (Ext.to_ge (b := w1.heap.size) x6)
    refine asS_i rfl (hr_i (run_str s22.und rfl rfl (R0.old (Ext.to_ge (fin X6)) (Nat.le_refl _)) hn0 hnone) ?_)
    refine rq_mk (run_str s22.und rfl rfl row6.reads rfl hp6) (asY_i rfl ⟨by simp, fin X6⟩)
end Go.Proofs.Ytddljkkcpekcjaa
