/- LatL: the document's examples of cells come out (awake); the law LatticeSpiral comes out true for every number. Conditions: that the argument is a number of 64 bits. -/
import Derived.Test.YtppjcjbdkihnaaaLatS
import Derived.Test.YtppjcjbdkihnaaaOp
namespace Go.Proofs.Ytppjcjbdkihnaaa
open Go Go.Sx Go.Fp
attribute [local irreducible] jn lv ld st nw asI asB asP asS asY asM asF asA asT lp rn ru rq cl dw dr bnd bn2 nz nn hd hr so eqW

theorem lit_32 : N 4613937818241073152 3 ∧ N 4611686018427387904 2 := ⟨N_lit (by decide) (by decide), N_lit (by decide) (by decide)⟩

theorem turn32_k {w : World} {K : Value → World → Prop} (hK : ∀ x y, N x (-2) → N y 3 → K (.tuple #[.complex .f64 x y, .int .i64 0]) w) : cl Try.prog 8 #[.complex .f64 4613937818241073152 4611686018427387904, .int .i64 1] w K := by
  apply F8_calls
  unfold F8
  refine lv_i (cell_k lit_32.1 lit_32.2 (asB_i rfl (cond_f (by decide) ?_)))
  have e : Go.bits .and .i64 (1 : Int) 3 = 1 := by decide
  rw [e]
  refine lp_mk (fun s : (Nat × Nat) × Nat => [.complex .f64 s.1.1 s.1.2, .int .i64 (s.2 : Int)])
    (fun m s w1 => w = w1 ∧ m = 1 - s.2 ∧ ((s.2 = 0 ∧ N s.1.1 3 ∧ N s.1.2 2) ∨ (s.2 = 1 ∧ N s.1.1 (-2) ∧ N s.1.2 3))) 1 ((4613937818241073152, 4611686018427387904), 0) rfl ⟨rfl, rfl, .inl ⟨rfl, lit_32⟩⟩ ?_
  rintro _ ⟨⟨x, y⟩, i⟩ _ ⟨rfl, rfl, h⟩ J hJ
  simp only at h hJ ⊢
  refine ⟨_, _, rfl, asI_i rfl ?_⟩
  rcases h with ⟨rfl, hx, hy⟩ | ⟨rfl, hx, hy⟩
  · refine cond_t (by decide) (so_sub N_zero hy (by decide) fun f hf => ?_)
    exact hJ 0 ((f, x), 1) w (by omega) ⟨rfl, rfl, .inr ⟨rfl, hf, hx⟩⟩
  · exact cond_f (by decide) (lv_i (hK x y hx hy))

theorem step_k {h : Nat} (hh : h < 4) {w : World} {K : Value → World → Prop} (hK : ∀ x y, N x (if h = 0 ∨ h = 1 then 1 else if h = 2 then 0 else -1) → N y (if h = 0 then 0 else 1) → K (.complex .f64 x y) w) : cl Try.prog 14 #[.int .i64 (h : Int)] w K := by
  apply F14_calls
  unfold F14
  refine bnd_mk (by omega) (by omega) ?_
  rcases (by omega : h = 0 ∨ h = 1 ∨ h = 2 ∨ h = 3) with rfl | rfl | rfl | rfl
  · exact so_i rfl ⟨_, _, rfl, hK _ _ N_one N_zero⟩
  · exact so_i rfl ⟨_, _, rfl, hK _ _ N_one N_one⟩
  · exact so_i rfl ⟨_, _, rfl, hK _ _ N_zero N_one⟩
  · exact so_i rfl ⟨_, _, rfl, hK _ _ N_mone N_one⟩

theorem heading72_k {w : World} {K : Value → World → Prop} (hK : K (.tuple #[.int .i64 3, .int .i64 0]) w) : cl Try.prog 9 #[.complex .f64 13842939354630062080 4611686018427387904] w K := by
  have h7 : N 13842939354630062080 (-7) := N_lit (by decide) (by decide)
  apply F9_calls
  unfold F9
  refine lv_i (lv_i (cell_k h7 lit_32.2 (asB_i rfl (cond_f (by decide) (unit_k h7 lit_32.2 fun u v hu hv => ?_)))))
  refine ⟨_, _, rfl, ?_⟩
  refine lp_mk (fun h : Nat => [.int .i64 (h : Int)]) (fun m h w1 => w = w1 ∧ m = 4 - h ∧ h < 4) 4 0 rfl ⟨rfl, rfl, by decide⟩ ?_
  rintro _ h _ ⟨rfl, rfl, hh⟩ J hJ
  refine asI_i rfl (cond_t (by simp; omega) (lv_i (step_k hh fun x y hx hy => asC_i rfl ?_)))
  rw [ord_eq hx hu, ord_eq hy hv]
  rcases (by omega : h = 0 ∨ h = 1 ∨ h = 2 ∨ h = 3) with rfl | rfl | rfl | rfl
  · exact cond_f (by decide) (hJ 3 1 w (by omega) ⟨rfl, rfl, by decide⟩)
  · exact cond_f (by decide) (hJ 2 2 w (by omega) ⟨rfl, rfl, by decide⟩)
  · exact cond_f (by decide) (hJ 1 3 w (by omega) ⟨rfl, rfl, by decide⟩)
  · exact cond_t (by decide) (lv_i (lv_i hK))

theorem s33 : SlT Try.prog 33 23 (.complex .f64 0 0) 16 := ⟨rfl, ⟨_, rfl, rfl, rfl, rfl⟩, rfl⟩

theorem walk31_k {w : World} {K : Value → World → Prop}
    (hK : ∀ p c x y w', Ext no w w' → (∃ b o, p = some ⟨b, o, none⟩ ∧ w'.cell? ⟨b, o + 1, none⟩ = some (.complex .f64 x y)) → N x 2 → N y 1 → K (.tuple #[.slice p 3 c, .int .i64 0]) w') :
    cl Try.prog 10 #[.complex .f64 0 0, .complex .f64 4613937818241073152 4607182418800017408] w K := by
  apply F10_calls
  unfold F10
  refine lv_i (Far_k N_zero N_zero lit_32.1 N_one (by decide) (by decide) ?_)
  have e : Lat.far (0 - 3) (0 - 1) = ((3 : Nat) : Int) := by decide
  rw [e]
  refine asT_i rfl rfl (asI_i rfl (asI_i rfl (lv_i (lv_i (cond_f rfl (cond_f (by decide) (s33.make0 (by decide) (by decide) ?_)))))))
  intro w1 hrow hx1
  refine asS_i rfl ?_
  refine lp_mk (fun s : (Nat × Nat) × (Option Addr × Nat × Nat) × Nat => [.complex .f64 s.1.1 s.1.2, .slice s.2.1.1 s.2.1.2.1 s.2.1.2.2, .int .i64 (s.2.2 : Int)])
    (fun m s w2 => m = 3 - s.2.2 ∧ s.2.2 ≤ 3 ∧ s.2.1.2.1 = s.2.2 ∧ Ext no w w2 ∧ N s.1.1 (s.2.2 : Int) ∧ N s.1.2 (if s.2.2 = 0 then 0 else 1) ∧
      ∃ vs, Row w2 w.heap.size 23 s.2.1.1 s.2.1.2.2 vs ∧ vs.length = s.2.2 ∧ (2 ≤ s.2.2 → ∃ x y, vs[1]? = some (.complex .f64 x y) ∧ N x 2 ∧ N y 1)) 3 ((0, 0), (some ⟨w.heap.size, 0, none⟩, 0, 3), 0) rfl
    ⟨rfl, Nat.zero_le _, rfl, hx1, N_zero, N_zero, [], hrow, rfl, fun h => absurd h (Nat.not_succ_le_zero 1)⟩ ?_
  rintro _ ⟨⟨a, b⟩, ⟨p, n, c⟩, i⟩ w2 ⟨rfl, hi, hn, hx2, ha, hb, vs, hr, hl, hv⟩ J hJ
  simp only at hi hn ha hb hr hl hv hJ ⊢
  subst hn
  refine ⟨_, _, rfl, asS_i rfl (asI_i rfl (cond_split (fun h => ?_) (fun h => ?_)))⟩
  · have hi3 : n < 3 := by
      have := of_decide_eq_true h
      omega
    refine so_sub lit_32.1 ha (by omega) fun f hf => so_sub N_one hb (by split <;> decide) fun g hg => unit_k hf hg fun u v hu hv' => ⟨_, _, rfl, ?_⟩
    have hu1 : N u 1 := hu.at (by unfold sg; rw [if_neg (by omega), if_pos (by omega)])
    have hv1 : N v (1 - if n = 0 then 0 else 1) := hv'.at (by unfold sg; split <;> decide)
    refine so_add ha hu1 (by omega) fun x hx => so_add hb hv1 (by split <;> decide) fun y hy => ?_
    have hy1 : N y 1 := hy.at (by split <;> decide)
    refine s33.app1 hr hl hx2.size rfl (le_maxLen (by omega)) (by omega) ?_
    intro p' c' w3 hr3 hE hM
    have hx3 : Ext no w w3 := hx2.then hE fun k hk hkb => by
      obtain ⟨q, hq, rfl⟩ := hkb
      have := (hr.at hq).1
      omega
    refine asS_i rfl ?_
    have e : IntKind.wrap .i64 ((n : Int) + 1) = ((n + 1 : Nat) : Int) := by rw [wr64 (by omega) (by omega)]; omega
    rw [e]
    refine hJ (3 - (n + 1)) ((x, y), (p', n + 1, c'), n + 1) w3 (by omega) ⟨rfl, (show n + 1 ≤ 3 by omega), rfl, hx3, hx.at (show (n : Int) + 1 = ((n + 1 : Nat) : Int) by omega), hy1.at (show (1 : Int) = if n + 1 = 0 then 0 else 1 by rw [if_neg (by omega)]), _, hr3, by simp [hl], fun h2 => ?_⟩
    have h2' : 2 ≤ n + 1 := h2
    rcases (by omega : n = 1 ∨ n = 2) with rfl | rfl
    · exact ⟨x, y, by rw [List.getElem?_append_right (by omega), hl]; rfl, hx.at (by decide), hy1⟩
    · obtain ⟨x', y', h1, h2⟩ := hv (by decide)
      exact ⟨x', y', by rw [List.getElem?_append_left (by omega)]; exact h1, h2⟩
  · have hi3 : n = 3 := by
      have := of_decide_eq_false h
      omega
    subst hi3
    obtain ⟨x, y, h1, h2, h3⟩ := hv (by decide)
    refine lv_i (hK p c x y w2 hx2 ?_ h2 h3)
    rcases hr.reads with h | ⟨b', o, hp, hc⟩
    · rw [h] at h1; simp at h1
    · exact ⟨b', o, hp, hc 1 _ h1⟩

theorem cell15_k {w : World} {K : Value → World → Prop} (hK : K (.bool false) w) : cl Try.prog 11 #[.complex .f64 4609434218613702656 0] w K := by
  apply F11_calls
  unfold F11
  exact jn_mk (whole15_k (asB_i rfl (cond_f rfl (asB_i rfl hK))))

theorem seg9 : Lat.Seg 9 4 3 := ⟨by decide, by decide, by decide, .inr (by decide)⟩

theorem awake_k {w : World} {K : Value → World → Prop} (hK : ∀ w', Ext no w w' → K (.bool true) w') : cl Try.prog 4 #[] w K := by
  apply F4_calls
  unfold F4
  refine turn32_k fun f4 g5 h4 h5 => asT_i rfl rfl ⟨_, _, rfl, asI_i rfl (lv_i ?_)⟩
  refine heading72_k (asT_i rfl rfl (asI_i rfl (asI_i rfl (lv_i (lv_i ?_)))))
  refine walk31_k fun p c x y w1 hx1 hc hx hy => asT_i rfl rfl (asS_i rfl (asI_i rfl (lv_i ?_)))
  refine spiral_k (fun h => absurd h (by decide)) ?_
  intro _ j t u v hs hu hv _ _
  obtain ⟨rfl, rfl⟩ := hs.unique seg9
  have ex : Lat.px 4 3 = 2 := by decide
  have ey : Lat.py 4 3 = -1 := by decide
  rw [ex] at hu
  rw [ey] at hv
  refine asT_i rfl rfl ⟨_, _, rfl, asI_i rfl (lv_i ?_)⟩
  refine place_k N_mone N_mone (by decide) ?_
  have e1 : Lat.place (-1) (-1) = 6 := by decide
  rw [if_neg (by decide), e1]
  refine asT_i rfl rfl (asI_i rfl (asI_i rfl (lv_i (lv_i ?_))))
  have h501 : N 4647521301399863296 501 := N_lit (by decide) (by decide)
  refine place_k h501 N_zero (by decide) ?_
  rw [if_pos (by decide)]
  refine asT_i rfl rfl (asI_i rfl (asI_i rfl (lv_i (lv_i (jn_mk ?_)))))
  have n2 : N 13835058055282163712 (-2) := N_lit (by decide) (by decide)
  rw [ord_eq h4 n2, ord_eq h5 lit_32.1, ord_eq hu lit_32.2, ord_eq hv N_mone]
  obtain ⟨b, o, rfl, hcell⟩ := hc
  refine cond_t rfl (cond_t rfl (cond_t rfl (cond_t rfl (cond_t rfl (cond_t rfl (dr_i (bnd_mk (by decide) (by decide) ?_)))))))
  rw [add_mk]
  refine ld_mk hcell (asC_i rfl ?_)
  rw [ord_eq hx lit_32.2, ord_eq hy N_one]
  exact cond_t rfl (cond_t rfl (cond_t rfl (cond_t rfl (cond_t rfl (cond_t rfl (cell15_k (asB_i rfl (asB_i rfl (hK w1 hx1)))))))))

theorem latticeSpiral_law (W : World) (n : Int) (hn : (Lit.int .i64 n).wf = true) :
    cl Try.prog 3 #[.int .i64 n] W fun v w' => v = .bool true ∧ Ext no W w' := by
  have hI := i64_of hn
  apply F3_calls
  unfold F3
  refine awake_k fun w1 hx1 => asB_i rfl (spiral_k ?_ ?_)
  · intro hbad
    refine asT_i rfl rfl ⟨_, _, rfl, asI_i rfl (lv_i (jn_mk (cond_f rfl (asB_i rfl (cond_t rfl (jn_mk ?_))))))⟩
    rw [ord_eq N_zero N_zero]
    refine cond_t rfl (cond_t rfl (cond_split (fun h => asB_i rfl ⟨rfl, hx1⟩) (fun h => asB_i rfl ⟨?_, hx1⟩)))
    have := of_decide_eq_false h
    rw [decide_eq_true (show n > 1000000 by omega)]
  · intro hr j t x y hs hx hy bx bw
    obtain ⟨f0, f1, f2, f3⟩ := Lat.ring_seg hs
    have hpl := Lat.place_seg hs
    obtain ⟨hk5, hb1, hb2⟩ := Lat.small_seg hs (by omega)
    have hxy : isCell (Lat.px j t) (Lat.py j t) = true := isCell_iff.2 ⟨by omega, by omega⟩
    refine asT_i rfl rfl ⟨_, _, rfl, asI_i rfl (lv_i (jn_mk (cond_f rfl (asB_i rfl (cond_f rfl ?_)))))⟩
    refine Far_k N_zero N_zero hx hy (by decide) hxy ?_
    have ef : Lat.far (0 - Lat.px j t) (0 - Lat.py j t) = Lat.far (Lat.px j t) (Lat.py j t) := by unfold Lat.far Lat.mag; split <;> split <;> split <;> split <;> omega
    rw [ef]
    generalize hk : Lat.far (Lat.px j t) (Lat.py j t) = k at *
    refine asT_i rfl rfl (asI_i rfl (asI_i rfl (lv_i (lv_i (lv_i (lv_i ?_))))))
    have es : IntKind.wrap .i64 (IntKind.wrap .i64 (2 * k) + 1) = 2 * k + 1 := by rw [wr64 (n := 2 * k) (by omega) (by omega), wr64 (by omega) (by omega)]
    have ei : IntKind.wrap .i64 (IntKind.wrap .i64 (2 * k) - 1) = 2 * k - 1 := by rw [wr64 (n := 2 * k) (by omega) (by omega), wr64 (by omega) (by omega)]
    rw [es, ei]
    have hsq := Lat.sq3 k
    have hsq2 := Lat.sq2 k
    have hkk : 0 ≤ k * k ∧ k * k ≤ 251001 := by
      refine ⟨Int.mul_nonneg f0 f0, ?_⟩
      calc k * k ≤ 501 * k := Int.mul_le_mul_of_nonneg_right hk5 f0
        _ ≤ 501 * 501 := Int.mul_le_mul_of_nonneg_left hk5 (by decide)
        _ = 251001 := by decide
    rw [hsq, hsq2, wr64 (n := 4 * (k * k) + 4 * k + 1) (by omega) (by omega), wr64 (n := 4 * (k * k) - 4 * k + 1) (by omega) (by omega)]
    rw [hsq] at f2
    rw [hsq2] at f3
    refine jn_of (fun s w' => s = [.bool false] ∧ Ext no W w') ?_ ?_
    · rintro _ w3 ⟨rfl, hx3⟩
      refine asB_i rfl (cond_f rfl (jn_of (fun _ w' => Ext no W w') ?_ ?_))
      · intro _ w2 hx2
        have en : IntKind.wrap .i64 (n + 1) = n + 1 := wr64 (by omega) (by omega)
        rw [en]
        refine spiral_k (fun hbad => ?_) (fun hr' j' t' x' y' hs' hx' hy' _ _ => ?_)
        · refine asT_i rfl rfl (asC_i rfl (asI_i rfl (lv_i (cond_t rfl ⟨?_, hx2⟩))))
          have : n = 1000000 := by omega
          subst this
          rfl
        · obtain ⟨_, hb1', hb2'⟩ := Lat.small_seg hs' (by omega)
          have hxy' : isCell (Lat.px j' t') (Lat.py j' t') = true := isCell_iff.2 ⟨by omega, by omega⟩
          obtain ⟨g1, g2⟩ := Lat.next_seg hs hs'
          refine asT_i rfl rfl (asC_i rfl (asI_i rfl (lv_i (cond_f rfl (Far_k hx hy hx' hy' hxy hxy' ?_)))))
          rw [g1]
          refine asT_i rfl rfl (asI_i rfl (asI_i rfl (lv_i (lv_i (jn_mk ?_)))))
          rw [ord_eq hx hx', ord_eq hy hy']
          refine cond_split (fun h => asB_i rfl (jn_mk (cond_t rfl (asB_i rfl ⟨rfl, hx2⟩)))) (fun h => asB_i rfl (jn_mk (cond_t rfl (asB_i rfl ⟨?_, hx2⟩))))
          have h1 := of_decide_eq_false h
          rcases g2 with g2 | g2
          · exact absurd g2 h1
          · rw [decide_eq_true g2]
      · intro J hJ
        refine cond_split (fun h => ?_) (fun h => hJ _ _ hx3)
        refine place_k hx hy hxy ?_
        have := of_decide_eq_true h
        rw [hk, if_neg (by omega), hpl]
        exact asT_i rfl rfl (asI_i rfl (asI_i rfl (lv_i (lv_i (jn_mk (cond_f rfl (asB_i rfl (cond_f (by simp) (hJ _ _ hx3)))))))))
    · intro J hJ
      refine cond_f rfl (cond_f (by simp; omega) (cond_split (fun h => hJ _ _ ⟨?_, hx1⟩) (fun h => hJ _ _ ⟨rfl, hx1⟩)))
      have := of_decide_eq_true h
      rw [decide_eq_false (by omega)]
end Go.Proofs.Ytppjcjbdkihnaaa
