/- BitsLong: the law BitsLong comes out true for every input: as many bits and bytes as all that was put. Conditions: those of the law's arguments as they are read. -/
import Derived.Test.YtddljkkcpekcjaaBitsBack
namespace Go.Proofs.Ytddljkkcpekcjaa
open Go Go.Sx

theorem bitsLong_law (W : World) (a0 : Option Addr) (n0 c0 : Nat) (z0 : List Int) (R0 : Reads W a0 (iv .i64 z0)) (L0 : z0.length = n0) (_F0 : ∀ n ∈ z0, (Lit.int .i64 n).wf = true) (Y0 : n0 * 8 ≤ 140737488351232)
    (a1 : Option Addr) (n1 c1 : Nat) (z1 : List Int) (R1 : Reads W a1 (iv .i64 z1)) (L1 : z1.length = n1) (_F1 : ∀ n ∈ z1, (Lit.int .i64 n).wf = true) (_Y1 : n1 * 8 ≤ 140737488351232) :
    cl Try.prog 8 #[.slice a0 n0 c0, .slice a1 n1 c1] W fun v w' => v = .bool true ∧ Ext no W w' := by
  apply F8_calls
  unfold F8
  refine awake_k ?_
  intro w1 x1
  refine asB_i rfl (new_k ?_)
  intro r w2 x2 h2
  have X2 : Ext no W w2 := x1.trans x2
  have g1 : W.heap.size ≤ w1.heap.size := x1.size
  refine asP_i rfl (jn_mk (cond_f rfl (asB_i rfl (cond_f rfl (lv_i (lv_i ?_))))))
  refine lp_mk (fun s : List Bool × Nat => [.int .i64 (s.1.length : Int), .int .i64 (s.2 : Int)])
    (fun m s w' => m = n0 - s.2 ∧ s.2 ≤ n0 ∧ Ext (ge w1.heap.size) w2 w' ∧ ∃ p c bs, Wtr w' w1.heap.size r p c bs s.1)
    n0 ([], 0) rfl ⟨rfl, Nat.zero_le _, Ext.refl _ _, none, 0, [], h2⟩ ?_
  rintro _ ⟨l, i⟩ w3 ⟨rfl, hi, X3, p, c, bs, hW⟩ J hJ
  simp only at hi hW hJ ⊢
  have fin : ∀ {w'}, Ext (ge w1.heap.size) w2 w' → Ext no W w' := fun hx => Ext.to_no ((Ext.to_ge X2).trans hx) g1
  refine asI_i rfl (asI_i rfl ?_)
  refine jn_of (fun s w' => w3 = w' ∧ s = [.bool (decide (i < n0) && decide (i < n1))]) ?_ ?_
  · rintro _ _ ⟨rfl, rfl⟩
    refine asB_i rfl (cond_split (fun hc => ?_) (fun _ => ?_))
    · simp only [Bool.and_eq_true, decide_eq_true_eq] at hc
      have ei : IntKind.wrap .i64 ((i : Int) + 1) = ((i + 1 : Nat) : Int) := by rw [wr64 (by omega) (by omega)]; omega
      refine len_k hW (asI_i rfl (lv_i (dw_mk ?_)))
      have X3' : Ext (ge w1.heap.size) w2 w3.drew := X3.trans (Ext.to_ge (Ext.drew w3))
      refine (R0.old (Ext.to_ge (fin X3')) (Nat.le_refl _)).at (by omega) (by rw [Int.toNat_natCast]; exact iv_get (by omega)) ?_ (by rw [iv_length, L0]; exact Nat.le_refl _)
      refine asI_i rfl ?_
      refine (R1.old (Ext.to_ge (fin X3')) (Nat.le_refl _)).at (by omega) (by rw [Int.toNat_natCast]; exact iv_get (by omega)) ?_ (by rw [iv_length, L1]; exact Nat.le_refl _)
      refine asI_i rfl (put_k hW.drew ?_)
      intro p' c' bs' w4 hW' x4 m4
      generalize hv : z0.getD i 0 = v at *
      generalize hn : z1.getD i 0 = n at *
      have X4 : Ext (ge w1.heap.size) w2 w4 := X3'.trans (hW.drew.ext_ge x4)
      have most := hW.most
      have most' := hW'.most
      refine asI_i rfl (lv_i ?_)
      by_cases he : putE l v n = 0
      · obtain ⟨⟨f1, f2, f3, f4⟩, hput⟩ := putE_zero he
        simp only at f1 f2 f3 f4
        have hlen : (putL l v n).length = l.length + n.toNat := by rw [hput]; simp [cat, numBits_length]
        refine jn_mk (cond_t (by simp [he]) ?_)
        refine (R1.old (Ext.to_ge (fin X4)) (Nat.le_refl _)).at (by omega) (by rw [Int.toNat_natCast]; exact iv_get (by omega)) ?_ (by rw [iv_length, L1]; exact Nat.le_refl _)
        rw [hn]
        refine asI_i rfl (lv_i (asI_i rfl (jn_mk (cond_f (by simp [he]) (asB_i rfl (cond_f rfl (lv_i ?_)))))))
        have en : IntKind.wrap .i64 ((l.length : Int) + n) = ((putL l v n).length : Int) := by rw [wr64 (by omega) (by omega)]; omega
        rw [en, ei]
        exact hJ (n0 - (i + 1)) (putL l v n, i + 1) w4 (by omega) ⟨rfl, by simp only; omega, X4, p', c', bs', hW'⟩
      · have hput := putE_not he
        rw [hput] at hW'
        refine jn_mk (cond_f (by simp [he]) (asI_i rfl (jn_mk (cond_t (by simp [he]) (len_k hW' (asI_i rfl (asB_i rfl (cond_f (by simp) (lv_i ?_)))))))))
        rw [ei]
        exact hJ (n0 - (i + 1)) (l, i + 1) w4 (by omega) ⟨rfl, by simp only; omega, X4, p', c', bs', hW'⟩
    · have hbl := Packs.le hW.pk hW.most
      have hlen := hW.pk.len
      have most := hW.most
      refine bytes_k hW ?_
      intro p' c' w4 x4 row4 _
      refine asS_i rfl (read_k row4.reads rfl hW.pk.small (by omega) ?_)
      intro r5 p5 c5 w5 x5 h5
      have hW4 := hW.keep x4 (fun h => h) fun _ _ h => h
      have hW5 := hW4.keep x5 (fun h => h) fun _ _ h => h
      refine asP_i rfl (jn_mk (len_k hW5 (asI_i rfl (cond_t (by simp) (bytes_k hW5 ?_)))))
      intro p6 c6 w6 x6 row6 _
      have e1 : IntKind.wrap .i64 (Int.tdiv (IntKind.wrap .i64 ((l.length : Int) + 7)) 8) = (bs.length : Int) := by
        rw [wr64 (n := (l.length : Int) + 7) (by omega) (by omega), show (l.length : Int) + 7 = ((l.length + 7 : Nat) : Int) by omega, tdiv8, wr64 (by omega) (by omega)]
        omega
      rw [e1]
      refine asS_i rfl (cond_t (by simp) (cond_t rfl (rest_k (h5.keep x6 fun _ _ _ h => h) ?_)))
      intro w7 x7
      have e2 : IntKind.wrap .i64 (8 * (bs.length : Int)) = ((8 * bs.length - 0 : Nat) : Int) := by rw [wr64 (by omega) (by omega)]; omega
      rw [e2]
      refine asI_i rfl (asB_i rfl ⟨by simp, fin (X3.trans (Ext.to_ge (x4.trans (x5.trans (x6.trans x7)))))⟩)
  · intro J2 hJ2
    refine cond_split (fun h => hJ2 _ _ ⟨rfl, ?_⟩) (fun h => hJ2 _ _ ⟨rfl, ?_⟩)
    · have h1 : i < n0 := by simpa using h
      simp [h1]
    · have h1 : ¬ i < n0 := by simpa using h
      simp [h1]
end Go.Proofs.Ytddljkkcpekcjaa
