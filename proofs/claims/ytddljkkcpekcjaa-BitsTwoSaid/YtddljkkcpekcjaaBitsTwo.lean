/- BitsTwo: the law BitsTwo comes out true for every input: two readers of the same bytes don't see each other. Conditions: those of the law's arguments as they are read. -/
import Derived.Test.YtddljkkcpekcjaaBitsG
import Derived.Test.YtddljkkcpekcjaaOp
namespace Go.Proofs.Ytddljkkcpekcjaa
open Go Go.Sx

theorem bitsTwo_law (W : World) (a0 : Option Addr) (n0 c0 : Nat) (z0 : List Int) (R0 : Reads W a0 (iv .u8 z0)) (L0 : z0.length = n0) (F0 : ∀ n ∈ z0, (Lit.int .u8 n).wf = true) (Y0 : n0 * 1 ≤ 140737488351232)
    (a1 : Option Addr) (n1 c1 : Nat) (z1 : List Int) (R1 : Reads W a1 (iv .i64 z1)) (L1 : z1.length = n1) (_F1 : ∀ n ∈ z1, (Lit.int .i64 n).wf = true) (Y1 : n1 * 8 ≤ 140737488351232)
    (a2 : Option Addr) (n2 c2 : Nat) (z2 : List Bool) (R2 : Reads W a2 (tv z2)) (L2 : z2.length = n2) (_Y2 : n2 * 1 ≤ 140737488351232) :
    cl Try.prog 6 #[.slice a0 n0 c0, .slice a1 n1 c1, .slice a2 n2 c2] W fun v w' => v = .bool true ∧ Ext no W w' := by
  obtain ⟨bs, e0, l0, small⟩ := bytes_of F0
  rw [e0] at R0
  have hn0 : bs.length = n0 := l0.trans L0
  have hl : bs.length ≤ 140737488355328 := by omega
  apply F6_calls
  unfold F6
  refine awake_k ?_
  intro w1 x1
  refine asB_i rfl (read_k (R0.old (Ext.to_ge x1) (Nat.le_refl _)) hn0 small hl ?_)
  intro r2 p2 q2 w2 x2 h2
  have X2 : Ext no W w2 := x1.trans x2
  refine asP_i rfl (read_k (R0.old (Ext.to_ge X2) (Nat.le_refl _)) hn0 small hl ?_)
  intro r3 p3 q3 w3 x3 h3
  have X3 : Ext no W w3 := X2.trans x3
  refine asP_i rfl (read_k (R0.old (Ext.to_ge X3) (Nat.le_refl _)) hn0 small hl ?_)
  intro r4 p4 q4 w4 x4 h4
  have X4 : Ext no W w4 := X3.trans x4
  have g1 : W.heap.size ≤ w1.heap.size := x1.size
  refine asP_i rfl (jn_mk (cond_f rfl (cond_f rfl (cond_f rfl (asB_i rfl (cond_f rfl (lv_i ?_)))))))
  have h2' := h2.keep (x3.trans x4) fun _ _ _ h => h
  have h3' := h3.keep x4 fun _ _ _ h => h
  refine lp_mk (fun i : Nat => [.int .i64 (i : Int)])
    (fun m i w' => m = n1 - i ∧ i ≤ n1 ∧ Ext (ge w1.heap.size) w4 w' ∧ ∃ at2 at3, Rdr w' w1.heap.size w2.heap.size r2 p2 q2 bs at2 ∧ Rdr w' w2.heap.size w3.heap.size r3 p3 q3 bs at3 ∧ Rdr w' w3.heap.size w4.heap.size r4 p4 q4 bs at2)
    n1 0 rfl ⟨rfl, Nat.zero_le _, Ext.refl _ _, 0, 0, h2', h3', h4⟩ ?_
  rintro _ i w5 ⟨rfl, hi, X5, at2, at3, k2, k3, k4⟩ J hJ
  have s12 := x2.size
  have s23 := x3.size
  have s34 := x4.size
  have fin : ∀ {w'}, Ext (ge w1.heap.size) w4 w' → Ext no W w' := fun hx => Ext.to_no ((Ext.to_ge X4).trans hx) g1
  refine asI_i rfl (cond_split (fun hc => ?_) (fun hc => ⟨rfl, fin X5⟩))
  have hi1 : i < n1 := by simpa using hc
  refine jn_of (fun s w6 => ∃ at3', Ext (ge w1.heap.size) w4 w6 ∧ Rdr w6 w1.heap.size w2.heap.size r2 p2 q2 bs at2 ∧ Rdr w6 w2.heap.size w3.heap.size r3 p3 q3 bs at3' ∧ Rdr w6 w3.heap.size w4.heap.size r4 p4 q4 bs at2) ?_ ?_
  · rintro s w6 ⟨at3', X6, k2, k3, k4⟩
    refine (R1.old (Ext.to_ge (fin X6)) (Nat.le_refl _)).at (by omega) (by rw [Int.toNat_natCast]; exact iv_get (by omega)) ?_ (by rw [iv_length, L1]; exact Nat.le_refl _)
    refine asI_i rfl (take_k k2 ?_)
    intro w7 k2' x7
    have X7 := X6.trans (k2.ext_ge x7)
    have k2 := k2'
    have k3 := k3.keep x7 fun k h1 h2 hk => by have := k2.hhi; have : k = r2 := hk; omega
    have k4 := k4.keep x7 fun k h1 h2 hk => by have := k2.hhi; have : k = r2 := hk; omega
    refine asT_i rfl rfl (asI_i rfl (asI_i rfl (lv_i (lv_i ?_))))
    refine (R1.old (Ext.to_ge (fin X7)) (Nat.le_refl _)).at (by omega) (by rw [Int.toNat_natCast]; exact iv_get (by omega)) ?_ (by rw [iv_length, L1]; exact Nat.le_refl _)
    refine asI_i rfl (take_k k4 ?_)
    intro w8 k4' x8
    have X8 := X7.trans ((k4.ext_ge x8).mono fun k _ (hk : w3.heap.size ≤ k) => show w1.heap.size ≤ k by omega)
    have k3 := k3.keep x8 fun k h1 h2 hk => by have := k4.hlo; have : k = r4 := hk; omega
    have k4 := k4'
    have k2 := k2.keep x8 fun k h1 h2 hk => by have := k4.hlo; have : k = r4 := hk; omega
    refine asT_i rfl rfl (asI_i rfl (asI_i rfl (lv_i (lv_i (jn_mk (cond_f (by simp) (cond_f (by simp) (rest_k k2 ?_))))))))
    intro w9 x9
    refine asI_i rfl (rest_k (k4.keep x9 fun _ _ _ h => h) ?_)
    intro w10 x10
    refine asI_i rfl (asB_i rfl (cond_f (by simp) (lv_i ?_)))
    have x810 := x9.trans x10
    have ei : IntKind.wrap .i64 ((i : Int) + 1) = ((i + 1 : Nat) : Int) := by rw [wr64 (by omega) (by omega)]; omega
    rw [ei]
    exact hJ (n1 - (i + 1)) (i + 1) _ (by omega) ⟨rfl, by omega, X8.trans (Ext.to_ge x810), _, _, k2.keep x810 fun _ _ _ h => h, k3.keep x810 fun _ _ _ h => h, k4.keep x810 fun _ _ _ h => h⟩
  intro J2 rest
  refine jn_mk (cond_split (fun h2 => ?_) (fun h2 => asB_i rfl (cond_f rfl (rest _ w5 ⟨at3, X5, k2, k3, k4⟩))))
  have hi2 : i < n2 := by simpa using h2
  refine (R2.old (Ext.to_ge (fin X5)) (Nat.le_refl _)).at (by omega) (by rw [Int.toNat_natCast]; exact tv_get (by omega)) ?_ (by rw [tv_length, L2]; exact Nat.le_refl _)
  refine asB_i rfl (asB_i rfl (cond_split (fun hb => ?_) (fun hb => rest _ w5 ⟨at3, X5, k2, k3, k4⟩)))
  refine (R1.old (Ext.to_ge (fin X5)) (Nat.le_refl _)).at (by omega) (by rw [Int.toNat_natCast]; exact iv_get (by omega)) ?_ (by rw [iv_length, L1]; exact Nat.le_refl _)
  refine asI_i rfl (take_k k3 ?_)
  intro w6 k3' x6
  refine asT_i rfl rfl (asI_i rfl (asI_i rfl ?_))
  exact rest _ w6 ⟨_, X5.trans ((k3.ext_ge x6).mono fun k _ (hk : w2.heap.size ≤ k) => show w1.heap.size ≤ k by omega), k2.keep x6 fun k h1 h2 hk => by have := k3.hlo; have : k = r3 := hk; omega, k3', k4.keep x6 fun k h1 h2 hk => by have := k3.hhi; have : k = r3 := hk; omega⟩
end Go.Proofs.Ytddljkkcpekcjaa
