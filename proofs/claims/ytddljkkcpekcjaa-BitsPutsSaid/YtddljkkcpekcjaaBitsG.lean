/- BitsG: the document's examples come out (awake). No condition. -/
import Derived.Test.YtddljkkcpekcjaaBitsE
namespace Go.Proofs.Ytddljkkcpekcjaa
open Go Go.Sx

theorem Wtr.wm_ge {w : World} {base r : Nat} {p : Option Addr} {c : Nat} {bs : List Nat} {l : List Bool} (h : Wtr w base r p c bs l) {k : Nat} (hk : wm r p k) : base ≤ k := by
  rcases hk with rfl | ⟨a, ha, rfl⟩
  · exact h.hlo
  · exact (h.row.at ha).1
theorem Wtr.ext_ge {w w' : World} {base r : Nat} {p : Option Addr} {c : Nat} {bs : List Nat} {l : List Bool} (h : Wtr w base r p c bs l) (hx : Ext (wm r p) w w') : Ext (ge base) w w' :=
  hx.mono fun _ _ hk => h.wm_ge hk
theorem Rdr.ext_ge {w w' : World} {lo hi r : Nat} {p : Option Addr} {c : Nat} {bs : List Nat} {at' : Nat} (h : Rdr w lo hi r p c bs at') (hx : Ext (onl r) w w') : Ext (ge lo) w w' :=
  hx.mono fun _ _ hk => by
    have : _ = r := hk
    subst this
    exact h.hlo

theorem Packs.two : Packs [175, 240] (numBits 5 3 ++ numBits 0 1 ++ numBits 255 8) := by
  refine ⟨by decide, by decide, ?_⟩
  have : ∀ i : Fin 16, bitOf [175, 240] i.val = (numBits 5 3 ++ numBits 0 1 ++ numBits 255 8).getD i.val false := by decide
  intro i hi
  exact this ⟨i, by simpa using hi⟩

theorem bool_i {v : Value} {x : Bool} {K : Bool → Prop} (e : v = .bool x) (h : K x) : asB v K := ⟨x, e, h⟩

theorem strB_two : strB [175, 240] = ⟨#[175, 240]⟩ := by decide

theorem awake_k {w : World} {K : Value → World → Prop} (hK : ∀ w', Ext no w w' → K (.bool true) w') : cl Try.prog 9 #[] w K := by
  apply F9_calls
  unfold F9
  refine new_k ?_
  intro r w1 hx1 h1
  refine asP_i rfl (cond_f rfl ?_)
  refine put_k h1 ?_
  have e1 : putL [] 5 3 = numBits 5 3 := by decide
  have e1' : putE [] 5 3 = 0 := by decide
  rw [e1, e1']
  intro p2 c2 bs2 w2 h2 hx2 _
  refine asI_i rfl (lv_i (put_k h2 ?_))
  have e2 : putL (numBits 5 3) 0 1 = numBits 5 3 ++ numBits 0 1 := by decide
  have e2' : putE (numBits 5 3) 0 1 = 0 := by decide
  rw [e2, e2']
  intro p3 c3 bs3 w3 h3 hx3 _
  refine asI_i rfl (lv_i (put_k h3 ?_))
  have e3 : putL (numBits 5 3 ++ numBits 0 1) 255 8 = numBits 5 3 ++ numBits 0 1 ++ numBits 255 8 := by decide
  have e3' : putE (numBits 5 3 ++ numBits 0 1) 255 8 = 0 := by decide
  rw [e3, e3']
  intro p4 c4 bs4 w4 h4 hx4 _
  refine asI_i rfl (lv_i (put_k h4 ?_))
  have e4' : putE (numBits 5 3 ++ numBits 0 1 ++ numBits 255 8) 8 3 = 1 := by decide
  have e4 : putL (numBits 5 3 ++ numBits 0 1 ++ numBits 255 8) 8 3 = numBits 5 3 ++ numBits 0 1 ++ numBits 255 8 := by decide
  rw [e4, e4']
  intro p5 c5 bs5 w5 h5 hx5 _
  refine asI_i rfl (lv_i (bytes_k h5 ?_))
  have hbs := h5.pk.unique Packs.two
  subst hbs
  intro p6 c6 w6 hx6 hrow6 hp6
  have hW : Ext (ge w.heap.size) w w6 := (Ext.to_ge hx1).trans ((h1.ext_ge hx2).trans ((h2.ext_ge hx3).trans ((h3.ext_ge hx4).trans ((h4.ext_ge hx5).trans (Ext.to_ge hx6)))))
  refine asS_i rfl (read_k hrow6.reads rfl (by decide) (by decide) ?_)
  intro r7 p7 c7 w7 hx7 h7
  have hge : w.heap.size ≤ w6.heap.size := hW.size
  refine asP_i rfl (cond_f rfl (take_k h7 ?_))
  intro w8 h8 hx8
  have t1 : takeA [175, 240] 0 3 = 3 := by decide
  have t1v : takeV [175, 240] 0 3 = 5 := by decide
  have t1e : takeE [175, 240] 0 3 = 0 := by decide
  rw [t1] at h8
  rw [t1v, t1e]
  refine asT_i rfl rfl (asI_i rfl (asI_i rfl (lv_i (lv_i (take_k h8 ?_)))))
  intro w9 h9 hx9
  have t2 : takeA [175, 240] 3 1 = 4 := by decide
  have t2v : takeV [175, 240] 3 1 = 0 := by decide
  have t2e : takeE [175, 240] 3 1 = 0 := by decide
  rw [t2] at h9
  rw [t2v, t2e]
  refine asT_i rfl rfl (asI_i rfl (asI_i rfl (lv_i (lv_i (take_k h9 ?_)))))
  intro w10 h10 hx10
  have t3 : takeA [175, 240] 4 8 = 12 := by decide
  have t3v : takeV [175, 240] 4 8 = 255 := by decide
  have t3e : takeE [175, 240] 4 8 = 0 := by decide
  rw [t3] at h10
  rw [t3v, t3e]
  have hx710 : Ext (ge w6.heap.size) w6 w10 := (Ext.to_ge hx7).trans ((h7.ext_ge hx8).trans ((h8.ext_ge hx9).trans (h9.ext_ge hx10)))
  have hrow10 := hrow6.ext (Ext.to_no hx710 (Nat.le_refl _)) fun _ _ h => h
  refine asT_i rfl rfl (asI_i rfl (asI_i rfl (lv_i (lv_i (jn_mk ?_)))))
  refine cond_t rfl (cond_t rfl (cond_t rfl (cond_t rfl (rq_mk (run_str (bs := [175, 240]) s22.und rfl rfl hrow10.reads rfl hp6) (asY_i rfl ?_)))))
  rw [strB_two]
  refine cond_t (by simp) (cond_t rfl (cond_t rfl (cond_t rfl (cond_t rfl (cond_t rfl (cond_t rfl (done_k h10 ?_)))))))
  intro w11 hx11
  refine asB_i rfl (asB_i rfl ?_)
  have d1 : doneB [175, 240] 12 = true := by decide
  rw [d1]
  exact hK w11 (Ext.to_no (hW.trans ((hx710.mono fun k _ hk => Nat.le_trans hge hk).trans (Ext.to_ge hx11))) (Nat.le_refl _))
end Go.Proofs.Ytddljkkcpekcjaa
