/- BoxT: boxes that are lent, and kept. Conditions: those of each theorem, on its arguments. -/
import Derived.Test.YtfeplleoedlicaaBoxS
namespace Go.Proofs.Ytfeplleoedlicaa
open Go Go.Sx
attribute [local irreducible] jn lv ld st nw asI asB asP asS asY asM asF asA asT lp rn ru rq cl dw dr bnd bn2 nz nn hd hr so eqW

theorem rn_makeS {P : Program} {t e : TypeId} {i : TypeInfo} {z : Value} (ht : P.underlying t = some (.slice e)) (hi : P.info? e = some i) (hz : i.zero = some z)
    {w : World} {kl kc : IntKind} {n c : Nat} (hnc : n ≤ c) (hbytes : i.bytes * c ≤ 281474976710656) (h63 : c ≤ maxLen) {K : Value → World → Prop}
    (hK : K (.slice (some ⟨w.heap.size, 0, none⟩) n c) (w.alloc (.cells (madeCells z.cells (c * i.size)) e))) :
    rn P (Instr.makeSlice t (.int kl (n : Int)) (.int kc (c : Int))) w K := by
  have h63' : (c : Int) ≤ 9223372036854775807 := by
    simp only [maxLen] at h63
    omega
  have hb' : (i.bytes : Int) * (c : Int) ≤ 281474976710656 := by
    have h : ((i.bytes * c : Nat) : Int) ≤ 281474976710656 := by omega
    rwa [Int.natCast_mul] at h
  have hr := run_make (P := P) w t e i z ht hi hz kl kc n c (by omega) (by omega) hb' h63'
  simp only [Int.toNat_natCast] at hr
  exact rn_mk hr hK

/-- a copy to the head of a block, elements of whatever size -/
theorem rn_copyS {P : Program} {t ty e : TypeId} {sz : Nat} (ht : P.underlying t = some (.slice e)) (hs : (P.info? e).map (·.size) = some sz)
    {w : World} {g : Nat} {cur : Array Value} {et : TypeId} (hg : w.heap[g]? = some (.cells cur et (0, 0))) {n c1 c' : Nat} {q : Option Addr} {news : List Value} (hsrc : Reads w q news) (hm : news.length = n * sz) (hfit : news.length ≤ cur.size)
    (h1 : ∀ u ∈ news, one u = true) {K : Value → World → Prop}
    (hK : K (.int .i64 (n : Int)) (w.setRow g (news ++ cur.toList.drop news.length).toArray)) (h0 : news = [] → K (.int .i64 (n : Int)) w) :
    rn P (Builtin.copy_ #[t, t] ty #[.slice (some ⟨g, 0, none⟩) n c1, .slice q n c']) w K := by
  have h1' : ∀ u ∈ news, u.oneCell' = true := fun u hu => one_of (h1 u hu)
  cases hq : P.info? e with
  | none => simp [hq] at hs
  | some i =>
    have hi : i.size = sz := by simpa [hq] using hs
    rcases hsrc with hx | ⟨b, o, rfl, hc⟩
    · subst hx
      have hnz : n * i.size = 0 := by rw [hi, ← hm]; rfl
      have hr : (Builtin.copy_ #[t, t] ty #[.slice (some ⟨g, 0, none⟩) n c1, .slice q n c']).run P w = .ok (.int .i64 (n : Int)) w := by
        cases q <;> simp [Builtin.copy_, run_underlying ht, Builtin.lenOf, Builtin.firstCells, sizeOf, typeInfo, hq, storeCells, loadCells, loadCellsFrom, hnz, goInt]
      exact rn_mk hr (h0 rfl)
    · have hl := run_loadCells_list (P := P) w ⟨b, o, none⟩ news (fun j v hv => by rw [add_mk]; exact hc j v hv)
      have hst := run_storeCells_at P g 0 et news 0 cur w hg (by simpa using hfit) h1'
      have hnl : n * i.size = news.length := by rw [hi, hm]
      have hr : (Builtin.copy_ #[t, t] ty #[.slice (some ⟨g, 0, none⟩) n c1, .slice (some ⟨b, o, none⟩) n c']).run P w = .ok (.int .i64 (n : Int)) (w.setRow g (news ++ cur.toList.drop news.length).toArray) := by
        simp [Builtin.copy_, run_underlying ht, Builtin.lenOf, Builtin.firstCells, sizeOf, typeInfo, hq, hnl, hl, hst, goInt]
      exact rn_mk hr hK

def zz : List Value := [.int .i64 0, .int .i64 0, .int .i64 0]

theorem dr_bnd_le {p : Option Addr} {i : Int} {n m : Nat} {K : Addr → Prop} (hi : i < m) (h : dr p fun a => bnd i n (K a)) : dr p fun a => bnd i m (K a) := by
  cases p with
  | none => unfold dr at h; exact h.elim
  | some a =>
    unfold dr at h ⊢
    unfold bnd at h ⊢
    exact ⟨⟨h.1.1, hi⟩, h.2⟩

theorem lent_k {w : World} {q : Option Addr} {n cq : Nat} {bs : List Bx} (hr : Reads w q (fl bs)) (hn : bs.length = n) (hl : n ≤ 5864062014634) {K : Value → World → Prop}
    (hK : ∀ g w', St w w' [(g, fl (bs ++ [⟨0, 0, -77⟩]), 25)] → K (.slice (some ⟨g, 0, none⟩) n (n + 1)) w') :
    cl Try.prog 23 #[.slice q n cq] w K := by
  subst hn
  apply F23_calls
  unfold F23
  have e1 : IntKind.wrap .i64 ((bs.length : Int) + 1) = ((bs.length + 1 : Nat) : Int) := by rw [wr64 (by omega) (by omega)]; omega
  rw [e1]
  refine rn_makeS (e := 25) rfl rfl rfl (by omega) ?_ (le_maxLen (by omega)) ?_
  · show 24 * _ ≤ _
    omega
  have ez : (madeCells (Value.cells (.agg #[.int .i64 0, .int .i64 0, .int .i64 0])) ((bs.length + 1) * 3)).toList = List.replicate ((bs.length + 1) * 3) (.int .i64 0) := by
    apply List.ext_getElem?
    intro j
    by_cases hj : j < (bs.length + 1) * 3
    · have h3 : j % 3 = 0 ∨ j % 3 = 1 ∨ j % 3 = 2 := by omega
      rcases h3 with h | h | h <;> simp [madeCells, hj, Value.cells, h]
    · simp [madeCells, hj]
  show asS _ _
  refine asS_i rfl ?_
  have hb := new_blk w (.cells (madeCells (Value.cells (.agg #[.int .i64 0, .int .i64 0, .int .i64 0])) ((bs.length + 1) * 3)) 25)
  have hsz : (madeCells (Value.cells (.agg #[.int .i64 0, .int .i64 0, .int .i64 0])) ((bs.length + 1) * 3)).size = (bs.length + 1) * 3 := size_madeCells _ _
  have hx1 : Ext no w (w.alloc (.cells (madeCells (Value.cells (.agg #[.int .i64 0, .int .i64 0, .int .i64 0])) ((bs.length + 1) * 3)) 25)) := Ext.alloc _ _
  have hS1 : St w (w.alloc (.cells (madeCells (Value.cells (.agg #[.int .i64 0, .int .i64 0, .int .i64 0])) ((bs.length + 1) * 3)) 25)) [(w.heap.size, (madeCells (Value.cells (.agg #[.int .i64 0, .int .i64 0, .int .i64 0])) ((bs.length + 1) * 3)).toList, 25)] :=
    ⟨hx1, fun b hbm => by
      simp only [List.mem_cons, List.not_mem_nil, or_false] at hbm
      subst hbm
      exact ⟨by rw [hb], Nat.le_refl _⟩, List.pairwise_singleton _ _⟩
  -- behind the copy: the boxes, and three zeros
  have tail : ∀ w', St w w' [(w.heap.size, fl bs ++ zz, 25)] →
      bn2 ((bs.length + 1 : Nat) : Int) (bs.length + 1) (dr (some ⟨w.heap.size, 0, none⟩) fun a9 => (bnd (bs.length : Int) (Int.toNat ((bs.length + 1 : Nat) : Int)) (st w' (Addr.add a9 (Int.toNat (bs.length : Int) * 3)) (.int .i64 (0 : Int)) fun w10 => (st w10 (Addr.add (Addr.add a9 (Int.toNat (bs.length : Int) * 3)) 1) (.int .i64 (0 : Int)) fun w11 => (st w11 (Addr.add (Addr.add a9 (Int.toNat (bs.length : Int) * 3)) 2) (.int .i64 (-77 : Int)) fun w12 => K (.slice (some ⟨w.heap.size, 0, none⟩) bs.length (bs.length + 1)) w12))))) := by
    intro w' hS
    have hfl := fl_length bs
    refine bn2_mk (by omega) (by omega) (dr_i (bnd_mk (by omega) (by rw [Int.toNat_natCast]; omega) ?_))
    rw [Int.toNat_natCast (n := bs.length)]
    have g0 : (fl bs ++ zz)[bs.length * 3]? = some (.int .i64 0) := by rw [List.getElem?_append_right (by omega), hfl, Nat.sub_self]; rfl
    refine hS.st 0 rfl g0 rfl ?_
    clear hS
    intro w1 hS
    have s0 : (fl bs ++ zz).set (bs.length * 3) (.int .i64 0) = fl bs ++ zz := by
      rw [List.set_append_right _ _ (by omega), hfl, Nat.sub_self]; rfl
    have hS : St w w1 [(w.heap.size, fl bs ++ zz, 25)] := by rw [← s0]; exact hS
    have g1 : (fl bs ++ zz)[bs.length * 3 + 1]? = some (.int .i64 0) := by
      rw [List.getElem?_append_right (by omega), hfl, show bs.length * 3 + 1 - bs.length * 3 = 1 by omega]; rfl
    rw [add_mk, add_mk, Nat.zero_add]
    refine hS.stj 0 rfl g1 rfl ?_
    clear hS
    intro w2 hS _
    have s1 : (fl bs ++ zz).set (bs.length * 3 + 1) (.int .i64 0) = fl bs ++ zz := by
      rw [List.set_append_right _ _ (by omega), hfl, show bs.length * 3 + 1 - bs.length * 3 = 1 by omega]; rfl
    have hS : St w w2 [(w.heap.size, fl bs ++ zz, 25)] := by rw [← s1]; exact hS
    have g2 : (fl bs ++ zz)[bs.length * 3 + 2]? = some (.int .i64 0) := by
      rw [List.getElem?_append_right (by omega), hfl, show bs.length * 3 + 2 - bs.length * 3 = 2 by omega]; rfl
    rw [add_mk]
    refine hS.stj 0 rfl g2 rfl ?_
    clear hS
    intro w3 hS _
    have s2 : (fl bs ++ zz).set (bs.length * 3 + 2) (.int .i64 (-77)) = fl (bs ++ [⟨0, 0, -77⟩]) := by
      rw [List.set_append_right _ _ (by omega), hfl, show bs.length * 3 + 2 - bs.length * 3 = 2 by omega]
      simp [fl, Bx.cells, zz]
    refine hK w.heap.size w3 ?_
    rw [← s2]
    exact hS
  have hfl := fl_length bs
  refine rn_copyS (sz := 3) rfl rfl hb (hr.ext hx1 fun _ _ h => h) hfl (by rw [hsz, hfl]; omega) ?_ ?_ ?_
  · intro u hu
    simp only [fl, List.mem_flatMap, Bx.cells] at hu
    obtain ⟨b, _, hu⟩ := hu
    simp only [List.mem_cons, List.not_mem_nil, or_false] at hu
    rcases hu with h | h | h <;> rw [h] <;> rfl
  · refine asI_i rfl (tail _ ⟨⟨hx1.os, hx1.tape, hx1.output, by simp [World.setRow], fun k hk _ => ?_⟩, fun b hbm => ?_, List.pairwise_singleton _ _⟩)
    · rw [setRow_other _ _ _ _ (by omega)]
      exact hx1.block k hk (fun h => h)
    · simp only [List.mem_cons, List.not_mem_nil, or_false] at hbm
      subst hbm
      refine ⟨?_, Nat.le_refl _⟩
      simp only
      rw [setRow_heap _ _ _ _ _ _ hb, ez, List.drop_replicate, hfl, show (bs.length + 1) * 3 - bs.length * 3 = 3 by omega]
      rfl
  · intro h0
    have hz : bs.length = 0 := by
      have := congrArg List.length h0
      rw [hfl, List.length_nil] at this
      omega
    refine asI_i rfl (tail _ ?_)
    rw [ez] at hS1
    have : fl bs ++ zz = List.replicate ((bs.length + 1) * 3) (Value.int .i64 0) := by rw [h0, hz]; rfl
    rw [this]
    exact hS1

theorem kept_k {w : World} {p q : Option Addr} {n cq : Nat} {bs : List Bx} (hp : Reads w p (fl (bs ++ [⟨0, 0, -77⟩]))) (hq : Reads w q (fl bs)) (hI : ∀ b ∈ bs, I64 b.x ∧ I64 b.y ∧ I64 b.r) (hn : bs.length = n) (hl : n ≤ 5864062014634) {K : Value → World → Prop}
    (hK : ∀ w', Ext no w w' → K (.bool true) w') : cl Try.prog 25 #[.slice p n (n + 1), .slice q n cq] w K := by
  subst hn
  apply F25_calls
  unfold F25
  have e1 : IntKind.wrap .i64 ((bs.length : Int) + 1) = ((bs.length + 1 : Nat) : Int) := by rw [wr64 (by omega) (by omega)]; omega
  rw [e1]
  refine cond_f (by simp) (lv_i ?_)
  refine lp_mk (fun i : Nat => [.int .i64 (i : Int)]) (fun m i w' => m = bs.length - i ∧ i ≤ bs.length ∧ Ext no w w') bs.length 0 rfl ⟨rfl, Nat.zero_le _, Ext.refl _ _⟩ ?_
  rintro _ i w1 ⟨rfl, hi, x1⟩ J hJ
  refine asI_i rfl (cond_split (fun hc => ?_) (fun hc => ?_))
  · have hil : i < bs.length := by simpa using hc
    have hb : bs[i]? = some bs[i] := List.getElem?_eq_getElem hil
    generalize bs[i] = b at hb
    have hb' : (bs ++ [(⟨0, 0, -77⟩ : Bx)])[i]? = some b := by rw [List.getElem?_append_left hil]; exact hb
    have xd := x1.trans (Ext.drew w1)
    refine dw_mk ?_
    have hpd := Reads.no xd hp
    refine dr_bnd_le (n := (bs ++ [(⟨0, 0, -77⟩ : Bx)]).length) (by simpa using hil) (bx_at hpd rfl hb' ?_)
    intro ad c0 c1 c2
    refine ld_mk c0 (asI_i rfl (ld_mk c1 (asI_i rfl (ld_mk c2 (asI_i rfl ?_)))))
    refine bx_at (Reads.no xd hq) rfl hb ?_
    intro ad c0 c1 c2
    refine ld_mk c0 (asI_i rfl (ld_mk c1 (asI_i rfl (ld_mk c2 (asI_i rfl ?_)))))
    refine eqBox (hI b (List.mem_of_getElem? hb)) (cond_f rfl (lv_i ?_))
    have ei : IntKind.wrap .i64 ((i : Int) + 1) = ((i + 1 : Nat) : Int) := by rw [wr64 (by omega) (by omega)]; omega
    rw [ei]
    exact hJ (bs.length - (i + 1)) (i + 1) _ (by omega) ⟨rfl, by omega, xd⟩
  · refine bn2_mk (by omega) (by omega) ?_
    have hb : (bs ++ [⟨0, 0, -77⟩])[bs.length]? = some (⟨0, 0, -77⟩ : Bx) := by simp
    rw [Int.toNat_natCast (n := bs.length + 1)]
    refine bx_at (Reads.no x1 hp) (by simp) hb ?_
    intro ad c0 c1 c2
    refine ld_mk c0 (asI_i rfl (ld_mk c1 (asI_i rfl (ld_mk c2 (asI_i rfl ?_)))))
    exact eqBox (b := ⟨0, 0, -77⟩) (by unfold I64; decide) (hK _ x1)
end Go.Proofs.Ytfeplleoedlicaa
