/- GrL3: the law GridMeets comes out true for every input. Conditions: those of the law's arguments as they are read. -/
import Derived.Test.YtamobmjfdiecbaaGrL2
import Derived.Test.YtamobmjfdiecbaaGrM
namespace Go.Proofs.Ytamobmjfdiecbaa
open Go Go.Sx Go.Fp
attribute [local irreducible] jn lv ld st nw asI asB asP asS asY asM asF asA asT lp rn ru rq cl dw dr bnd bn2 nz nn hd hr so eqW
attribute [local irreducible] callOk

theorem _root_.Go.Sx.St.drop {w0 w : World} {L : List (Nat × List Value × TypeId)} : ∀ {LL : List (Nat × List Value × TypeId)}, St w0 w (LL ++ L) → St w0 w L
  | [], h => h
  | _ :: LL, h => by
    have key : ∀ {LL : List (Nat × List Value × TypeId)}, St w0 w (LL ++ L) → St w0 w L := by
      intro LL
      induction LL with
      | nil => exact fun h => h
      | cons x LL ih => exact fun h => ih h.tail
    exact key (LL := LL) h.tail

theorem nodup_one {l : List Int} (hn : l.Nodup) {z : Int} (h : ∀ x ∈ l, x = z) : l.length ≤ 1 := by
  match l, hn, h with
  | [], _, _ => simp
  | [_], _, _ => simp
  | a :: b :: l, hn, h =>
    have h1 := h a (by simp)
    have h2 := h b (by simp)
    simp only [List.nodup_cons, List.mem_cons] at hn
    exact absurd (.inl (h1.trans h2.symm)) hn.1

/-- one box in a grid, and who is near -/
theorem one_near {s : Int} {a b : Bx} : (∀ x ∈ metL (gputB s [] 4 a) (gputD s [] [] 4 a) b (cellsL' s b), x.1 = 4) ∧ (metL (gputB s [] 4 a) (gputD s [] [] 4 a) b (cellsL' s b)).length ≤ 1 ∧
    (gputE s [] 4 a = 0 → cellsE s b = 0 → ((metL (gputB s [] 4 a) (gputD s [] [] 4 a) b (cellsL' s b)).length = 1 ↔ (meetV a b).1 = true)) := by
  have hC := (Cons.nil s).put 4 a
  have hB : ∀ x b', aget (gputB s [] 4 a) x = some b' → x = 4 ∧ b' = a := fun x b' h => by
    unfold gputB at h
    split at h
    · rw [aget_aset] at h
      split at h
      · rename_i he
        cases h
        exact ⟨he, rfl⟩
      · simp [aget, afind] at h
    · simp [aget, afind] at h
  have hnd := nodup_metL (B := gputB s [] 4 a) (D := gputD s [] [] 4 a) (b := b) (cellsL' s b)
  have hk : ∀ x ∈ (metL (gputB s [] 4 a) (gputD s [] [] 4 a) b (cellsL' s b)).map (·.1), x = 4 := fun x hx => by
    obtain ⟨⟨c, _, h2⟩, _⟩ := mem_metL.1 hx
    obtain ⟨b', h3, _⟩ := (hC.cell c x).1 h2
    exact (hB x b' h3).1
  have hl := nodup_one hnd hk
  rw [List.length_map] at hl
  refine ⟨fun x hx => hk x.1 (List.mem_map.2 ⟨x, hx, rfl⟩), hl, fun hp hb => ?_⟩
  have hnr := hC.near hb 4
  constructor
  · intro h1
    have : ∃ x, x ∈ (metL (gputB s [] 4 a) (gputD s [] [] 4 a) b (cellsL' s b)).map (·.1) := by
      cases hm : metL (gputB s [] 4 a) (gputD s [] [] 4 a) b (cellsL' s b) with
      | nil => rw [hm] at h1; cases h1
      | cons y l => exact ⟨y.1, by simp⟩
    obtain ⟨x, hx⟩ := this
    have := hk x hx
    subst this
    obtain ⟨a', h3, h4⟩ := hnr.1 hx
    rwa [(hB _ _ h3).2] at h4
  · intro hm
    have h4 : (4 : Int) ∈ (metL (gputB s [] 4 a) (gputD s [] [] 4 a) b (cellsL' s b)).map (·.1) := hnr.2 ⟨a, by unfold gputB; rw [if_pos hp, aget_aset, if_pos rfl], hm⟩
    have : 0 < (metL (gputB s [] 4 a) (gputD s [] [] 4 a) b (cellsL' s b)).length := by
      have := List.length_pos_of_mem h4
      simpa using this
    omega

set_option maxHeartbeats 2000000 in
theorem gridMeets_law (W : World) (z1 : List Value) (F1 : FitsAll [.int .i64, .int .i64, .int .i64] z1) (z2 : List Value) (F2 : FitsAll [.int .i64, .int .i64, .int .i64] z2) (s : Int) (_hs : (Lit.int .i64 s).wf = true) (o : Int) (_ho : (Lit.int .i64 o).wf = true) :
    cl Try.prog 7 #[.agg z1.toArray, .agg z2.toArray, .int .i64 s, .int .i64 o] W fun v w' => v = .bool true ∧ Ext no W w' := by
  obtain ⟨a, rfl, _⟩ := bx_of' F1
  obtain ⟨b, rfl, _⟩ := bx_of' F2
  apply F7_calls
  unfold F7
  have hS := St.start W
  (refine St.nw hS ?_; clear hS; intro r1 _ hS)
  (refine St.nw hS ?_; clear hS; intro r3 _ hS)
  refine gawake_k fun w2 hx2 => asB_i rfl ?_
  replace hS := hS.to hx2
  refine hS.ld0 1 rfl rfl (asI_i rfl (hS.ld 1 rfl rfl (asI_i rfl (hS.ld 1 rfl rfl (asI_i rfl ?_)))))
  refine cells_k (b := a) fun p c w4 hx4 hr => ?_
  replace hS := hS.to hx4
  refine asT_i rfl rfl (asS_i rfl (asI_i rfl (lv_i ?_)))
  refine hS.ld0 0 rfl rfl (asI_i rfl (hS.ld 0 rfl rfl (asI_i rfl (hS.ld 0 rfl rfl (asI_i rfl ?_)))))
  refine cells_k (b := b) fun q c' w5 hx5 hq => ?_
  replace hS := hS.to hx5
  replace hr := hr.reads.ext hx5 fun _ _ h => h
  replace hq := hq.reads
  refine asT_i rfl rfl (asS_i rfl (asI_i rfl (lv_i ?_)))
  refine hS.ld0 1 rfl rfl (asI_i rfl (hS.ld 1 rfl rfl (asI_i rfl (hS.ld 1 rfl rfl (asI_i rfl ?_)))))
  refine hS.ld0 0 rfl rfl (asI_i rfl (hS.ld 0 rfl rfl (asI_i rfl (hS.ld 0 rfl rfl (asI_i rfl ?_)))))
  refine meet_k (a := a) (b := b) fun w6 hx6 => asT_i rfl rfl (asB_i rfl (asI_i rfl (lv_i ?_)))
  replace hS := hS.to hx6
  replace hr := hr.ext hx6 fun _ _ h => h
  replace hq := hq.ext hx6 fun _ _ h => h
  refine jn_of (fun t w' => ∃ v, t = [.bool v] ∧ w' = w6 ∧ (v = false → cellsE s a = 0 ∧ cellsE s b = 0)) ?_ ?_
  rotate_left
  · intro J hJ
    refine cond_f rfl (cond_split (fun h => hJ _ _ ⟨_, rfl, rfl, fun h => by cases h⟩) (fun h => hJ _ _ ⟨_, rfl, rfl, fun h2 => ⟨by simpa using h, by simpa using h2⟩⟩))
  rintro _ w6 ⟨v, rfl, rfl, hv⟩
  refine asB_i rfl (cond_split (fun _ => ⟨rfl, hS.ext⟩) (fun h => lv_i ?_))
  obtain ⟨ha0, hb0⟩ := hv h
  clear hv h
  have hcm : ∃ i0 k0 : Nat, (meetV a b).1 = true → i0 < (cellsL' s a).length ∧ k0 < (cellsL' s b).length ∧ (cellsL' s a)[i0]? = (cellsL' s b)[k0]? := by
    by_cases hm : (meetV a b).1 = true
    · obtain ⟨c0, h1, h2⟩ := meet_common ha0 hb0 hm
      obtain ⟨i0, h3, e3⟩ := List.getElem_of_mem h1
      obtain ⟨k0, h4, e4⟩ := List.getElem_of_mem h2
      exact ⟨i0, k0, fun _ => ⟨h3, h4, by rw [List.getElem?_eq_getElem h3, List.getElem?_eq_getElem h4, e3, e4]⟩⟩
    · exact ⟨0, 0, fun h => absurd h hm⟩
  obtain ⟨i0, k0, hcm⟩ := hcm
  have hokb := cells_okc (s := s) (b := b)
  have hoka := cells_okc (s := s) (b := a)
  have hla := cells_len (s := s) (b := a)
  have hlb := cells_len (s := s) (b := b)
  have hgap : (meetV a b).2 = 0 := by
    obtain ⟨_, h1, _⟩ := cellsE_zero ha0
    obtain ⟨_, h2, _⟩ := cellsE_zero hb0
    unfold meetV gapV
    rw [if_pos ⟨h1, h2⟩]
  have hso : sideOk s = true := (cellsE_zero ha0).1
  generalize hA : cellsL' s a = la at *
  generalize hB : cellsL' s b = lb at *
  refine lp_mk (fun t : Bool × Nat => [.bool t.1, .int .i64 (t.2 : Int)]) (fun m t w' => m = la.length - t.2 ∧ t.2 ≤ la.length ∧ Ext no w6 w' ∧ ((meetV a b).1 = true → i0 < t.2 → t.1 = true)) la.length (false, 0) rfl
    ⟨rfl, Nat.zero_le _, Ext.refl _ _, fun _ h => absurd h (by omega)⟩ ?_
  rintro _ ⟨cm, i⟩ w7 ⟨rfl, hi, hx7, hci⟩ J hJ
  simp only at hi hci hJ ⊢
  refine asB_i rfl (asI_i rfl (cond_split (fun hc => ?_) (fun hc => ?_)))
  · have hil : i < la.length := by
      have := of_decide_eq_true hc
      omega
    have ei : IntKind.wrap .i64 ((i : Int) + 1) = ((i + 1 : Nat) : Int) := by rw [wr64 (by omega) (by omega)]; omega
    refine lv_i ?_
    refine lp_mk (fun t : Bool × Nat => [.bool t.1, .int .i64 (t.2 : Int)]) (fun m t w' => m = lb.length - t.2 ∧ t.2 ≤ lb.length ∧ Ext no w6 w' ∧ ((meetV a b).1 = true → (i0 < i ∨ (i0 = i ∧ k0 < t.2)) → t.1 = true)) lb.length (cm, 0) rfl
      ⟨rfl, Nat.zero_le _, hx7, fun hm h => hci hm (by omega)⟩ ?_
    rintro _ ⟨cm, k⟩ w8 ⟨rfl, hk, hx8, hck⟩ J2 hJ2
    simp only at hk hck hJ2 ⊢
    refine asB_i rfl (asI_i rfl (cond_split (fun hc => ?_) (fun hc => ?_)))
    · have hkl : k < lb.length := by
        have := of_decide_eq_true hc
        omega
      have ek : IntKind.wrap .i64 ((k : Int) + 1) = ((k + 1 : Nat) : Int) := by rw [wr64 (by omega) (by omega)]; omega
      rw [ek]
      refine jn_of (fun t w' => ∃ v, t = [.bool v] ∧ Ext no w6 w' ∧ (cm = true → v = true) ∧ ((meetV a b).1 = true → i0 = i → k0 = k → v = true)) ?_ ?_
      · rintro _ w9 ⟨v, rfl, hx9, hv1, hv2⟩
        refine asB_i rfl (lv_i (hJ2 (lb.length - (k + 1)) (v, k + 1) w9 (by omega) ⟨rfl, hkl, hx9, fun hm h => ?_⟩))
        simp only at h ⊢
        rcases h with h | ⟨h1, h2⟩
        · exact hv1 (hck hm (.inl h))
        · by_cases hk0 : k0 = k
          · exact hv2 hm h1 hk0
          · exact hv1 (hck hm (.inr ⟨h1, by omega⟩))
      · intro J3 hJ3
        refine dw_mk ?_
        have hx9 : Ext no w6 w8.drew := hx8.trans (Ext.drew w8)
        refine cond_split (fun _ => hJ3 _ _ ⟨true, rfl, hx9, fun _ => rfl, fun _ _ _ => rfl⟩) (fun hf => ?_)
        refine (hr.ext hx9 fun _ _ h => h).at (i := (i : Int)) (v := cv la[i]) (by omega) (by simp [hil]) (asC_i rfl ?_) (by simp)
        refine (hq.ext hx9 fun _ _ h => h).at (i := (k : Int)) (v := cv lb[k]) (by omega) (by simp [hkl]) (asC_i rfl ?_) (by simp)
        refine hJ3 _ _ ⟨_, rfl, hx9, fun h => (by rw [hf] at h; cases h), fun hm h1 h2 => ?_⟩
        obtain ⟨_, _, he⟩ := hcm hm
        subst h1
        subst h2
        rw [List.getElem?_eq_getElem hil, List.getElem?_eq_getElem hkl] at he
        have he' : la[i0] = lb[k0] := by simpa using he
        have hsm := hoka _ (List.getElem_mem hil)
        unfold okc at hsm
        rw [← he', order_self (by omega), order_self (by omega)]
        rfl
    · have hkl : k = lb.length := by
        have := of_decide_eq_false hc
        omega
      rw [ei]
      refine lv_i (hJ (la.length - (i + 1)) (cm, i + 1) w8 (by omega) ⟨rfl, hil, hx8, fun hm h => hck hm ?_⟩)
      have := (hcm hm).2.1
      simp only at h
      omega
  · have hil : i = la.length := by
      have := of_decide_eq_false hc
      omega
    have hcm' : (meetV a b).1 = true → cm = true := fun hm => hci hm (by have := (hcm hm).1; omega)
    clear hJ hc hci
    refine jn_of (fun t w' => t = [.bool false] ∧ w' = w7) ?_ ?_
    rotate_left
    · intro J2 hJ2
      refine cond_f ?_ (cond_split (fun h => hJ2 _ _ ⟨?_, rfl⟩) (fun _ => hJ2 _ _ ⟨rfl, rfl⟩))
      · show ((meetV a b).2 != 0) = false
        rw [hgap]; rfl
      · rw [hcm' h]; rfl
    rintro _ w7 ⟨rfl, rfl⟩
    replace hS := hS.to hx7
    refine asB_i rfl (cond_f rfl ?_)
    refine hS.nw (cs := [.int .i64 s, .int .i64 o]) fun r89 w8 hS => lv_i ?_
    refine lp_mk (fun i : Nat => [.int .i64 (i : Int)]) (fun m i w' => m = 2 - i ∧ i ≤ 2 ∧ St W w' [(r89, [.int .i64 s, .int .i64 o], 3), (r3, b.cells, 25), (r1, a.cells, 25)]) 2 0 rfl ⟨rfl, Nat.zero_le _, hS⟩ ?_
    clear hS
    rintro _ i w9 ⟨rfl, hi, hS⟩ J hJ
    refine asI_i rfl (cond_split (fun hc => ?_) (fun _ => ⟨by first | trivial | rfl, hS.ext⟩))
    have hi2 : i < 2 := by
      have := of_decide_eq_true hc
      omega
    have ei : IntKind.wrap .i64 ((i : Int) + 1) = ((i + 1 : Nat) : Int) := by rw [wr64 (by omega) (by omega)]; omega
    rw [ei, Int.toNat_natCast]
    obtain ⟨u, hu, hu0⟩ : ∃ u : Int, [Value.int .i64 s, .int .i64 o][i]? = some (.int .i64 u) ∧ (i = 0 → sideOk u = true) := by
      match i, hi2 with
      | 0, _ => exact ⟨s, rfl, fun _ => hso⟩
      | 1, _ => exact ⟨o, rfl, fun h => by cases h⟩
    refine bnd_mk (by omega) (by omega) ?_
    have hcell : w9.cell? (Addr.add ⟨r89, 0, none⟩ (i * 1)) = some (.int .i64 u) := by
      rw [add_mk, blk_cell (hS.kn _ List.mem_cons_self).1]
      simpa using hu
    refine ld_mk hcell (asI_i rfl (gnew_k (fun hbad => ?_) (fun w10 Fr g mb mc _ hg hx10 hF => ?_)))
    · refine asT_i rfl rfl (asP_i rfl (asI_i rfl (lv_i ?_)))
      refine jn_of (fun t w' => t = [.bool true] ∧ w' = w9) ?_ ?_
      · rintro _ w9 ⟨rfl, rfl⟩
        refine asB_i rfl (cond_t rfl ⟨?_, hS.ext⟩)
        have : i = 1 := by
          by_cases h0 : i = 0
          · rw [hu0 h0] at hbad; cases hbad
          · omega
        subst this
        rfl
      · intro J2 hJ2
        exact cond_t rfl (hJ2 _ _ ⟨rfl, rfl⟩)
    · have hG := Gw.start hS hg hx10 hF
      refine asT_i rfl rfl (asP_i rfl (asI_i rfl (lv_i ?_)))
      refine jn_of (fun t w' => t = [.bool false] ∧ w' = w10) ?_ ?_
      rotate_left
      · intro J2 hJ2
        exact cond_f rfl (hJ2 _ _ ⟨rfl, rfl⟩)
      rintro _ w10 ⟨rfl, rfl⟩
      refine asB_i rfl (cond_f rfl ?_)
      refine hG.st.ld0 2 rfl rfl (asI_i rfl (hG.st.ld 2 rfl rfl (asI_i rfl (hG.st.ld 2 rfl rfl (asI_i rfl ?_)))))
      refine hG.put (by decide) (b := a) fun w11 hG => asI_i rfl (lv_i ?_)
      refine hG.st.ld0 1 rfl rfl (asI_i rfl (hG.st.ld 1 rfl rfl (asI_i rfl (hG.st.ld 1 rfl rfl (asI_i rfl ?_)))))
      obtain ⟨n1, n2, n3⟩ := one_near (s := u) (a := a) (b := b)
      refine hG.near (by decide) (b := b) (fun x hx => by rw [n1 x hx]; unfold I64; omega) (by omega) fun p5 c5 w12 LL hG _ _ => ?_
      refine asT_i rfl rfl (asS_i rfl (asI_i rfl (lv_i ?_)))
      refine jn_of (fun t w' => t = [.bool false] ∧ w' = w12) ?_ ?_
      · rintro _ w12 ⟨rfl, rfl⟩
        exact asB_i rfl (cond_f rfl (lv_i (hJ (2 - (i + 1)) (i + 1) w12 (by omega) ⟨rfl, by omega, hG.st.drop⟩)))
      · intro J2 hJ2
        refine cond_split (fun h1 => cond_split (fun h2 => hJ2 _ _ ⟨?_, rfl⟩) (fun _ => hJ2 _ _ ⟨rfl, rfl⟩)) (fun _ => hJ2 _ _ ⟨rfl, rfl⟩)
        have h1' : gputE u [] 4 a = 0 := by simpa using h1
        have h2' : cellsE u b = 0 := by simpa using h2
        have hn := n3 h1' h2'
        have hl : (gnearV u (gputB u [] 4 a) (gputD u [] [] 4 a) b).length = (metL (gputB u [] 4 a) (gputD u [] [] 4 a) b (cellsL' u b)).length := by
          unfold gnearV
          rw [List.length_mergeSort, List.length_map]
        rw [hl]
        have : (((metL (gputB u [] 4 a) (gputD u [] [] 4 a) b (cellsL' u b)).length : Int) == (1 : Int)) = (meetV a b).1 := by
          rw [Bool.eq_iff_iff, ← hn]
          simp only [beq_iff_eq]
          omega
        rw [this]
        show [Value.bool (!((meetV a b).1 == (meetV a b).1))] = _
        simp
end Go.Proofs.Ytamobmjfdiecbaa
