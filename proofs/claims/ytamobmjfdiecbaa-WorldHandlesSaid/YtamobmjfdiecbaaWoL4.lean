/- WoL4: the law WorldHandles comes out true for every input: the walk. Conditions: those of the law's arguments as they are read. -/
import Derived.Test.YtamobmjfdiecbaaWoL3
namespace Go.Proofs.Ytamobmjfdiecbaa
open Go Go.Sx Go.Fp
attribute [local irreducible] jn lv ld st nw asI asB asP asS asY asM asF asA asT lp rn ru rq cl dw dr bnd bn2 nz nn hd hr so eqW
attribute [local irreducible] callOk

def z10 : List Value := [.int .i64 0, .int .i64 0, .int .i64 0, .int .i64 0, .int .i64 0, .int .i64 0, .int .i64 0, .int .i64 0, .int .i64 0, .int .i64 0]

set_option maxHeartbeats 2000000 in
theorem worldHandles_law (W : World) (a : Option Addr) (len cap : Nat) (z : List (List Value)) (R : Reads W a z.flatten) (hL : z.length = len)
    (F0 : ∀ c ∈ z, FitsAll [.int .i64, .int .i64, .int .i64, .int .i64, .int .i64, .int .i64, .int .i64, .int .i64, .int .i64, .int .i64] c) (Y : len * 80 ≤ 140737488351232) :
    cl Try.prog 4 #[.slice a len cap] W fun v w' => v = .bool true ∧ Ext no W w' := by
  obtain ⟨es, hz, hl, hI⟩ := acts_of F0
  rw [hz] at R
  rw [hL] at hl
  clear hz hL F0
  apply F4_calls
  unfold F4
  refine wawake_k fun w2 hx2 => asB_i rfl ?_
  refine wnew_k fun w3 F r g hw hx3 hF hr => asP_i rfl ?_
  have hP := Pw.start ((St.start W).to hx2) hx3 hw hF hr
  refine jn_mk (cond_f rfl (asB_i rfl (cond_f rfl (lv_i ?_))))
  refine lp_mk (fun t : ((Option Addr × Nat × Nat) × (Option Addr × Nat × Nat)) × Nat => [.slice t.1.1.1 t.1.1.2.1 t.1.1.2.2, .slice t.1.2.1 t.1.2.2.1 t.1.2.2.2, .int .i64 (t.2 : Int)])
    (fun m t w' => m = len - t.2 ∧ t.2 ≤ len ∧ t.2 ≤ 300 ∧ ∃ F S B D G Q, Pq W w' [] F r g S B D (1024 * t.2) t.1.1.1 t.1.1.2.2 G t.1.2.1 t.1.2.2.2 Q ∧ Inv t.2 S G Q ∧ G.length = t.1.1.2.1 ∧ Q.length = t.1.2.2.1) len (((none, 0, 0), (none, 0, 0)), 0) rfl
    ⟨rfl, Nat.zero_le _, Nat.zero_le _, F, _, _, _, [], [], ⟨hP, Pr.nil, Pr.nil, Apart.none _⟩, ⟨Good.zero, by simp, by simp, rfl, Nat.le_refl _⟩, rfl, rfl⟩ ?_
  clear hP hw hF hr hx2 hx3 F w2 w3
  rintro _ ⟨⟨⟨p, n, c⟩, ⟨q, n', c'⟩⟩, i⟩ w1 ⟨rfl, hi, hi3, F, S, B, D, G, Q, hP, hV, hn, hn'⟩ J hJ
  simp only at hi hi3 hP hV hn hn' hJ ⊢
  refine asS_i rfl (asS_i rfl (asI_i rfl ?_))
  refine jn_of (fun s w' => ∃ b, s = [.bool b] ∧ w' = w1 ∧ (b = true → i < len ∧ i < 300)) ?_ ?_
  rotate_left
  · intro J2 hJ2
    refine cond_split (fun h1 => hJ2 _ _ ⟨_, rfl, rfl, fun h2 => ?_⟩) (fun _ => hJ2 _ _ ⟨_, rfl, rfl, fun h => by cases h⟩)
    have := of_decide_eq_true h1
    have := of_decide_eq_true h2
    omega
  rintro _ _ ⟨b, rfl, rfl, hb⟩
  refine asB_i rfl (cond_split (fun h => ?_) (fun _ => ⟨by first | trivial | rfl, hP.pw.st.ext⟩))
  obtain ⟨hl1, hl2⟩ := hb h
  clear hb h b
  have he : es[i]? = some es[i] := List.getElem?_eq_getElem (by omega)
  have hIe := hI _ (List.getElem_mem (by omega : i < es.length))
  generalize es[i] = e at he hIe
  refine Reads.atN (f := Act.cells) Act.cells_length (Reads.no hP.pw.st.ext R) hl he (by decide) fun a' _ hca => ?_
  rw [Int.toNat_natCast]
  have ei : IntKind.wrap .i64 ((i : Int) + 1) = ((i + 1 : Nat) : Int) := by rw [wr64 (by omega) (by omega)]; omega
  rw [ei]
  refine ld10c hca (hP.nw (cs := z10) fun b w2 hP => hP.st10 rfl e fun w3 hP => ?_)
  clear hca
  have cB : ∀ {w : World} {F : Nat → Prop} {S : List Spot} {B : List (Int × Bx)} {D : List ((Int × Int) × List Int)} {N : Nat} {p q : Option Addr} {c c' : Nat} {G Q : List Int}, Pq W w [(b, e.cells, 40)] F r g S B D N p c G q c' Q → ∀ k v, e.cells[k]? = some v → w.cell? ⟨b, k, none⟩ = some v := by
    intro w F S B D N p q c c' G Q hP k v hv
    rw [blk_cell (hP.pw.st.kn _ List.mem_cons_self).1]
    simpa using hv
  have hb0 := cB hP 0 _ rfl
  refine jn_of (fun s w' => ∃ p n c G F S B D, s = [.slice p n c] ∧ Pq W w' [(b, e.cells, 40)] F r g S B D (1024 * (i + 1)) p c G q c' Q ∧ Inv (i + 1) S G Q ∧ G.length = n) ?_ ?_
  · rintro _ w4 ⟨p, n, c, G, F, S, B, D, rfl, hP, hV, hn⟩
    refine asS_i rfl ?_
    refine jn_of (fun s w' => ∃ q n' c' Q S B D, s = [.slice q n' c'] ∧ Pq W w' [(b, e.cells, 40)] F r g S B D (1024 * (i + 1)) p c G q c' Q ∧ Inv (i + 1) S G Q ∧ Q.length = n') ?_ ?_
    · rintro _ w5 ⟨q, n', c', Q, S, B, D, rfl, hP, hV, hn'⟩
      refine asS_i rfl (lv_i ?_)
      have h64 := hP.pw.wd.ws.len
      have hlen := listS_len S
      have hcnt := hV.cnt
      have hcap := hV.cap
      refine lp_mk (fun k : Nat => [.int .i64 (k : Int)]) (fun m k w' => m = n' - k ∧ k ≤ n' ∧ Pq W w' [(b, e.cells, 40)] F r g S B D (1024 * (i + 1)) p c G q c' Q) n' 0 rfl ⟨rfl, Nat.zero_le _, hP⟩ ?_
      clear hP
      rintro _ k w6 ⟨rfl, hk, hP⟩ J2 hJ2
      refine asI_i rfl (cond_split (fun hc => ?_) (fun _ => ?_))
      · have hkn : k < n' := by
          have := of_decide_eq_true hc
          omega
        refine hP.dd.at hn' hkn fun a1 h1 => ?_
        rw [Int.toNat_natCast]
        have hmem : Q.getD k 0 ∈ Q := by
          rw [List.getD_eq_getElem?_getD, List.getElem?_eq_getElem (by omega)]
          exact List.getElem_mem _
        obtain ⟨_, hat⟩ := hV.dead _ hmem
        refine ld_mk h1 (asI_i rfl (hP.get fun w7 hP => ?_))
        have eC : getC S (Q.getD k 0) = 190 := by unfold getC; rw [hat]; rfl
        rw [eC]
        refine asT_i (l := [(getE S (Q.getD k 0)).v, .int .i64 190]) rfl rfl (asI8 ?_)
        generalize getE S (Q.getD k 0) = e0
        refine asI_i rfl (asI_i rfl (asI_i rfl (asI_i rfl (asI_i rfl (asI_i rfl (asI_i rfl (asI_i rfl (asI_i rfl ?_))))))))
        refine hP.nw (cs := Ent.zero.cells) fun b2 w8 hP => hP.st8 rfl e0 fun w9 hP => lv_i ?_
        have ek : IntKind.wrap .i64 ((k : Int) + 1) = ((k + 1 : Nat) : Int) := by rw [wr64 (by omega) (by omega)]; omega
        refine jn_of (fun t w' => t = [.bool false] ∧ w' = w9) ?_ ?_
        · rintro _ _ ⟨rfl, rfl⟩
          refine asB_i rfl (cond_f rfl (lv_i ?_))
          rw [ek]
          exact hJ2 (n' - (k + 1)) (k + 1) _ (by omega) ⟨rfl, by omega, hP.tail⟩
        · intro J3 hJ3
          refine cond_f rfl (hP.dd.at hn' hkn fun a2 h2 => ?_)
          refine ld_mk h2 (asI_i rfl (hP.kill (by omega) (fun _ => asI_i rfl (hJ3 _ _ ⟨rfl, rfl⟩)) fun _ _ _ i' s' hs' => ?_))
          rw [hat] at hs'
          cases hs'
      · refine jn_of (fun t w' => t = [.bool false] ∧ Pq W w' [(b, e.cells, 40)] F r g S B D (1024 * (i + 1)) p c G q c' Q) ?_ ?_
        · rintro _ w7 ⟨rfl, hP⟩
          exact asB_i rfl (cond_f rfl (lv_i (hJ (len - (i + 1)) (((p, n, c), (q, n', c')), i + 1) w7 (by omega) ⟨rfl, by simp only; omega, by simp only; omega, F, S, B, D, G, Q, hP.tail, hV, hn, hn'⟩)))
        · intro J3 hJ3
          refine hP.list fun p0 c0 w7 hP => asS_i rfl ?_
          have e1 : IntKind.wrap .i64 ((n : Int) - (n' : Int)) = ((listS S).length : Int) := by rw [wr64 (by omega) (by omega)]; omega
          rw [e1]
          refine cond_f (by simp) (hP.list fun p1 c1 w8 hP => asS_i rfl (hJ3 _ _ ⟨?_, hP⟩))
          have e2 : decide (((listS S).length : Int) > 64) = false := by simp; omega
          rw [e2]
    · intro J2 hJ2
      refine ld_mk (cB hP 0 _ rfl) (asI_i rfl (cond_split (fun h => ?_) (fun h => hJ2 _ _ ⟨q, n', c', Q, S, B, D, rfl, hP, hV, hn'⟩)))
      have hb1 := cB hP 1 _ rfl
      refine ld_mk (by rw [add_mk]; exact hb1) (asI_i rfl ?_)
      refine hP.kill (by omega) (fun _ => ?_) (fun w5 B5 D5 i5 s5 h1 h2 h3 h4 h5 h6 hP => ?_)
      · exact asI_i rfl (lv_i (cond_f rfl (hJ2 _ _ ⟨q, n', c', Q, S, B, D, rfl, hP, hV, hn'⟩)))
      · have hV' := hV.kill h2 h3 h4 h5 h6
        have hb1 := cB hP 1 _ rfl
        have hcnt := hV.cnt
        have hcnt' := hV'.cnt
        refine asI_i rfl (lv_i (cond_t rfl (ld_mk (by rw [add_mk]; exact hb1) (asI_i rfl ?_))))
        have hcap := hV.cap
        have hGn : n' ≤ 1000000 := by omega
        refine hP.dd.app1 hP.pw hP.gv hP.ap.symm hn' hGn fun q' c'' w6 hP' hd hg hap => asS_i rfl (hJ2 _ _ ⟨q', n' + 1, c'', Q ++ [e.h], _, _, _, rfl, ⟨hP', hg, hd, hap.symm⟩, hV', by simp [hn']⟩)
  · intro J2 hJ2
    have hkeep : ∀ w', Pq W w' [(b, e.cells, 40)] F r g S B D (1024 * i) p c G q c' Q → J2 [.slice p n c] w' := fun w' hP => hJ2 _ _ ⟨p, n, c, G, F, S, B, D, rfl, hP.mono (by omega), hV.mono (by omega), hn⟩
    refine ld_mk hb0 (asI_i rfl (cond_split (fun h => ?_) (fun h => hkeep _ hP)))
    have hA : ∀ k, k < 8 → w3.cell? (Addr.add (Addr.add ⟨b, 0, none⟩ 2) k) = e.e.cells[k]? := fun k hk => by
      have h1 : e.e.cells[k]? = some (e.e.cells[k]'hk) := List.getElem?_eq_getElem hk
      rw [add_mk, add_mk, h1]
      refine cB hP _ _ ?_
      show (Value.int .i64 e.k :: Value.int .i64 e.h :: e.e.cells)[0 + 2 + k]? = _
      rw [show 0 + 2 + k = k + 1 + 1 from by omega, List.getElem?_cons_succ, List.getElem?_cons_succ, h1]
    refine ld8c hA ?_
    have hcap := hV.cap
    have hGn : n ≤ 1000000 := by omega
    refine hP.spawn (e := e.e) (by omega) (fun w4 x hP hx => ?_) (fun w4 F4 B4 D4 j s he0 hf hP => ?_)
    · refine asT_i rfl rfl (asI_i rfl (asI_i rfl (lv_i (lv_i ?_))))
      refine jn_of (fun t w' => t = [.bool false] ∧ w' = w4) ?_ ?_
      · rintro _ w4 ⟨rfl, rfl⟩
        refine asB_i rfl (cond_f rfl (lv_i ?_))
        refine lp_mk (fun k : Nat => [.int .i64 (k : Int)]) (fun m k w' => m = 0 ∧ k = 0 ∧ w' = w4) 0 0 rfl ⟨rfl, rfl, rfl⟩ ?_
        rintro _ k w4 ⟨rfl, rfl, rfl⟩ J3 _
        refine asI_i rfl ?_
        refine jn_of (fun t w' => t = [.bool false] ∧ w' = w4) ?_ ?_
        · rintro _ _ ⟨rfl, rfl⟩
          exact asB_i rfl (cond_f rfl (cond_f rfl (hkeep _ hP)))
        · intro J4 hJ4
          exact cond_split (fun _ => hJ4 _ _ ⟨rfl, rfl⟩) (fun _ => hJ4 _ _ ⟨rfl, rfl⟩)
      · intro J3 hJ3
        have hx0 : (x == 0) = false := by simpa using hx
        rw [hx0]
        exact cond_f rfl (hJ3 _ _ ⟨rfl, rfl⟩)
    · obtain ⟨hV', hnew⟩ := hV.spawn (by omega) hf he0 hIe
      obtain ⟨hj, hg0, hg1, _⟩ := hV.good j s hf.1
      generalize hhh : (s.gen + 1) * 64 + (j : Int) = hh at *
      have hh0 : 64 ≤ hh := by omega
      have e0 : (hh != 0) = true := by simp; omega
      refine asT_i rfl rfl (asI_i rfl (asI_i rfl (lv_i (lv_i ?_))))
      rw [e0]
      refine jn_of (fun t w' => t = [.bool false] ∧ w' = w4) ?_ ?_
      · rintro _ w4 ⟨rfl, rfl⟩
        refine asB_i rfl (cond_f rfl (lv_i ?_))
        refine lp_mk (fun k : Nat => [.int .i64 (k : Int)]) (fun m k w' => m = n - k ∧ k ≤ n ∧ w' = w4) n 0 rfl ⟨rfl, Nat.zero_le _, rfl⟩ ?_
        rintro _ k w4 ⟨rfl, hk, rfl⟩ J3 hJ3
        refine asI_i rfl ?_
        refine jn_of (fun t w' => ∃ b, t = [.bool b] ∧ w' = w4 ∧ (b = true → k < n)) ?_ ?_
        · rintro _ _ ⟨b1, rfl, rfl, hb1⟩
          refine asB_i rfl (cond_split (fun h => ?_) (fun _ => cond_t rfl ?_))
          · have hkn := hb1 h
            refine hP.gv.at hn hkn fun a1 h1 => ?_
            rw [Int.toNat_natCast]
            have hmem : G.getD k 0 ∈ G := by
              rw [List.getD_eq_getElem?_getD, List.getElem?_eq_getElem (by omega)]
              exact List.getElem_mem _
            have hne : (G.getD k 0 == hh) = false := by
              simp only [beq_eq_false_iff_ne]
              rintro heq
              exact hnew (heq ▸ hmem)
            have ek : IntKind.wrap .i64 ((k : Int) + 1) = ((k + 1 : Nat) : Int) := by rw [wr64 (by omega) (by omega)]; omega
            refine ld_mk h1 (asI_i rfl (cond_f hne (lv_i ?_)))
            rw [ek]
            exact hJ3 (n - (k + 1)) (k + 1) _ (by omega) ⟨rfl, by omega, rfl⟩
          · refine hP.gv.app1 hP.pw hP.dd hP.ap hn hGn fun p' c'' w6 hP' hg hd hap => asS_i rfl ?_
            rw [show 1024 * i + 1024 = 1024 * (i + 1) from by omega] at hP'
            exact hJ2 _ _ ⟨p', n + 1, c'', G ++ [hh], _, _, _, _, rfl, ⟨hP', hg, hd, hap⟩, hV', by simp [hn]⟩
        · intro J4 hJ4
          refine cond_split (fun h => hJ4 _ _ ⟨_, rfl, rfl, fun _ => ?_⟩) (fun _ => hJ4 _ _ ⟨_, rfl, rfl, fun h => by cases h⟩)
          have := of_decide_eq_true h
          omega
      · intro J3 hJ3
        refine cond_f rfl (hJ3 _ _ ⟨?_, rfl⟩)
        have : decide (hh < 0) = false := by simp; omega
        rw [this]
end Go.Proofs.Ytamobmjfdiecbaa
