/- WoL2: the law WorldSame comes out true for every input. Conditions: those of the law's arguments as they are read. -/
import Derived.Test.YtamobmjfdiecbaaWoJ
namespace Go.Proofs.Ytamobmjfdiecbaa
open Go Go.Sx Go.Fp
attribute [local irreducible] jn lv ld st nw asI asB asP asS asY asM asF asA asT lp rn ru rq cl dw dr bnd bn2 nz nn hd hr so eqW
attribute [local irreducible] callOk

/-- every place's handle is its generation and its number, and what is there is right -/
def Good (n : Nat) (S : List Spot) : Prop := ∀ (i : Nat) s, S[i]? = some s → i < 64 ∧ 0 ≤ s.gen ∧ s.gen ≤ (n : Int) ∧ (s.there = true → s.e.rightE = 0 ∧ s.e.h = s.gen * 64 + (i : Int) ∧ 1 ≤ s.gen ∧ s.e.I)

theorem Good.zero : Good 0 (List.replicate 64 Spot.zero) := fun i s h => by
  rw [List.getElem?_replicate] at h
  split at h
  · rename_i hi
    cases h
    exact ⟨hi, by decide, by decide, fun h => by cases h⟩
  · cases h
theorem Good.mono {n m : Nat} {S : List Spot} (h : Good n S) (hm : n ≤ m) : Good m S := fun i s hs => by
  obtain ⟨h0, h1, h2, h3⟩ := h i s hs
  exact ⟨h0, h1, by omega, h3⟩
theorem rightE_h (e : Ent) (h : Int) : Ent.rightE { e with h := h } = e.rightE := rfl
theorem Good.spawn {n : Nat} (hn : n ≤ 1000000) {S : List Spot} (h : Good n S) {i : Nat} {s : Spot} (hs : S[i]? = some s) {e : Ent} (he : e.rightE = 0) (hI : e.I) : Good (n + 1) (S.set i (spn s i e)) := fun j t ht => by
  have hi := (List.getElem?_eq_some_iff.1 hs).1
  by_cases hj : i = j
  · subst hj
    rw [List.getElem?_set_self hi] at ht
    cases ht
    obtain ⟨h0, h1, h2, _⟩ := h i s hs
    refine ⟨h0, ?_, ?_, fun _ => ⟨?_, ?_, ?_, ?_⟩⟩
    · show 0 ≤ s.gen + 1
      omega
    · show s.gen + 1 ≤ ((n + 1 : Nat) : Int)
      omega
    · exact he
    · rfl
    · show 1 ≤ s.gen + 1
      omega
    · refine ⟨⟨?_, ?_⟩, hI.2⟩
      · show -9223372036854775808 ≤ (s.gen + 1) * 64 + (i : Int)
        omega
      · show (s.gen + 1) * 64 + (i : Int) ≤ 9223372036854775807
        omega
  · rw [List.getElem?_set_ne hj] at ht
    exact h.mono (Nat.le_succ n) j t ht

theorem Good.at {n : Nat} {S : List Spot} (h : Good n S) {i : Nat} {s : Spot} (hs : S[i]? = some s) (ht : s.there = true) : atI S s.e.h = some i := by
  obtain ⟨h0, h1, h2, h3⟩ := h i s hs
  obtain ⟨_, h5, h6, _⟩ := h3 ht
  have e1 : s.e.h.toNat % 64 = i := by rw [h5]; omega
  unfold atI
  rw [if_neg (by rw [h5]; omega), e1, hs]
  simp only
  rw [if_pos ⟨ht, trivial⟩]

theorem listS_mem {S : List Spot} {e : Ent} (h : e ∈ listS S) : ∃ (i : Nat) (s : Spot), S[i]? = some s ∧ s.there = true ∧ s.e = e := by
  obtain ⟨s, hs, rfl⟩ := List.mem_map.1 h
  obtain ⟨hs1, hs2⟩ := List.mem_filter.1 hs
  obtain ⟨i, hi⟩ := List.getElem?_of_mem hs1
  exact ⟨i, s, hi, by simpa using hs2, rfl⟩

set_option maxHeartbeats 1000000 in
theorem worldSame_law (W : World) (a : Option Addr) (len cap : Nat) (z : List (List Value)) (R : Reads W a z.flatten) (hL : z.length = len)
    (F0 : ∀ c ∈ z, FitsAll [.int .i64, .int .i64, .int .i64, .int .i64, .int .i64, .int .i64, .int .i64, .int .i64] c) (Y : len * 64 ≤ 140737488351232) :
    cl Try.prog 5 #[.slice a len cap] W fun v w' => v = .bool true ∧ Ext no W w' := by
  obtain ⟨es, hz, hl, hI⟩ := ents_of rfl F0
  rw [hz] at R
  rw [hL] at hl
  clear hz hL F0
  apply F5_calls
  unfold F5
  refine wawake_k fun w2 hx2 => asB_i rfl ?_
  refine wnew_k fun w3 F r g hw hx3 hF hr => asP_i rfl ?_
  have hP := Pw.start ((St.start W).to hx2) hx3 hw hF hr
  refine jn_mk (cond_f rfl (asB_i rfl (cond_f rfl (lv_i ?_))))
  refine lp_mk (fun i : Nat => [.int .i64 (i : Int)]) (fun m i w' => m = len - i ∧ i ≤ len ∧ i ≤ 80 ∧ ∃ F S B D, Pw W w' [] F r g S B D (1024 * i) ∧ Good i S) len 0 rfl ⟨rfl, Nat.zero_le _, Nat.zero_le _, F, _, _, _, hP, Good.zero⟩ ?_
  clear hP hw hF hr hx2 hx3 F w2 w3
  rintro _ i w1 ⟨rfl, hi, hi8, F, S, B, D, hP, hG⟩ J hJ
  refine asI_i rfl ?_
  refine jn_of (fun s w' => ∃ b, s = [.bool b] ∧ w' = w1 ∧ (b = true → i < len ∧ i < 80)) ?_ ?_
  · rintro _ _ ⟨b, rfl, rfl, hb⟩
    refine asB_i rfl (cond_split (fun h => ?_) (fun _ => ?_))
    · obtain ⟨hl1, hl2⟩ := hb h
      have he : es[i]? = some es[i] := List.getElem?_eq_getElem (by omega)
      have hIe := hI _ (List.getElem_mem (by omega : i < es.length))
      generalize es[i] = e at he hIe
      refine Reads.atN (f := Ent.cells) Ent.cells_length (Reads.no hP.st.ext R) hl he (by decide) fun a' _ hca => ?_
      rw [Int.toNat_natCast]
      have ei : IntKind.wrap .i64 ((i : Int) + 1) = ((i + 1 : Nat) : Int) := by rw [wr64 (by omega) (by omega)]; omega
      rw [ei]
      refine ld8c hca (hP.spawn (e := e) (by omega) (fun w4 hP _ => ?_) (fun w4 hP _ _ => ?_) (fun w4 F4 j s he0 hf hP => ?_))
      · exact asT_i rfl rfl (asI_i rfl (asI_i rfl (lv_i (hJ (len - (i + 1)) (i + 1) _ (by omega) ⟨rfl, by omega, by omega, F, S, B, D, ⟨hP.st, hP.wd.mono (by omega), hP.fr⟩, hG.mono (by omega)⟩))))
      · exact asT_i rfl rfl (asI_i rfl (asI_i rfl (lv_i (hJ (len - (i + 1)) (i + 1) _ (by omega) ⟨rfl, by omega, by omega, F, S, B, D, ⟨hP.st, hP.wd.mono (by omega), hP.fr⟩, hG.mono (by omega)⟩))))
      · exact asT_i rfl rfl (asI_i rfl (asI_i rfl (lv_i (hJ (len - (i + 1)) (i + 1) _ (by omega) ⟨rfl, by omega, by omega, F4, _, _, _, hP, hG.spawn (by omega) hf.1 he0 hIe⟩))))
    · refine hP.list fun p c w2 LL hP hH => asS_i rfl (lv_i ?_)
      rw [List.append_nil] at hP
      have h64 := hP.wd.ws.len
      have hlen := listS_len S
      have hIS : ∀ e ∈ listS S, e.I := fun e he => by
        obtain ⟨m, s, hs, ht, rfl⟩ := listS_mem he
        exact ((hG m s hs).2.2.2 ht).2.2.2
      refine lp_mk (fun k : Nat => [.int .i64 (k : Int)]) (fun m k w' => m = 64 - k ∧ k ≤ (listS S).length ∧ ∃ F B D, Pw W w' LL F r g S B D (1024 * i + 1024 * k)) 64 0 rfl ⟨rfl, Nat.zero_le _, F, B, D, hP⟩ ?_
      rintro _ k w3 ⟨rfl, hk, F, B, D, hP⟩ J2 hJ2
      refine asI_i rfl (cond_split (fun hc => ?_) (fun _ => ?_))
      · have hkl : k < (listS S).length := by
          have := of_decide_eq_true hc
          omega
        have he : (listS S)[k]? = some (listS S)[k] := List.getElem?_eq_getElem hkl
        have hem := List.getElem_mem hkl
        generalize (listS S)[k] = e at he hem
        obtain ⟨m, s, hs, ht, rfl⟩ := listS_mem hem
        have hat := hG.at hs ht
        obtain ⟨_, _, _, h4⟩ := hG m s hs
        obtain ⟨hR, _, _, hIe⟩ := h4 ht
        have eE : getE S s.e.h = s.e := by unfold getE; rw [hat]; simp only; rw [hs]; try rfl
        have eC : getC S s.e.h = 0 := by unfold getC; rw [hat]; rfl
        have eS : setE S s.e.h s.e = 0 := by unfold setE; rw [hat]; exact hR
        have ei : IntKind.wrap .i64 ((k : Int) + 1) = ((k + 1 : Nat) : Int) := by rw [wr64 (by omega) (by omega)]; omega
        refine Reads.atN (f := Ent.cells) Ent.cells_length (hP.reads hH fun b hb => hb) rfl he (by decide) fun a' _ hca => ?_
        rw [Int.toNat_natCast, ei]
        have hc0 := hca 0 (by decide)
        rw [Sx.add_zero'] at hc0
        refine ld_mk hc0 (asI_i rfl (hP.get fun w4 hP => ?_))
        rw [eE, eC]
        refine asT_i (l := [s.e.v, .int .i64 0]) rfl rfl (asI8 ?_)
        refine asI_i rfl (asI_i rfl (asI_i rfl (asI_i rfl (asI_i rfl (asI_i rfl (asI_i rfl (asI_i rfl (asI_i rfl ?_))))))))
        refine hP.nw (cs := Ent.zero.cells) fun q w5 hP => ?_
        refine hP.st8 rfl s.e fun w6 hP => lv_i ?_
        refine jn_of (fun t w' => t = [.bool false] ∧ ∃ F B D, Pw W w' LL F r g S B D (1024 * i + 1024 * (k + 1))) ?_ ?_
        · rintro _ w7 ⟨rfl, F, B, D, hP⟩
          exact asB_i rfl (cond_f rfl (lv_i (hJ2 (64 - (k + 1)) (k + 1) _ (by omega) ⟨rfl, by omega, F, B, D, hP⟩)))
        · intro J3 hJ3
          refine hP.drew fun hP => cond_f rfl ?_
          refine hP.ld8 0 rfl ?_
          refine Reads.atN (f := Ent.cells) Ent.cells_length (hP.reads hH fun b hb => List.mem_cons_of_mem _ hb) rfl he (by decide) fun a1 ha1 hca1 => ?_
          refine ld8c hca1 (eqEnt hIe (cond_f rfl ?_))
          refine hP.st.ld0 0 rfl rfl (asI_i rfl ?_)
          refine hP.ld8 0 rfl (hP.set (by omega) (fun w' _ hbad => absurd eS hbad) ?_)
          intro w7 F7 m' s' _ _ hm' _ _ hs' ht' _ hP
          have : m' = m := by
            rw [hat] at hm'
            cases hm'
            rfl
          subst this
          rw [hs] at hs'
          cases hs'
          have hset : S.set m' ⟨s.gen, s.there, { s.e with h := s.e.h }⟩ = S := by
            apply List.ext_getElem?
            intro j
            by_cases hj : m' = j
            · subst hj
              rw [List.getElem?_set_self (List.getElem?_eq_some_iff.1 hs).1, hs]
            · rw [List.getElem?_set_ne hj]
          rw [hset] at hP
          refine asI_i rfl ?_
          have hR7 := hP.reads hH fun b hb => List.mem_cons_of_mem _ hb
          have hca7 : ∀ k', k' < 8 → w7.cell? (Addr.add (Addr.add a1 (k * 8)) k') = s.e.cells[k']? := by
            have := Reads.atN (f := Ent.cells) Ent.cells_length hR7 rfl he (by decide) (K := fun a2 => ∀ k', k' < 8 → w7.cell? (Addr.add (Addr.add a2 (k * 8)) k') = s.e.cells[k']?) fun a2 _ h2 => h2
            rw [ha1] at this
            unfold dr bnd at this
            exact this.2
          have hQ := hP.tail
          rw [show 1024 * i + 1024 * k + 1024 = 1024 * i + 1024 * (k + 1) from by omega] at hQ
          refine hd8c hca7 (hd8c (e := s.e) (fun k' hk' => ?_) (hJ3 _ _ ⟨rfl, F7, _, _, hQ⟩))
          · have hb := (hP.st.kn _ List.mem_cons_self).1
            rw [add_mk, blk_cell hb, Nat.zero_add]
            simp only [List.getElem?_toArray]
      · refine hP.list fun p' c' w4 LL' hP hH' => asS_i rfl ?_
        refine rsame_k hIS (hP.reads hH fun b hb => List.mem_append_right _ hb) (hP.reads hH' fun b hb => List.mem_append_left _ hb) rfl rfl (by omega) fun w5 hx => asB_i rfl ⟨rfl, hP.st.ext.trans hx⟩
  · intro J2 hJ2
    refine cond_split (fun h1 => hJ2 _ _ ⟨_, rfl, rfl, fun h2 => ?_⟩) (fun _ => hJ2 _ _ ⟨_, rfl, rfl, fun h => by cases h⟩)
    have := of_decide_eq_true h1
    have := of_decide_eq_true h2
    omega
end Go.Proofs.Ytamobmjfdiecbaa
