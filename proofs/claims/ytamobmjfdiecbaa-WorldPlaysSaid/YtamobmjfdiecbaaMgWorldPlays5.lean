/- WoL2: the law WorldSame comes out true for every input. Conditions: those of the law's arguments as they are read. -/
import Derived.Test.YtamobmjfdiecbaaMgWorldPlays4
import Derived.Test.YtamobmjfdiecbaaProg
import Derived.Test.YtamobmjfdiecbaaMgWorldPlays1
import Derived.KernelRfl
namespace Go.Proofs.Ytamobmjfdiecbaa
open Go Go.Sx Go.Fp
attribute [local irreducible] jn lv ld st nw asI asB asP asS asY asM asF asA asT lp rn ru rq cl dw dr bnd bn2 nz nn hd hr so eqW
attribute [local irreducible] callOk

/-- every place's handle is its generation and its number, and what is there is right -/
def Good (n : Nat) (S : List Spot) : Prop := ∀ (i : Nat) s, S[i]? = some s → i < 64 ∧ 0 ≤ s.gen ∧ s.gen ≤ (n : Int) ∧ (s.there = true → s.e.rightE = 0 ∧ s.e.h = s.gen * 64 + (i : Int) ∧ 1 ≤ s.gen ∧ s.e.I)

theorem Good.zero : Good 0 (List.replicate 64 Spot.zero) := fun i s h => by
  rw [List.getElem?_replicate] at h
  split at h
  · rename_i hi
    cases h
    exact ⟨hi, by decide, by decide, fun h => by cases h⟩
  · cases h
theorem Good.mono {n m : Nat} {S : List Spot} (h : Good n S) (hm : n ≤ m) : Good m S := fun i s hs => by
  obtain ⟨h0, h1, h2, h3⟩ := h i s hs
  exact ⟨h0, h1, by omega, h3⟩
theorem rightE_h (e : Ent) (h : Int) : Ent.rightE { e with h := h } = e.rightE := rfl
theorem Good.spawn {n : Nat} (hn : n ≤ 1000000) {S : List Spot} (h : Good n S) {i : Nat} {s : Spot} (hs : S[i]? = some s) {e : Ent} (he : e.rightE = 0) (hI : e.I) : Good (n + 1) (S.set i (spn s i e)) := fun j t ht => by
  have hi := (List.getElem?_eq_some_iff.1 hs).1
  by_cases hj : i = j
  · subst hj
    rw [List.getElem?_set_self hi] at ht
    cases ht
    obtain ⟨h0, h1, h2, _⟩ := h i s hs
    refine ⟨h0, ?_, ?_, fun _ => ⟨?_, ?_, ?_, ?_⟩⟩
    · show 0 ≤ s.gen + 1
      omega
    · show s.gen + 1 ≤ ((n + 1 : Nat) : Int)
      omega
    · exact he
    · rfl
    · show 1 ≤ s.gen + 1
      omega
    · refine ⟨⟨?_, ?_⟩, hI.2⟩
      · show -9223372036854775808 ≤ (s.gen + 1) * 64 + (i : Int)
        omega
      · show (s.gen + 1) * 64 + (i : Int) ≤ 9223372036854775807
        omega
  · rw [List.getElem?_set_ne hj] at ht
    exact h.mono (Nat.le_succ n) j t ht

theorem Good.at {n : Nat} {S : List Spot} (h : Good n S) {i : Nat} {s : Spot} (hs : S[i]? = some s) (ht : s.there = true) : atI S s.e.h = some i := by
  obtain ⟨h0, h1, h2, h3⟩ := h i s hs
  obtain ⟨_, h5, h6, _⟩ := h3 ht
  have e1 : s.e.h.toNat % 64 = i := by rw [h5]; omega
  unfold atI
  rw [if_neg (by rw [h5]; omega), e1, hs]
  simp only
  rw [if_pos ⟨ht, trivial⟩]

theorem listS_mem {S : List Spot} {e : Ent} (h : e ∈ listS S) : ∃ (i : Nat) (s : Spot), S[i]? = some s ∧ s.there = true ∧ s.e = e := by
  obtain ⟨s, hs, rfl⟩ := List.mem_map.1 h
  obtain ⟨hs1, hs2⟩ := List.mem_filter.1 hs
  obtain ⟨i, hi⟩ := List.getElem?_of_mem hs1
  exact ⟨i, s, hi, by simpa using hs2, rfl⟩

set_option maxHeartbeats 1000000 in
theorem worldSame_law (W : World) (a : Option Addr) (len cap : Nat) (z : List (List Value)) (R : Reads W a z.flatten) (hL : z.length = len)
    (F0 : ∀ c ∈ z, FitsAll [.int .i64, .int .i64, .int .i64, .int .i64, .int .i64, .int .i64, .int .i64, .int .i64] c) (Y : len * 64 ≤ 140737488351232) :
    cl Try.prog 5 #[.slice a len cap] W fun v w' => v = .bool true ∧ Ext no W w' := by
  obtain ⟨es, hz, hl, hI⟩ := ents_of rfl F0
  rw [hz] at R
  rw [hL] at hl
  clear hz hL F0
  apply F5_calls
  unfold F5
  refine wawake_k fun w2 hx2 => asB_i rfl ?_
  refine wnew_k fun w3 F r g hw hx3 hF hr => asP_i rfl ?_
  have hP := Pw.start ((St.start W).to hx2) hx3 hw hF hr
  refine jn_mk (cond_f rfl (asB_i rfl (cond_f rfl (lv_i ?_))))
  refine lp_mk (fun i : Nat => [.int .i64 (i : Int)]) (fun m i w' => m = len - i ∧ i ≤ len ∧ i ≤ 80 ∧ ∃ F S B D, Pw W w' [] F r g S B D (1024 * i) ∧ Good i S) len 0 rfl ⟨rfl, Nat.zero_le _, Nat.zero_le _, F, _, _, _, hP, Good.zero⟩ ?_
  clear hP hw hF hr hx2 hx3 F w2 w3
  rintro _ i w1 ⟨rfl, hi, hi8, F, S, B, D, hP, hG⟩ J hJ
  refine asI_i rfl ?_
  refine jn_of (fun s w' => ∃ b, s = [.bool b] ∧ w' = w1 ∧ (b = true → i < len ∧ i < 80)) ?_ ?_
  · rintro _ _ ⟨b, rfl, rfl, hb⟩
    refine asB_i rfl (cond_split (fun h => ?_) (fun _ => ?_))
    · obtain ⟨hl1, hl2⟩ := hb h
      have he : es[i]? = some es[i] := List.getElem?_eq_getElem (by omega)
      have hIe := hI _ (List.getElem_mem (by omega : i < es.length))
      generalize es[i] = e at he hIe
      refine Reads.atN (f := Ent.cells) Ent.cells_length (Reads.no hP.st.ext R) hl he (by decide) fun a' _ hca => ?_
      rw [Int.toNat_natCast]
      have ei : IntKind.wrap .i64 ((i : Int) + 1) = ((i + 1 : Nat) : Int) := by rw [wr64 (by omega) (by omega)]; omega
      rw [ei]
      refine ld8c hca (hP.spawn (e := e) (by omega) (fun w4 hP _ => ?_) (fun w4 hP _ _ => ?_) (fun w4 F4 j s he0 hf hP => ?_))
      · exact asT_i rfl rfl (asI_i rfl (asI_i rfl (lv_i (hJ (len - (i + 1)) (i + 1) _ (by omega) ⟨rfl, by omega, by omega, F, S, B, D, ⟨hP.st, hP.wd.mono (by omega), hP.fr⟩, hG.mono (by omega)⟩))))
      · exact asT_i rfl rfl (asI_i rfl (asI_i rfl (lv_i (hJ (len - (i + 1)) (i + 1) _ (by omega) ⟨rfl, by omega, by omega, F, S, B, D, ⟨hP.st, hP.wd.mono (by omega), hP.fr⟩, hG.mono (by omega)⟩))))
      · exact asT_i rfl rfl (asI_i rfl (asI_i rfl (lv_i (hJ (len - (i + 1)) (i + 1) _ (by omega) ⟨rfl, by omega, by omega, F4, _, _, _, hP, hG.spawn (by omega) hf.1 he0 hIe⟩))))
    · refine hP.list fun p c w2 LL hP hH => asS_i rfl (lv_i ?_)
      rw [List.append_nil] at hP
      have h64 := hP.wd.ws.len
      have hlen := listS_len S
      have hIS : ∀ e ∈ listS S, e.I := fun e he => by
        obtain ⟨m, s, hs, ht, rfl⟩ := listS_mem he
        exact ((hG m s hs).2.2.2 ht).2.2.2
      refine lp_mk (fun k : Nat => [.int .i64 (k : Int)]) (fun m k w' => m = 64 - k ∧ k ≤ (listS S).length ∧ ∃ F B D, Pw W w' LL F r g S B D (1024 * i + 1024 * k)) 64 0 rfl ⟨rfl, Nat.zero_le _, F, B, D, hP⟩ ?_
      rintro _ k w3 ⟨rfl, hk, F, B, D, hP⟩ J2 hJ2
      refine asI_i rfl (cond_split (fun hc => ?_) (fun _ => ?_))
      · have hkl : k < (listS S).length := by
          have := of_decide_eq_true hc
          omega
        have he : (listS S)[k]? = some (listS S)[k] := List.getElem?_eq_getElem hkl
        have hem := List.getElem_mem hkl
        generalize (listS S)[k] = e at he hem
        obtain ⟨m, s, hs, ht, rfl⟩ := listS_mem hem
        have hat := hG.at hs ht
        obtain ⟨_, _, _, h4⟩ := hG m s hs
        obtain ⟨hR, _, _, hIe⟩ := h4 ht
        have eE : getE S s.e.h = s.e := by unfold getE; rw [hat]; simp only; rw [hs]; try rfl
        have eC : getC S s.e.h = 0 := by unfold getC; rw [hat]; rfl
        have eS : setE S s.e.h s.e = 0 := by unfold setE; rw [hat]; exact hR
        have ei : IntKind.wrap .i64 ((k : Int) + 1) = ((k + 1 : Nat) : Int) := by rw [wr64 (by omega) (by omega)]; omega
        refine Reads.atN (f := Ent.cells) Ent.cells_length (hP.reads hH fun b hb => hb) rfl he (by decide) fun a' _ hca => ?_
        rw [Int.toNat_natCast, ei]
        have hc0 := hca 0 (by decide)
        rw [Sx.add_zero'] at hc0
        refine ld_mk hc0 (asI_i rfl (hP.get fun w4 hP => ?_))
        rw [eE, eC]
        refine asT_i (l := [s.e.v, .int .i64 0]) rfl rfl (asI8 ?_)
        refine asI_i rfl (asI_i rfl (asI_i rfl (asI_i rfl (asI_i rfl (asI_i rfl (asI_i rfl (asI_i rfl (asI_i rfl ?_))))))))
        refine hP.nw (cs := Ent.zero.cells) fun q w5 hP => ?_
        refine hP.st8 rfl s.e fun w6 hP => lv_i ?_
        refine jn_of (fun t w' => t = [.bool false] ∧ ∃ F B D, Pw W w' LL F r g S B D (1024 * i + 1024 * (k + 1))) ?_ ?_
        · rintro _ w7 ⟨rfl, F, B, D, hP⟩
          exact asB_i rfl (cond_f rfl (lv_i (hJ2 (64 - (k + 1)) (k + 1) _ (by omega) ⟨rfl, by omega, F, B, D, hP⟩)))
        · intro J3 hJ3
          refine hP.drew fun hP => cond_f rfl ?_
          refine hP.ld8 0 rfl ?_
          refine Reads.atN (f := Ent.cells) Ent.cells_length (hP.reads hH fun b hb => List.mem_cons_of_mem _ hb) rfl he (by decide) fun a1 ha1 hca1 => ?_
          refine ld8c hca1 (eqEnt hIe (cond_f rfl ?_))
          refine hP.st.ld0 0 rfl rfl (asI_i rfl ?_)
          refine hP.ld8 0 rfl (hP.set (by omega) (fun w' _ hbad => absurd eS hbad) ?_)
          intro w7 F7 m' s' _ _ hm' _ _ hs' ht' _ hP
          have : m' = m := by
            rw [hat] at hm'
            cases hm'
            rfl
          subst this
          rw [hs] at hs'
          cases hs'
          have hset : S.set m' ⟨s.gen, s.there, { s.e with h := s.e.h }⟩ = S := by
            apply List.ext_getElem?
            intro j
            by_cases hj : m' = j
            · subst hj
              rw [List.getElem?_set_self (List.getElem?_eq_some_iff.1 hs).1, hs]
            · rw [List.getElem?_set_ne hj]
          rw [hset] at hP
          refine asI_i rfl ?_
          have hR7 := hP.reads hH fun b hb => List.mem_cons_of_mem _ hb
          have hca7 : ∀ k', k' < 8 → w7.cell? (Addr.add (Addr.add a1 (k * 8)) k') = s.e.cells[k']? := by
            have := Reads.atN (f := Ent.cells) Ent.cells_length hR7 rfl he (by decide) (K := fun a2 => ∀ k', k' < 8 → w7.cell? (Addr.add (Addr.add a2 (k * 8)) k') = s.e.cells[k']?) fun a2 _ h2 => h2
            rw [ha1] at this
            unfold dr bnd at this
            exact this.2
          have hQ := hP.tail
          rw [show 1024 * i + 1024 * k + 1024 = 1024 * i + 1024 * (k + 1) from by omega] at hQ
          refine hd8c hca7 (hd8c (e := s.e) (fun k' hk' => ?_) (hJ3 _ _ ⟨rfl, F7, _, _, hQ⟩))
          · have hb := (hP.st.kn _ List.mem_cons_self).1
            rw [add_mk, blk_cell hb, Nat.zero_add]
            simp only [List.getElem?_toArray]
      · refine hP.list fun p' c' w4 LL' hP hH' => asS_i rfl ?_
        refine rsame_k hIS (hP.reads hH fun b hb => List.mem_append_right _ hb) (hP.reads hH' fun b hb => List.mem_append_left _ hb) rfl rfl (by omega) fun w5 hx => asB_i rfl ⟨rfl, hP.st.ext.trans hx⟩
  · intro J2 hJ2
    refine cond_split (fun h1 => hJ2 _ _ ⟨_, rfl, rfl, fun h2 => ?_⟩) (fun _ => hJ2 _ _ ⟨_, rfl, rfl, fun h => by cases h⟩)
    have := of_decide_eq_true h1
    have := of_decide_eq_true h2
    omega
end Go.Proofs.Ytamobmjfdiecbaa

/- The formulas that the evaluator Sx.ev comes to for functions of this seat, each with its linking theorem (by the kernel). Printed by this session's own program (wip/tool/sxgen.py). -/
namespace Go.Proofs.Ytamobmjfdiecbaa
open Go Go.Sx
set_option maxRecDepth 100000

/-! tiltyard/tiltyardlaw18.GridCells -/
def h6 : Hint := (.s .d (.s .d (.s .d (.s .d (.s .d (.s .d (.s .d (.s (.j [(82, 4)] .d .d) (.s (.s .d (.l [(18, 3)] (.s .d (.s (.s (.s (.o (ofL [0, 1, 2, 3, 4, 5, 6, 7, 8, 9] .nil)) .d) .d) .d)))) (.s (.s .d (.l [(19, 3)] (.s .d (.s (.s (.o (ofL [0, 1, 2, 3, 4, 5, 6, 7, 8, 9] .nil)) .d) .d)))) .d))))))))))
set_option linter.unusedVariables false in
def F6 (side : Int) (p_0 : Int) (p_1 : Int) (b_0 : Int) (b_1 : Int) (b_2 : Int) (w : World) (Q : Value → World → Prop) : Prop :=
 (nw w (.cells #[(.int .i64 p_0), (.int .i64 p_1)] 23) fun r1 w2 => (nw w2 (.cells #[(.int .i64 b_0), (.int .i64 b_1), (.int .i64 b_2)] 25) fun r3 w4 => 
(cl Try.prog 22 #[] w4 fun v5 w6 => asB v5 fun b7 => 
(ld w6 (⟨r1, 0, none⟩ : Addr) fun v8 => asI .i64 v8 fun x9 => (ld w6 (Addr.add (⟨r1, 0, none⟩ : Addr) 1) fun v10 => asI .i64 v10 fun x11 => (cl Try.prog 23 #[(.int .i64 side), (.agg #[(.int .i64 x9), (.int .i64 x11)])] w6 fun v12 w13 => asT 2 v12 fun t14 => asC .f64 (t14 0) fun f15 g16 => asI .i64 (t14 1) fun x17 => (lv x17 fun e_18 => 
(ld w13 (⟨r3, 0, none⟩ : Addr) fun v19 => asI .i64 v19 fun x20 => (ld w13 (Addr.add (⟨r3, 0, none⟩ : Addr) 1) fun v21 => asI .i64 v21 fun x22 => (ld w13 (Addr.add (⟨r3, 0, none⟩ : Addr) 2) fun v23 => asI .i64 v23 fun x24 => (cl Try.prog 24 #[(.int .i64 side), (.agg #[(.int .i64 x20), (.int .i64 x22), (.int .i64 x24)])] w13 fun v25 w26 => asT 2 v25 fun t27 => asS (t27 0) fun p28 n29 c30 => asI .i64 (t27 1) fun x31 => (lv x31 fun f_32 => 
(ld w26 (⟨r3, 0, none⟩ : Addr) fun v33 => asI .i64 v33 fun x34 => (ld w26 (Addr.add (⟨r3, 0, none⟩ : Addr) 1) fun v35 => asI .i64 v35 fun x36 => (ld w26 (Addr.add (⟨r3, 0, none⟩ : Addr) 2) fun v37 => asI .i64 v37 fun x38 => (cl Try.prog 24 #[(.int .i64 side), (.agg #[(.int .i64 x34), (.int .i64 x36), (.int .i64 x38)])] w26 fun v39 w40 => asT 2 v39 fun t41 => asS (t41 0) fun p42 n43 c44 => asI .i64 (t41 1) fun x45 => (lv x45 fun __46 => 
(ld w40 (⟨r1, 0, none⟩ : Addr) fun v47 => asI .i64 v47 fun x48 => (ld w40 (Addr.add (⟨r1, 0, none⟩ : Addr) 1) fun v49 => asI .i64 v49 fun x50 => (cl Try.prog 25 #[(.int .i64 side), (.agg #[(.int .i64 x48), (.int .i64 x50)])] w40 fun v51 w52 => asT 2 v51 fun t53 => asA 2 (t53 0) fun a54 => asI .i64 (a54 0) fun x55 => asI .i64 (a54 1) fun x56 => asI .i64 (t53 1) fun x57 => (nw w52 (.cells #[(.int .i64 (0 : Int)), (.int .i64 (0 : Int))] 55) fun r58 w59 => (st w59 (⟨r58, 0, none⟩ : Addr) (.int .i64 x55) fun w60 => (st w60 (Addr.add (⟨r58, 0, none⟩ : Addr) 1) (.int .i64 x56) fun w61 => (lv x57 fun g_62 => 
(ld w61 (⟨r3, 0, none⟩ : Addr) fun v63 => asI .i64 v63 fun x64 => (ld w61 (Addr.add (⟨r3, 0, none⟩ : Addr) 1) fun v65 => asI .i64 v65 fun x66 => (ld w61 (Addr.add (⟨r3, 0, none⟩ : Addr) 2) fun v67 => asI .i64 v67 fun x68 => (cl Try.prog 26 #[(.int .i64 side), (.agg #[(.int .i64 x64), (.int .i64 x66), (.int .i64 x68)])] w61 fun v69 w70 => asT 2 v69 fun t71 => asS (t71 0) fun p72 n73 c74 => asI .i64 (t71 1) fun x75 => (lv x75 fun h_76 => 
(jn (fun s77 w78 => asB (s77.getD 0 undef) fun b88 => (cond b88 
(Q (.bool false) w78) 
(lv (0 : Int) fun i_89 => 
(lp [(.int .i64 i_89)] w78 fun J92 s90 w91 => asI .i64 (s90.getD 0 undef) fun x93 => 
(cond (decide (x93 < (n29 : Int))) 
(dw w91 fun w94 => (dr p28 fun a95 => (bnd x93 n29 (ld w94 (Addr.add a95 (Int.toNat x93 * 1)) fun v96 => asC .f64 v96 fun f97 g98 => (dr p72 fun a99 => (bnd x93 n73 (ld w94 (Addr.add a99 (Int.toNat x93 * 2)) fun v100 => asI .i64 v100 fun x101 => (ld w94 (Addr.add (Addr.add a99 (Int.toNat x93 * 2)) 1) fun v102 => asI .i64 v102 fun x103 => (cl Try.prog 27 #[(.agg #[(.int .i64 x101), (.int .i64 x103)])] w94 fun v104 w105 => asC .f64 v104 fun f106 g107 => (hd w105 (Addr.add a95 (Int.toNat x93 * 1)) (.complex .f64 f97 g98) 
(cond (!((FloatKind.format .f64).order f97 f106 == some .eq && (FloatKind.format .f64).order g98 g107 == some .eq)) 
(Q (.bool false) w105) 
(dr p28 fun a108 => (bnd x93 n29 (st w105 (Addr.add a108 (Int.toNat x93 * 1)) (.complex .f64 4636666922610458624 0) fun w109 => 
(lv (IntKind.wrap .i64 (x93 + (1 : Int))) fun i_110 => (J92 [(.int .i64 i_110)] w109)))))))))))))))) 
(lv (0 : Int) fun i_111 => 
(lp [(.int .i64 i_111)] w91 fun J114 s112 w113 => asI .i64 (s112.getD 0 undef) fun x115 => 
(cond (decide (x115 < (n43 : Int))) 
(dw w113 fun w116 => (dr p42 fun a117 => (bnd x115 n43 (ld w116 (Addr.add a117 (Int.toNat x115 * 1)) fun v118 => asC .f64 v118 fun f119 g120 => (dr p72 fun a121 => (bnd x115 n73 (ld w116 (Addr.add a121 (Int.toNat x115 * 2)) fun v122 => asI .i64 v122 fun x123 => (ld w116 (Addr.add (Addr.add a121 (Int.toNat x115 * 2)) 1) fun v124 => asI .i64 v124 fun x125 => (cl Try.prog 27 #[(.agg #[(.int .i64 x123), (.int .i64 x125)])] w116 fun v126 w127 => asC .f64 v126 fun f128 g129 => (hd w127 (Addr.add a117 (Int.toNat x115 * 1)) (.complex .f64 f119 g120) 
(cond (!((FloatKind.format .f64).order f119 f128 == some .eq && (FloatKind.format .f64).order g120 g129 == some .eq)) 
(Q (.bool false) w127) 
(lv (IntKind.wrap .i64 (x115 + (1 : Int))) fun i_130 => (J114 [(.int .i64 i_130)] w127))))))))))))) 

(Q (.bool true) w113)))))))))
 (fun J79 => (cond (!b7) (J79 [(.bool true)] w70) (ld w70 (⟨r58, 0, none⟩ : Addr) fun v80 => asI .i64 v80 fun x81 => (ld w70 (Addr.add (⟨r58, 0, none⟩ : Addr) 1) fun v82 => asI .i64 v82 fun x83 => (cl Try.prog 27 #[(.agg #[(.int .i64 x81), (.int .i64 x83)])] w70 fun v84 w85 => asC .f64 v84 fun f86 g87 => (cond (!((FloatKind.format .f64).order f15 f86 == some .eq && (FloatKind.format .f64).order g16 g87 == some .eq)) (J79 [(.bool true)] w85) (cond (e_18 != g_62) (J79 [(.bool true)] w85) (cond (f_32 != h_76) (J79 [(.bool true)] w85) (cond ((n29 : Int) != (n73 : Int)) (J79 [(.bool true)] w85) (J79 [(.bool ((n43 : Int) != (n73 : Int)))] w85))))))))))))))))))))))))))))))))))))))))
theorem F6_link (side : Int) (p_0 : Int) (p_1 : Int) (b_0 : Int) (b_1 : Int) (b_2 : Int) (w : World) (Q : Value → World → Prop) : fnEv Try.prog Try.f6 h6 [(.int .i64 side), (.agg #[(.int .i64 p_0), (.int .i64 p_1)]), (.agg #[(.int .i64 b_0), (.int .i64 b_1), (.int .i64 b_2)])] w Q = F6 side p_0 p_1 b_0 b_1 b_2 w Q := by kernel_rfl
theorem F6_calls {side : Int} {p_0 : Int} {p_1 : Int} {b_0 : Int} {b_1 : Int} {b_2 : Int} {w : World} {Q : Value → World → Prop} (hF_ : F6 side p_0 p_1 b_0 b_1 b_2 w Q) : cl Try.prog 6 #[(.int .i64 side), (.agg #[(.int .i64 p_0), (.int .i64 p_1)]), (.agg #[(.int .i64 b_0), (.int .i64 b_1), (.int .i64 b_2)])] w Q :=
  calls_of_ev (fn := Try.f6) Try.func6 h6 (args := [(.int .i64 side), (.agg #[(.int .i64 p_0), (.int .i64 p_1)]), (.agg #[(.int .i64 b_0), (.int .i64 b_1), (.int .i64 b_2)])]) (by rw [F6_link]; exact hF_)

/-! tiltyard/tiltyardlaw18.GridMeets -/
def h7 : Hint := (.s .d (.s .d (.s .d (.s .d (.s .d (.s (.j [(54, 4)] .d .d) (.s .d (.s (.s .d (.l [(16, 4), (17, 3)] (.s .d (.s (.s .d (.l [(16, 4), (18, 3)] (.s .d (.j [(16, 4)] (.o (ofL [0, 1, 2, 3, 4, 5, 6, 7, 8, 9, 10, 11, 12] .nil)) .d)))) .d)))) (.s (.j [(88, 4)] .d .d) (.s .d (.s (.s .d (.l [(20, 3)] (.s .d (.s (.s .d (.s (.j [(109, 4)] .d .d) (.s .d (.s .d (.j [(133, 4)] .d .d))))) .d)))) .d)))))))))))
set_option linter.unusedVariables false in
def F7 (a_0 : Int) (a_1 : Int) (a_2 : Int) (b_0 : Int) (b_1 : Int) (b_2 : Int) (side : Int) (other : Int) (w : World) (Q : Value → World → Prop) : Prop :=
 (nw w (.cells #[(.int .i64 a_0), (.int .i64 a_1), (.int .i64 a_2)] 25) fun r1 w2 => (nw w2 (.cells #[(.int .i64 b_0), (.int .i64 b_1), (.int .i64 b_2)] 25) fun r3 w4 => 
(cl Try.prog 22 #[] w4 fun v5 w6 => asB v5 fun b7 => 
(ld w6 (⟨r1, 0, none⟩ : Addr) fun v8 => asI .i64 v8 fun x9 => (ld w6 (Addr.add (⟨r1, 0, none⟩ : Addr) 1) fun v10 => asI .i64 v10 fun x11 => (ld w6 (Addr.add (⟨r1, 0, none⟩ : Addr) 2) fun v12 => asI .i64 v12 fun x13 => (cl Try.prog 24 #[(.int .i64 side), (.agg #[(.int .i64 x9), (.int .i64 x11), (.int .i64 x13)])] w6 fun v14 w15 => asT 2 v14 fun t16 => asS (t16 0) fun p17 n18 c19 => asI .i64 (t16 1) fun x20 => (lv x20 fun e_21 => 
(ld w15 (⟨r3, 0, none⟩ : Addr) fun v22 => asI .i64 v22 fun x23 => (ld w15 (Addr.add (⟨r3, 0, none⟩ : Addr) 1) fun v24 => asI .i64 v24 fun x25 => (ld w15 (Addr.add (⟨r3, 0, none⟩ : Addr) 2) fun v26 => asI .i64 v26 fun x27 => (cl Try.prog 24 #[(.int .i64 side), (.agg #[(.int .i64 x23), (.int .i64 x25), (.int .i64 x27)])] w15 fun v28 w29 => asT 2 v28 fun t30 => asS (t30 0) fun p31 n32 c33 => asI .i64 (t30 1) fun x34 => (lv x34 fun f_35 => 
(ld w29 (⟨r1, 0, none⟩ : Addr) fun v36 => asI .i64 v36 fun x37 => (ld w29 (Addr.add (⟨r1, 0, none⟩ : Addr) 1) fun v38 => asI .i64 v38 fun x39 => (ld w29 (Addr.add (⟨r1, 0, none⟩ : Addr) 2) fun v40 => asI .i64 v40 fun x41 => (ld w29 (⟨r3, 0, none⟩ : Addr) fun v42 => asI .i64 v42 fun x43 => (ld w29 (Addr.add (⟨r3, 0, none⟩ : Addr) 1) fun v44 => asI .i64 v44 fun x45 => (ld w29 (Addr.add (⟨r3, 0, none⟩ : Addr) 2) fun v46 => asI .i64 v46 fun x47 => (cl Try.prog 28 #[(.agg #[(.int .i64 x37), (.int .i64 x39), (.int .i64 x41)]), (.agg #[(.int .i64 x43), (.int .i64 x45), (.int .i64 x47)])] w29 fun v48 w49 => asT 2 v48 fun t50 => asB (t50 0) fun b51 => asI .i64 (t50 1) fun x52 => (lv x52 fun g_53 => 
(jn (fun s54 w55 => asB (s54.getD 0 undef) fun b57 => (cond b57 
(Q (.bool b7) w55) 

(lv (0 : Int) fun i_58 => 
(lp [(.bool false), (.int .i64 i_58)] w55 fun J61 s59 w60 => asB (s59.getD 0 undef) fun b62 => asI .i64 (s59.getD 1 undef) fun x63 => 
(cond (decide (x63 < (n18 : Int))) 
(lv (0 : Int) fun k_64 => 
(lp [(.bool b62), (.int .i64 k_64)] w60 fun J67 s65 w66 => asB (s65.getD 0 undef) fun b68 => asI .i64 (s65.getD 1 undef) fun x69 => 
(cond (decide (x69 < (n32 : Int))) 
(jn (fun s70 w71 => asB (s70.getD 0 undef) fun b82 => (lv (IntKind.wrap .i64 (x69 + (1 : Int))) fun k_83 => (J67 [(.bool b82), (.int .i64 k_83)] w71)))
 (fun J72 => (dw w66 fun w73 => (cond b68 (J72 [(.bool true)] w73) (dr p17 fun a74 => (bnd x63 n18 (ld w73 (Addr.add a74 (Int.toNat x63 * 1)) fun v75 => asC .f64 v75 fun f76 g77 => (dr p31 fun a78 => (bnd x69 n32 (ld w73 (Addr.add a78 (Int.toNat x69 * 1)) fun v79 => asC .f64 v79 fun f80 g81 => (J72 [(.bool ((FloatKind.format .f64).order f76 f80 == some .eq && (FloatKind.format .f64).order g77 g81 == some .eq))] w73))))))))))) 
(lv (IntKind.wrap .i64 (x63 + (1 : Int))) fun i_84 => (J61 [(.bool b68), (.int .i64 i_84)] w66))))) 
(jn (fun s85 w86 => asB (s85.getD 0 undef) fun b88 => (cond b88 
(Q (.bool false) w86) 
(nw w86 (.cells #[(.int .i64 side), (.int .i64 other)] 3) fun r89 w90 => 
(lv (0 : Int) fun i_91 => 
(lp [(.int .i64 i_91)] w90 fun J94 s92 w93 => asI .i64 (s92.getD 0 undef) fun x95 => 
(cond (decide (x95 < (2 : Int))) 
(bnd x95 2 (ld w93 (Addr.add (⟨r89, 0, none⟩ : Addr) (Int.toNat x95 * 1)) fun v97 => asI .i64 v97 fun x98 => (cl Try.prog 29 #[(.int .i64 x98)] w93 fun v99 w100 => asT 2 v99 fun t101 => asP (t101 0) fun p102 => asI .i64 (t101 1) fun x103 => (lv x103 fun h_104 => 
(jn (fun s105 w106 => asB (s105.getD 0 undef) fun b108 => (cond b108 
(Q (.bool (x95 == (1 : Int))) w106) 
(ld w106 (⟨r1, 0, none⟩ : Addr) fun v109 => asI .i64 v109 fun x110 => (ld w106 (Addr.add (⟨r1, 0, none⟩ : Addr) 1) fun v111 => asI .i64 v111 fun x112 => (ld w106 (Addr.add (⟨r1, 0, none⟩ : Addr) 2) fun v113 => asI .i64 v113 fun x114 => (cl Try.prog 30 #[(.pointer p102), (.int .i64 (4 : Int)), (.agg #[(.int .i64 x110), (.int .i64 x112), (.int .i64 x114)])] w106 fun v115 w116 => asI .i64 v115 fun x117 => (lv x117 fun p_118 => 
(ld w116 (⟨r3, 0, none⟩ : Addr) fun v119 => asI .i64 v119 fun x120 => (ld w116 (Addr.add (⟨r3, 0, none⟩ : Addr) 1) fun v121 => asI .i64 v121 fun x122 => (ld w116 (Addr.add (⟨r3, 0, none⟩ : Addr) 2) fun v123 => asI .i64 v123 fun x124 => (cl Try.prog 31 #[(.pointer p102), (.agg #[(.int .i64 x120), (.int .i64 x122), (.int .i64 x124)])] w116 fun v125 w126 => asT 2 v125 fun t127 => asS (t127 0) fun p128 n129 c130 => asI .i64 (t127 1) fun x131 => (lv x131 fun q_132 => 
(jn (fun s133 w134 => asB (s133.getD 0 undef) fun b136 => (cond b136 
(Q (.bool false) w134) 
(lv (IntKind.wrap .i64 (x95 + (1 : Int))) fun i_137 => (J94 [(.int .i64 i_137)] w134))))
 (fun J135 => (cond (p_118 == (0 : Int)) (cond (q_132 == (0 : Int)) (J135 [(.bool (!(((n129 : Int) == (1 : Int)) == b51)))] w126) (J135 [(.bool false)] w126)) (J135 [(.bool false)] w126))))))))))))))))
 (fun J107 => (cond (h_104 != (0 : Int)) (J107 [(.bool true)] w100) (J107 [(.bool (Option.isNone p102))] w100)))))))) 

(Q (.bool true) w93)))))))
 (fun J87 => (cond (g_53 != (0 : Int)) (J87 [(.bool true)] w60) (cond b51 (J87 [(.bool (!b62))] w60) (J87 [(.bool false)] w60))))))))))
 (fun J56 => (cond (!b7) (J56 [(.bool true)] w49) (cond (e_21 != (0 : Int)) (J56 [(.bool true)] w49) (J56 [(.bool (f_35 != (0 : Int)))] w49))))))))))))))))))))))))))
theorem F7_link (a_0 : Int) (a_1 : Int) (a_2 : Int) (b_0 : Int) (b_1 : Int) (b_2 : Int) (side : Int) (other : Int) (w : World) (Q : Value → World → Prop) : fnEv Try.prog Try.f7 h7 [(.agg #[(.int .i64 a_0), (.int .i64 a_1), (.int .i64 a_2)]), (.agg #[(.int .i64 b_0), (.int .i64 b_1), (.int .i64 b_2)]), (.int .i64 side), (.int .i64 other)] w Q = F7 a_0 a_1 a_2 b_0 b_1 b_2 side other w Q := by kernel_rfl
theorem F7_calls {a_0 : Int} {a_1 : Int} {a_2 : Int} {b_0 : Int} {b_1 : Int} {b_2 : Int} {side : Int} {other : Int} {w : World} {Q : Value → World → Prop} (hF_ : F7 a_0 a_1 a_2 b_0 b_1 b_2 side other w Q) : cl Try.prog 7 #[(.agg #[(.int .i64 a_0), (.int .i64 a_1), (.int .i64 a_2)]), (.agg #[(.int .i64 b_0), (.int .i64 b_1), (.int .i64 b_2)]), (.int .i64 side), (.int .i64 other)] w Q :=
  calls_of_ev (fn := Try.f7) Try.func7 h7 (args := [(.agg #[(.int .i64 a_0), (.int .i64 a_1), (.int .i64 a_2)]), (.agg #[(.int .i64 b_0), (.int .i64 b_1), (.int .i64 b_2)]), (.int .i64 side), (.int .i64 other)]) (by rw [F7_link]; exact hF_)

/-! tiltyard/tiltyardlaw18.GridShifts -/
def h8 : Hint := (.s .d (.s .d (.s .d (.s .d (.s (.j [(32, 4)] .d .d) (.s .d (.s .d (.j [(6, 4)] .d .d))))))))
set_option linter.unusedVariables false in
def F8 (side : Int) (p_0 : Int) (p_1 : Int) (n : Int) (w : World) (Q : Value → World → Prop) : Prop :=
 (nw w (.cells #[(.int .i64 p_0), (.int .i64 p_1)] 23) fun r1 w2 => 
(cl Try.prog 22 #[] w2 fun v3 w4 => asB v3 fun b5 => 
(lv (Go.bits .and .i64 n (63 : Int)) fun k_6 => 
(ld w4 (⟨r1, 0, none⟩ : Addr) fun v7 => asI .i64 v7 fun x8 => (ld w4 (Addr.add (⟨r1, 0, none⟩ : Addr) 1) fun v9 => asI .i64 v9 fun x10 => (cl Try.prog 23 #[(.int .i64 side), (.agg #[(.int .i64 x8), (.int .i64 x10)])] w4 fun v11 w12 => asT 2 v11 fun t13 => asC .f64 (t13 0) fun f14 g15 => asI .i64 (t13 1) fun x16 => (lv x16 fun e_17 => 
(jn (fun s18 w19 => asB (s18.getD 0 undef) fun b23 => (cond b23 
(Q (.bool b5) w19) 
(ld w19 (⟨r1, 0, none⟩ : Addr) fun v24 => asI .i64 v24 fun x25 => (ld w19 (Addr.add (⟨r1, 0, none⟩ : Addr) 1) fun v26 => asI .i64 v26 fun x27 => (cl Try.prog 23 #[(.int .i64 side), (.agg #[(.int .i64 (IntKind.wrap .i64 (x25 + (IntKind.wrap .i64 (k_6 * side))))), (.int .i64 x27)])] w19 fun v28 w29 => asT 2 v28 fun t30 => asC .f64 (t30 0) fun f31 g32 => asI .i64 (t30 1) fun x33 => (lv x33 fun f_34 => 

(cond (f_34 != (0 : Int)) 
(Q (.bool (f_34 == (40 : Int))) w29) 
(jn (fun s35 w36 => asB (s35.getD 0 undef) fun b39 => (Q (.bool b39) w36))
 (fun J37 => (so ((FloatKind.format .f64).add f14 (FloatKind.nearest .f64 k_6)) fun f38 => (cond (((FloatKind.format .f64).order f31 f38) == some .eq) (J37 [(.bool (((FloatKind.format .f64).order g32 g15) == some .eq))] w29) (J37 [(.bool false)] w29))))))))))))
 (fun J20 => (cond (!b5) (J20 [(.bool true)] w12) (cond (e_17 != (0 : Int)) (J20 [(.bool true)] w12) (ld w12 (⟨r1, 0, none⟩ : Addr) fun v21 => asI .i64 v21 fun x22 => (J20 [(.bool (decide (x22 > (1152921504606846976 : Int))))] w12)))))))))))))
theorem F8_link (side : Int) (p_0 : Int) (p_1 : Int) (n : Int) (w : World) (Q : Value → World → Prop) : fnEv Try.prog Try.f8 h8 [(.int .i64 side), (.agg #[(.int .i64 p_0), (.int .i64 p_1)]), (.int .i64 n)] w Q = F8 side p_0 p_1 n w Q := by kernel_rfl
theorem F8_calls {side : Int} {p_0 : Int} {p_1 : Int} {n : Int} {w : World} {Q : Value → World → Prop} (hF_ : F8 side p_0 p_1 n w Q) : cl Try.prog 8 #[(.int .i64 side), (.agg #[(.int .i64 p_0), (.int .i64 p_1)]), (.int .i64 n)] w Q :=
  calls_of_ev (fn := Try.f8) Try.func8 h8 (args := [(.int .i64 side), (.agg #[(.int .i64 p_0), (.int .i64 p_1)]), (.int .i64 n)]) (by rw [F8_link]; exact hF_)

/-! tiltyard/tiltyardlaw18.GridPlays -/
def h9 : Hint := (.s .d (.s .d (.s .d (.s .d (.s (.j [(36, 4)] .d .d) (.s .d (.s (.s .d (.l [(10, 3)] (.s (.j [(46, 4)] .d .d) (.s (.s .d (.j [(67, 4)] (.o (ofL [0, 1, 2, 3, 5, 6, 7, 8, 9, 4, 10, 11] .nil)) .d)) .d)))) .d)))))))
set_option linter.unusedVariables false in
def F9 (side : Int) (acts : Option Addr) (acts_n acts_c : Nat) (w : World) (Q : Value → World → Prop) : Prop :=
 
(cl Try.prog 22 #[] w fun v1 w2 => asB v1 fun b3 => 
(cl Try.prog 29 #[(.int .i64 side)] w2 fun v4 w5 => asT 2 v4 fun t6 => asP (t6 0) fun p7 => asI .i64 (t6 1) fun x8 => (lv x8 fun e_9 => 
(cl Try.prog 32 #[(.int .i64 side)] w5 fun v10 w11 => asT 2 v10 fun t12 => asP (t12 0) fun p13 => asI .i64 (t12 1) fun x14 => (lv x14 fun f_15 => 
(jn (fun s16 w17 => asB (s16.getD 0 undef) fun b19 => (cond b19 
(Q (.bool false) w17) 

(cond (Option.isNone p7) 
(Q (.bool true) w17) 
(lv (0 : Int) fun i_20 => 
(lp [(.int .i64 i_20)] w17 fun J23 s21 w22 => asI .i64 (s21.getD 0 undef) fun x24 => (jn (fun s25 w26 => asB (s25.getD 0 undef) fun b28 => (cond b28 
(dr acts fun a29 => (bnd x24 acts_n (ld w26 (Addr.add a29 (Int.toNat x24 * 5)) fun v30 => asI .i64 v30 fun x31 => (ld w26 (Addr.add (Addr.add a29 (Int.toNat x24 * 5)) 1) fun v32 => asI .i64 v32 fun x33 => (ld w26 (Addr.add (Addr.add a29 (Int.toNat x24 * 5)) 2) fun v34 => asI .i64 v34 fun x35 => (ld w26 (Addr.add (Addr.add a29 (Int.toNat x24 * 5)) 3) fun v36 => asI .i64 v36 fun x37 => (ld w26 (Addr.add (Addr.add a29 (Int.toNat x24 * 5)) 4) fun v38 => asI .i64 v38 fun x39 => (cl Try.prog 33 #[(.pointer p7), (.pointer p13), (.agg #[(.int .i64 x31), (.int .i64 x33), (.int .i64 x35), (.int .i64 x37), (.int .i64 x39)])] w26 fun v40 w41 => asB v40 fun b42 => 
(jn (fun s43 w44 => asB (s43.getD 0 undef) fun b55 => (cond b55 
(Q (.bool false) w44) 
(lv (IntKind.wrap .i64 (x24 + (1 : Int))) fun i_56 => (J23 [(.int .i64 i_56)] w44))))
 (fun J45 => (dw w41 fun w46 => (cond (!b42) (J45 [(.bool true)] w46) (dr p13 fun a47 => (ld w46 (Addr.add a47 1) fun v48 => asS v48 fun p49 n50 c51 => (cl Try.prog 34 #[(.pointer p7)] w46 fun v52 w53 => asI .i64 v52 fun x54 => (hd w53 (Addr.add a47 1) (.slice p49 n50 c51) (J45 [(.bool (x54 != (n50 : Int)))] w53))))))))))))))))) 

(Q (.bool true) w26)))
 (fun J27 => (cond (decide (x24 < (acts_n : Int))) (J27 [(.bool (decide (x24 < (200 : Int))))] w22) (J27 [(.bool false)] w22)))))))))
 (fun J18 => (cond (!b3) (J18 [(.bool true)] w11) (cond (e_9 != f_15) (J18 [(.bool true)] w11) (J18 [(.bool (!((Option.isNone p7) == (Option.isNone p13))))] w11))))))))))
theorem F9_link (side : Int) (acts : Option Addr) (acts_n acts_c : Nat) (w : World) (Q : Value → World → Prop) : fnEv Try.prog Try.f9 h9 [(.int .i64 side), (.slice acts acts_n acts_c)] w Q = F9 side acts acts_n acts_c w Q := by kernel_rfl
theorem F9_calls {side : Int} {acts : Option Addr} {acts_n acts_c : Nat} {w : World} {Q : Value → World → Prop} (hF_ : F9 side acts acts_n acts_c w Q) : cl Try.prog 9 #[(.int .i64 side), (.slice acts acts_n acts_c)] w Q :=
  calls_of_ev (fn := Try.f9) Try.func9 h9 (args := [(.int .i64 side), (.slice acts acts_n acts_c)]) (by rw [F9_link]; exact hF_)

/-! tiltyard/tiltyardlaw18.GridTurned -/
def h10 : Hint := (.s .d (.s .d (.s .d (.s .d (.s (.j [(48, 4)] .d .d) (.s .d (.s (.s .d (.l [(13, 3)] (.s .d (.j [] .d .d)))) (.j [] (.s .d (.s (.s .d (.s .d (.j [(108, 4)] .d .d))) .d)) (.s .d (.s .d (.s (.j [(139, 4)] .d .d) (.s (.s .d (.l [(23, 3)] (.s .d (.s (.s (.o (ofL [0, 1, 2, 3, 4, 5, 6, 7, 8] .nil)) .d) .d)))) .d))))))))))))
set_option linter.unusedVariables false in
def F10 (side : Int) (l : Option Addr) (l_n l_c : Nat) (b_0 : Int) (b_1 : Int) (b_2 : Int) (w : World) (Q : Value → World → Prop) : Prop :=
 (nw w (.cells #[(.int .i64 b_0), (.int .i64 b_1), (.int .i64 b_2)] 25) fun r1 w2 => 
(cl Try.prog 22 #[] w2 fun v3 w4 => asB v3 fun b5 => 
(cl Try.prog 29 #[(.int .i64 side)] w4 fun v6 w7 => asT 2 v6 fun t8 => asP (t8 0) fun p9 => asI .i64 (t8 1) fun x10 => (lv x10 fun e_11 => 
(cl Try.prog 29 #[(.int .i64 side)] w7 fun v12 w13 => asT 2 v12 fun t14 => asP (t14 0) fun p15 => asI .i64 (t14 1) fun x16 => (lv x16 fun __17 => 
(jn (fun s18 w19 => asB (s18.getD 0 undef) fun b21 => (cond b21 
(Q (.bool b5) w19) 
(lv (if (30 : Int) < (l_n : Int) then (30 : Int) else (l_n : Int)) fun n_22 => 
(lv (0 : Int) fun i_23 => 
(lp [(.int .i64 i_23)] w19 fun J26 s24 w25 => asI .i64 (s24.getD 0 undef) fun x27 => 
(cond (decide (x27 < n_22)) 
(jn (fun s28 w29 => (lv (IntKind.wrap .i64 (x27 + (1 : Int))) fun i_67 => (J26 [(.int .i64 i_67)] w29)))
 (fun J30 => (dr l fun a31 => (bnd x27 l_n (ld w25 (Addr.add a31 (Int.toNat x27 * 3)) fun v32 => asI .i64 v32 fun x33 => (ld w25 (Addr.add (Addr.add a31 (Int.toNat x27 * 3)) 1) fun v34 => asI .i64 v34 fun x35 => (ld w25 (Addr.add (Addr.add a31 (Int.toNat x27 * 3)) 2) fun v36 => asI .i64 v36 fun x37 => (cl Try.prog 30 #[(.pointer p9), (.int .i64 x27), (.agg #[(.int .i64 x33), (.int .i64 x35), (.int .i64 x37)])] w25 fun v38 w39 => asI .i64 v38 fun x40 => 
(lv (IntKind.wrap .i64 ((IntKind.wrap .i64 (n_22 - (1 : Int))) - x27)) fun k_41 => 
(dr l fun a42 => (bnd (0 : Int) l_n (ld w39 (Addr.add a42 (Int.toNat (0 : Int) * 3)) fun v43 => asI .i64 v43 fun x44 => (ld w39 (Addr.add (Addr.add a42 (Int.toNat (0 : Int) * 3)) 1) fun v45 => asI .i64 v45 fun x46 => (ld w39 (Addr.add (Addr.add a42 (Int.toNat (0 : Int) * 3)) 2) fun v47 => asI .i64 v47 fun x48 => (cl Try.prog 30 #[(.pointer p15), (.int .i64 k_41), (.agg #[(.int .i64 x44), (.int .i64 x46), (.int .i64 x48)])] w39 fun v49 w50 => asI .i64 v49 fun x51 => (lv x51 fun f_52 => 

(cond (f_52 == (0 : Int)) (dr l fun a53 => (bnd k_41 l_n (ld w50 (Addr.add a53 (Int.toNat k_41 * 3)) fun v54 => asI .i64 v54 fun x55 => (ld w50 (Addr.add (Addr.add a53 (Int.toNat k_41 * 3)) 1) fun v56 => asI .i64 v56 fun x57 => (ld w50 (Addr.add (Addr.add a53 (Int.toNat k_41 * 3)) 2) fun v58 => asI .i64 v58 fun x59 => (cl Try.prog 35 #[(.pointer p15), (.int .i64 k_41), (.agg #[(.int .i64 x55), (.int .i64 x57), (.int .i64 x59)])] w50 fun v60 w61 => asI .i64 v60 fun x62 => (lv x62 fun f_63 => 

(cond (f_63 != (0 : Int)) (cl Try.prog 36 #[(.pointer p15), (.int .i64 k_41)] w61 fun v64 w65 => asI .i64 v64 fun x66 => (J30 [] w65)) (J30 [] w61))))))))) (J30 [] w50)))))))))))))))))) 
(jn (fun s68 w69 => (ld w69 (⟨r1, 0, none⟩ : Addr) fun v94 => asI .i64 v94 fun x95 => (ld w69 (Addr.add (⟨r1, 0, none⟩ : Addr) 1) fun v96 => asI .i64 v96 fun x97 => (ld w69 (Addr.add (⟨r1, 0, none⟩ : Addr) 2) fun v98 => asI .i64 v98 fun x99 => (cl Try.prog 31 #[(.pointer p9), (.agg #[(.int .i64 x95), (.int .i64 x97), (.int .i64 x99)])] w69 fun v100 w101 => asT 2 v100 fun t102 => asS (t102 0) fun p103 n104 c105 => asI .i64 (t102 1) fun x106 => (lv x106 fun p_107 => 
(ld w101 (⟨r1, 0, none⟩ : Addr) fun v108 => asI .i64 v108 fun x109 => (ld w101 (Addr.add (⟨r1, 0, none⟩ : Addr) 1) fun v110 => asI .i64 v110 fun x111 => (ld w101 (Addr.add (⟨r1, 0, none⟩ : Addr) 2) fun v112 => asI .i64 v112 fun x113 => (cl Try.prog 31 #[(.pointer p15), (.agg #[(.int .i64 x109), (.int .i64 x111), (.int .i64 x113)])] w101 fun v114 w115 => asT 2 v114 fun t116 => asS (t116 0) fun p117 n118 c119 => asI .i64 (t116 1) fun x120 => (lv x120 fun q_121 => 
(jn (fun s122 w123 => asB (s122.getD 0 undef) fun b131 => (cond b131 
(Q (.bool false) w123) 
(lv (0 : Int) fun i_132 => 
(lp [(.int .i64 i_132)] w123 fun J135 s133 w134 => asI .i64 (s133.getD 0 undef) fun x136 => 
(cond (decide (x136 < (n104 : Int))) 
(dw w134 fun w137 => (dr p103 fun a138 => (bnd x136 n104 (ld w137 (Addr.add a138 (Int.toNat x136 * 1)) fun v139 => asI .i64 v139 fun x140 => (dr p117 fun a141 => (bnd x136 n118 (ld w137 (Addr.add a141 (Int.toNat x136 * 1)) fun v142 => asI .i64 v142 fun x143 => 
(cond (x140 != x143) 
(Q (.bool false) w137) 
(lv (IntKind.wrap .i64 (x136 + (1 : Int))) fun i_144 => (J135 [(.int .i64 i_144)] w137)))))))))) 

(Q (.bool true) w134))))))
 (fun J124 => (cond (p_107 != q_121) (J124 [(.bool true)] w115) (cond ((n104 : Int) != (n118 : Int)) (J124 [(.bool true)] w115) (cl Try.prog 34 #[(.pointer p9)] w115 fun v125 w126 => asI .i64 v125 fun x127 => (cl Try.prog 34 #[(.pointer p15)] w126 fun v128 w129 => asI .i64 v128 fun x130 => (J124 [(.bool (x127 != x130))] w129))))))))))))))))))
 (fun J70 => 
(cond (decide (n_22 > (0 : Int))) (cl Try.prog 36 #[(.pointer p9), (.int .i64 n_22)] w25 fun v71 w72 => asI .i64 v71 fun x73 => (lv x73 fun first_74 => 
(dr l fun a75 => (bnd (0 : Int) l_n (ld w72 (Addr.add a75 (Int.toNat (0 : Int) * 3)) fun v76 => asI .i64 v76 fun x77 => (ld w72 (Addr.add (Addr.add a75 (Int.toNat (0 : Int) * 3)) 1) fun v78 => asI .i64 v78 fun x79 => (ld w72 (Addr.add (Addr.add a75 (Int.toNat (0 : Int) * 3)) 2) fun v80 => asI .i64 v80 fun x81 => (cl Try.prog 24 #[(.int .i64 side), (.agg #[(.int .i64 x77), (.int .i64 x79), (.int .i64 x81)])] w72 fun v82 w83 => asT 2 v82 fun t84 => asS (t84 0) fun p85 n86 c87 => asI .i64 (t84 1) fun x88 => (lv x88 fun __89 => 
(jn (fun s90 w91 => asB (s90.getD 0 undef) fun b93 => (cond b93 
(Q (.bool (first_74 == (181 : Int))) w91) (J70 [] w91)))
 (fun J92 => (cond (first_74 != (181 : Int)) (J92 [(.bool true)] w83) (J92 [(.bool ((n86 : Int) == (0 : Int)))] w83))))))))))))) (J70 [] w25))))))))))
 (fun J20 => (cond (!b5) (J20 [(.bool true)] w13) (cond (e_11 != (0 : Int)) (J20 [(.bool true)] w13) (cond (Option.isNone p9) (J20 [(.bool true)] w13) (J20 [(.bool (Option.isNone p15))] w13))))))))))))
theorem F10_link (side : Int) (l : Option Addr) (l_n l_c : Nat) (b_0 : Int) (b_1 : Int) (b_2 : Int) (w : World) (Q : Value → World → Prop) : fnEv Try.prog Try.f10 h10 [(.int .i64 side), (.slice l l_n l_c), (.agg #[(.int .i64 b_0), (.int .i64 b_1), (.int .i64 b_2)])] w Q = F10 side l l_n l_c b_0 b_1 b_2 w Q := by kernel_rfl
theorem F10_calls {side : Int} {l : Option Addr} {l_n l_c : Nat} {b_0 : Int} {b_1 : Int} {b_2 : Int} {w : World} {Q : Value → World → Prop} (hF_ : F10 side l l_n l_c b_0 b_1 b_2 w Q) : cl Try.prog 10 #[(.int .i64 side), (.slice l l_n l_c), (.agg #[(.int .i64 b_0), (.int .i64 b_1), (.int .i64 b_2)])] w Q :=
  calls_of_ev (fn := Try.f10) Try.func10 h10 (args := [(.int .i64 side), (.slice l l_n l_c), (.agg #[(.int .i64 b_0), (.int .i64 b_1), (.int .i64 b_2)])]) (by rw [F10_link]; exact hF_)

/-! tiltyard/tiltyardlaw19.WorldNear -/
def h11 : Hint := (.s .d (.s .d (.s .d (.s (.j [(22, 4)] .d .d) (.s (.s .d (.l [(7, 3)] (.s (.j [(30, 4)] .d .d) .d))) (.s .d (.s (.s .d (.s (.j [(4, 4)] .d .d) .d)) (.s .d (.s .d (.s (.s .d (.l [(11, 3), (12, 3)] (.s .d (.j [(11, 3)] (.s (.o (ofL [0, 1, 2, 3, 4, 5, 6, 7, 8, 9, 10, 11] .nil)) (.s .d (.s .d (.s (.s (.j [(95, 4)] (.o (ofL [0, 1, 2, 3, 4, 5, 6, 7, 8, 9, 10, 11, 12, 13, 14, 15] .nil)) .d) .d) .d)))) .d)))) .d))))))))))
set_option linter.unusedVariables false in
def F11 (l : Option Addr) (l_n l_c : Nat) (b_0 : Int) (b_1 : Int) (b_2 : Int) (w : World) (Q : Value → World → Prop) : Prop :=
 (nw w (.cells #[(.int .i64 b_0), (.int .i64 b_1), (.int .i64 b_2)] 25) fun r1 w2 => 
(cl Try.prog 13 #[] w2 fun v3 w4 => asB v3 fun b5 => 
(cl Try.prog 14 #[] w4 fun v6 w7 => asP v6 fun p8 => 
(jn (fun s9 w10 => asB (s9.getD 0 undef) fun b12 => (cond b12 
(Q (.bool false) w10) 
(lv (0 : Int) fun i_13 => 
(lp [(.int .i64 i_13)] w10 fun J16 s14 w15 => asI .i64 (s14.getD 0 undef) fun x17 => (jn (fun s18 w19 => asB (s18.getD 0 undef) fun b21 => (cond b21 
(dr l fun a22 => (bnd x17 l_n (ld w19 (Addr.add a22 (Int.toNat x17 * 8)) fun v23 => asI .i64 v23 fun x24 => (ld w19 (Addr.add (Addr.add a22 (Int.toNat x17 * 8)) 1) fun v25 => asI .i64 v25 fun x26 => (ld w19 (Addr.add (Addr.add a22 (Int.toNat x17 * 8)) 2) fun v27 => asI .i64 v27 fun x28 => (ld w19 (Addr.add (Addr.add a22 (Int.toNat x17 * 8)) 3) fun v29 => asI .i64 v29 fun x30 => (ld w19 (Addr.add (Addr.add a22 (Int.toNat x17 * 8)) 4) fun v31 => asI .i64 v31 fun x32 => (ld w19 (Addr.add (Addr.add a22 (Int.toNat x17 * 8)) 5) fun v33 => asI .i64 v33 fun x34 => (ld w19 (Addr.add (Addr.add a22 (Int.toNat x17 * 8)) 6) fun v35 => asI .i64 v35 fun x36 => (ld w19 (Addr.add (Addr.add a22 (Int.toNat x17 * 8)) 7) fun v37 => asI .i64 v37 fun x38 => (cl Try.prog 16 #[(.pointer p8), (.agg #[(.int .i64 x24), (.int .i64 x26), (.int .i64 x28), (.int .i64 x30), (.int .i64 x32), (.int .i64 x34), (.int .i64 x36), (.int .i64 x38)])] w19 fun v39 w40 => asT 2 v39 fun t41 => asI .i64 (t41 0) fun x42 => asI .i64 (t41 1) fun x43 => 
(lv (IntKind.wrap .i64 (x17 + (1 : Int))) fun i_44 => (J16 [(.int .i64 i_44)] w40))))))))))))) 
(ld w19 (⟨r1, 0, none⟩ : Addr) fun v45 => asI .i64 v45 fun x46 => (ld w19 (Addr.add (⟨r1, 0, none⟩ : Addr) 1) fun v47 => asI .i64 v47 fun x48 => (ld w19 (Addr.add (⟨r1, 0, none⟩ : Addr) 2) fun v49 => asI .i64 v49 fun x50 => (cl Try.prog 37 #[(.pointer p8), (.agg #[(.int .i64 x46), (.int .i64 x48), (.int .i64 x50)])] w19 fun v51 w52 => asT 2 v51 fun t53 => asS (t53 0) fun p54 n55 c56 => asI .i64 (t53 1) fun x57 => (lv x57 fun e_58 => 

(cond (e_58 != (0 : Int)) (jn (fun s59 w60 => asB (s59.getD 0 undef) fun b71 => (Q (.bool b71) w60))
 (fun J61 => (cond (e_58 == (60 : Int)) (ld w52 (⟨r1, 0, none⟩ : Addr) fun v62 => asI .i64 v62 fun x63 => (ld w52 (Addr.add (⟨r1, 0, none⟩ : Addr) 1) fun v64 => asI .i64 v64 fun x65 => (ld w52 (Addr.add (⟨r1, 0, none⟩ : Addr) 2) fun v66 => asI .i64 v66 fun x67 => (cl Try.prog 38 #[(.agg #[(.int .i64 x63), (.int .i64 x65), (.int .i64 x67)])] w52 fun v68 w69 => asI .i64 v68 fun x70 => (cond (x70 == (60 : Int)) (J61 [(.bool ((n55 : Int) == (0 : Int)))] w69) (J61 [(.bool false)] w69)))))) (J61 [(.bool false)] w52)))) 
(cl Try.prog 19 #[(.pointer p8)] w52 fun v72 w73 => asS v72 fun p74 n75 c76 => 
(lv (0 : Int) fun k_77 => 
(lv (0 : Int) fun i_78 => 
(lp [(.int .i64 k_77), (.int .i64 i_78)] w73 fun J81 s79 w80 => asI .i64 (s79.getD 0 undef) fun x82 => asI .i64 (s79.getD 1 undef) fun x83 => 
(cond (decide (x83 < (n75 : Int))) 
(jn (fun s84 w85 => asI .i64 (s84.getD 0 undef) fun x119 => (lv (IntKind.wrap .i64 (x83 + (1 : Int))) fun i_120 => (J81 [(.int .i64 x119), (.int .i64 i_120)] w85)))
 (fun J86 => (dw w80 fun w87 => (dr p74 fun a88 => (bnd x83 n75 (ld w87 (Addr.add (Addr.add a88 (Int.toNat x83 * 8)) 1) fun v89 => asI .i64 v89 fun x90 => (ld w87 (Addr.add (Addr.add (Addr.add a88 (Int.toNat x83 * 8)) 1) 1) fun v91 => asI .i64 v91 fun x92 => (ld w87 (Addr.add (Addr.add (Addr.add a88 (Int.toNat x83 * 8)) 1) 2) fun v93 => asI .i64 v93 fun x94 => (ld w87 (⟨r1, 0, none⟩ : Addr) fun v95 => asI .i64 v95 fun x96 => (ld w87 (Addr.add (⟨r1, 0, none⟩ : Addr) 1) fun v97 => asI .i64 v97 fun x98 => (ld w87 (Addr.add (⟨r1, 0, none⟩ : Addr) 2) fun v99 => asI .i64 v99 fun x100 => (cl Try.prog 28 #[(.agg #[(.int .i64 x90), (.int .i64 x92), (.int .i64 x94)]), (.agg #[(.int .i64 x96), (.int .i64 x98), (.int .i64 x100)])] w87 fun v101 w102 => asT 2 v101 fun t103 => asB (t103 0) fun b104 => asI .i64 (t103 1) fun x105 => (lv x105 fun f_106 => 

(cond (f_106 != (0 : Int)) 
(Q (.bool false) w102) 

(cond b104 (jn (fun s107 w108 => asB (s107.getD 0 undef) fun b117 => (cond b117 
(Q (.bool false) w108) 
(lv (IntKind.wrap .i64 (x82 + (1 : Int))) fun k_118 => (J86 [(.int .i64 k_118)] w108))))
 (fun J109 => (dw w102 fun w110 => (cond (decide (x82 ≥ (n55 : Int))) (J109 [(.bool true)] w110) (dr p54 fun a111 => (bnd x82 n55 (ld w110 (Addr.add a111 (Int.toNat x82 * 1)) fun v112 => asI .i64 v112 fun x113 => (dr p74 fun a114 => (bnd x83 n75 (ld w110 (Addr.add a114 (Int.toNat x83 * 8)) fun v115 => asI .i64 v115 fun x116 => (J109 [(.bool (x113 != x116))] w110))))))))))) (J86 [(.int .i64 x82)] w102)))))))))))))))) 

(Q (.bool (x82 == (n55 : Int))) w80))))))))))))))
 (fun J20 => (cond (decide (x17 < (l_n : Int))) (J20 [(.bool (decide (x17 < (80 : Int))))] w15) (J20 [(.bool false)] w15))))))))
 (fun J11 => (cond (!b5) (J11 [(.bool true)] w7) (J11 [(.bool (Option.isNone p8))] w7)))))))
theorem F11_link (l : Option Addr) (l_n l_c : Nat) (b_0 : Int) (b_1 : Int) (b_2 : Int) (w : World) (Q : Value → World → Prop) : fnEv Try.prog Try.f11 h11 [(.slice l l_n l_c), (.agg #[(.int .i64 b_0), (.int .i64 b_1), (.int .i64 b_2)])] w Q = F11 l l_n l_c b_0 b_1 b_2 w Q := by kernel_rfl
theorem F11_calls {l : Option Addr} {l_n l_c : Nat} {b_0 : Int} {b_1 : Int} {b_2 : Int} {w : World} {Q : Value → World → Prop} (hF_ : F11 l l_n l_c b_0 b_1 b_2 w Q) : cl Try.prog 11 #[(.slice l l_n l_c), (.agg #[(.int .i64 b_0), (.int .i64 b_1), (.int .i64 b_2)])] w Q :=
  calls_of_ev (fn := Try.f11) Try.func11 h11 (args := [(.slice l l_n l_c), (.agg #[(.int .i64 b_0), (.int .i64 b_1), (.int .i64 b_2)])]) (by rw [F11_link]; exact hF_)

/-! tiltyard/tiltyardlaw19.WorldPlays -/
def h12 : Hint := (.s .d (.s .d (.s .d (.s (.j [(26, 4)] .d .d) (.s (.s .d (.l [(5, 3)] (.s (.j [(34, 4)] .d .d) (.s (.s .d (.s .d (.s .d (.s .d (.s (.s .d (.l [(10, 3)] .d)) (.s .d (.j [(97, 4)] (.o (ofL [0, 1, 2, 3, 4, 5, 6, 7, 8, 9, 10, 11, 12, 13, 14, 15, 17, 18, 19, 20, 21, 16, 22, 23, 24] .nil)) .d))))))) .d)))) .d)))))
set_option linter.unusedVariables false in
def F12 (acts : Option Addr) (acts_n acts_c : Nat) (w : World) (Q : Value → World → Prop) : Prop :=
 
(cl Try.prog 13 #[] w fun v1 w2 => asB v1 fun b3 => 
(cl Try.prog 14 #[] w2 fun v4 w5 => asP v4 fun p6 => (nw w5 (.cells #[(.int .i64 (0 : Int)), (.int .i64 (0 : Int)), (.int .i64 (0 : Int)), (.int .i64 (0 : Int)), (.int .i64 (0 : Int)), (.int .i64 (0 : Int)), (.int .i64 (0 : Int)), (.int .i64 (0 : Int)), (.int .i64 (0 : Int)), (.int .i64 (0 : Int)), (.int .i64 (0 : Int)), (.int .i64 (0 : Int)), (.int .i64 (0 : Int)), (.int .i64 (0 : Int)), (.int .i64 (0 : Int)), (.int .i64 (0 : Int)), (.int .i64 (0 : Int)), (.int .i64 (0 : Int)), (.int .i64 (0 : Int)), (.int .i64 (0 : Int)), (.int .i64 (0 : Int)), (.int .i64 (0 : Int)), (.int .i64 (0 : Int)), (.int .i64 (0 : Int)), (.int .i64 (0 : Int)), (.int .i64 (0 : Int)), (.int .i64 (0 : Int)), (.int .i64 (0 : Int)), (.int .i64 (0 : Int)), (.int .i64 (0 : Int)), (.int .i64 (0 : Int)), (.int .i64 (0 : Int)), (.int .i64 (0 : Int)), (.int .i64 (0 : Int)), (.int .i64 (0 : Int)), (.int .i64 (0 : Int)), (.int .i64 (0 : Int)), (.int .i64 (0 : Int)), (.int .i64 (0 : Int)), (.int .i64 (0 : Int)), (.int .i64 (0 : Int)), (.int .i64 (0 : Int)), (.int .i64 (0 : Int)), (.int .i64 (0 : Int)), (.int .i64 (0 : Int)), (.int .i64 (0 : Int)), (.int .i64 (0 : Int)), (.int .i64 (0 : Int)), (.int .i64 (0 : Int)), (.int .i64 (0 : Int)), (.int .i64 (0 : Int)), (.int .i64 (0 : Int)), (.int .i64 (0 : Int)), (.int .i64 (0 : Int)), (.int .i64 (0 : Int)), (.int .i64 (0 : Int)), (.int .i64 (0 : Int)), (.int .i64 (0 : Int)), (.int .i64 (0 : Int)), (.int .i64 (0 : Int)), (.int .i64 (0 : Int)), (.int .i64 (0 : Int)), (.int .i64 (0 : Int)), (.int .i64 (0 : Int)), (.bool false), (.bool false), (.bool false), (.bool false), (.bool false), (.bool false), (.bool false), (.bool false), (.bool false), (.bool false), (.bool false), (.bool false), (.bool false), (.bool false), (.bool false), (.bool false), (.bool false), (.bool false), (.bool false), (.bool false), (.bool false), (.bool false), (.bool false), (.bool false), (.bool false), (.bool false), (.bool false), (.bool false), (.bool false), (.bool false), (.bool false), (.bool false), (.bool false), (.bool false), (.bool false), (.bool false), (.bool false), (.bool false), (.bool false), (.bool false), (.bool false), (.bool false), (.bool false), (.bool false), (.bool false), (.bool false), (.bool false), (.bool false), (.bool false), (.bool false), (.bool false), (.bool false), (.bool false), (.bool false), (.bool false), (.bool false), (.bool false), (.bool false), (.bool false), (.bool false), (.bool false), (.bool false), (.bool false), (.bool false), (.int .i64 (0 : Int)), (.int .i64 (0 : Int)), (.int .i64 (0 : Int)), (.int .i64 (0 : Int)), (.int .i64 (0 : Int)), (.int .i64 (0 : Int)), (.int .i64 (0 : Int)), (.int .i64 (0 : Int)), (.int .i64 (0 : Int)), (.int .i64 (0 : Int)), (.int .i64 (0 : Int)), (.int .i64 (0 : Int)), (.int .i64 (0 : Int)), (.int .i64 (0 : Int)), (.int .i64 (0 : Int)), (.int .i64 (0 : Int)), (.int .i64 (0 : Int)), (.int .i64 (0 : Int)), (.int .i64 (0 : Int)), (.int .i64 (0 : Int)), (.int .i64 (0 : Int)), (.int .i64 (0 : Int)), (.int .i64 (0 : Int)), (.int .i64 (0 : Int)), (.int .i64 (0 : Int)), (.int .i64 (0 : Int)), (.int .i64 (0 : Int)), (.int .i64 (0 : Int)), (.int .i64 (0 : Int)), (.int .i64 (0 : Int)), (.int .i64 (0 : Int)), (.int .i64 (0 : Int)), (.int .i64 (0 : Int)), (.int .i64 (0 : Int)), (.int .i64 (0 : Int)), (.int .i64 (0 : Int)), (.int .i64 (0 : Int)), (.int .i64 (0 : Int)), (.int .i64 (0 : Int)), (.int .i64 (0 : Int)), (.int .i64 (0 : Int)), (.int .i64 (0 : Int)), (.int .i64 (0 : Int)), (.int .i64 (0 : Int)), (.int .i64 (0 : Int)), (.int .i64 (0 : Int)), (.int .i64 (0 : Int)), (.int .i64 (0 : Int)), (.int .i64 (0 : Int)), (.int .i64 (0 : Int)), (.int .i64 (0 : Int)), (.int .i64 (0 : Int)), (.int .i64 (0 : Int)), (.int .i64 (0 : Int)), (.int .i64 (0 : Int)), (.int .i64 (0 : Int)), (.int .i64 (0 : Int)), (.int .i64 (0 : Int)), (.int .i64 (0 : Int)), (.int .i64 (0 : Int)), (.int .i64 (0 : Int)), (.int .i64 (0 : Int)), (.int .i64 (0 : Int)), (.int .i64 (0 : Int)), (.int .i64 (0 : Int)), (.int .i64 (0 : Int)), (.int .i64 (0 : Int)), (.int .i64 (0 : Int)), (.int .i64 (0 : Int)), (.int .i64 (0 : Int)), (.int .i64 (0 : Int)), (.int .i64 (0 : Int)), (.int .i64 (0 : Int)), (.int .i64 (0 : Int)), (.int .i64 (0 : Int)), (.int .i64 (0 : Int)), (.int .i64 (0 : Int)), (.int .i64 (0 : Int)), (.int .i64 (0 : Int)), (.int .i64 (0 : Int)), (.int .i64 (0 : Int)), (.int .i64 (0 : Int)), (.int .i64 (0 : Int)), (.int .i64 (0 : Int)), (.int .i64 (0 : Int)), (.int .i64 (0 : Int)), (.int .i64 (0 : Int)), (.int .i64 (0 : Int)), (.int .i64 (0 : Int)), (.int .i64 (0 : Int)), (.int .i64 (0 : Int)), (.int .i64 (0 : Int)), (.int .i64 (0 : Int)), (.int .i64 (0 : Int)), (.int .i64 (0 : Int)), (.int .i64 (0 : Int)), (.int .i64 (0 : Int)), (.int .i64 (0 : Int)), (.int .i64 (0 : Int)), (.int .i64 (0 : Int)), (.int .i64 (0 : Int)), (.int .i64 (0 : Int)), (.int .i64 (0 : Int)), (.int .i64 (0 : Int)), (.int .i64 (0 : Int)), (.int .i64 (0 : Int)), (.int .i64 (0 : Int)), (.int .i64 (0 : Int)), (.int .i64 (0 : Int)), (.int .i64 (0 : Int)), (.int .i64 (0 : Int)), (.int .i64 (0 : Int)), (.int .i64 (0 : Int)), (.int .i64 (0 : Int)), (.int .i64 (0 : Int)), (.int .i64 (0 : Int)), (.int .i64 (0 : Int)), (.int .i64 (0 : Int)), (.int .i64 (0 : Int)), (.int .i64 (0 : Int)), (.int .i64 (0 : Int)), (.int .i64 (0 : Int)), (.int .i64 (0 : Int)), (.int .i64 (0 : Int)), (.int .i64 (0 : Int)), (.int .i64 (0 : Int)), (.int .i64 (0 : Int)), (.int .i64 (0 : Int)), (.int .i64 (0 : Int)), (.int .i64 (0 : Int)), (.int .i64 (0 : Int)), (.int .i64 (0 : Int)), (.int .i64 (0 : Int)), (.int .i64 (0 : Int)), (.int .i64 (0 : Int)), (.int .i64 (0 : Int)), (.int .i64 (0 : Int)), (.int .i64 (0 : Int)), (.int .i64 (0 : Int)), (.int .i64 (0 : Int)), (.int .i64 (0 : Int)), (.int .i64 (0 : Int)), (.int .i64 (0 : Int)), (.int .i64 (0 : Int)), (.int .i64 (0 : Int)), (.int .i64 (0 : Int)), (.int .i64 (0 : Int)), (.int .i64 (0 : Int)), (.int .i64 (0 : Int)), (.int .i64 (0 : Int)), (.int .i64 (0 : Int)), (.int .i64 (0 : Int)), (.int .i64 (0 : Int)), (.int .i64 (0 : Int)), (.int .i64 (0 : Int)), (.int .i64 (0 : Int)), (.int .i64 (0 : Int)), (.int .i64 (0 : Int)), (.int .i64 (0 : Int)), (.int .i64 (0 : Int)), (.int .i64 (0 : Int)), (.int .i64 (0 : Int)), (.int .i64 (0 : Int)), (.int .i64 (0 : Int)), (.int .i64 (0 : Int)), (.int .i64 (0 : Int)), (.int .i64 (0 : Int)), (.int .i64 (0 : Int)), (.int .i64 (0 : Int)), (.int .i64 (0 : Int)), (.int .i64 (0 : Int)), (.int .i64 (0 : Int)), (.int .i64 (0 : Int)), (.int .i64 (0 : Int)), (.int .i64 (0 : Int)), (.int .i64 (0 : Int)), (.int .i64 (0 : Int)), (.int .i64 (0 : Int)), (.int .i64 (0 : Int)), (.int .i64 (0 : Int)), (.int .i64 (0 : Int)), (.int .i64 (0 : Int)), (.int .i64 (0 : Int)), (.int .i64 (0 : Int)), (.int .i64 (0 : Int)), (.int .i64 (0 : Int)), (.int .i64 (0 : Int)), (.int .i64 (0 : Int)), (.int .i64 (0 : Int)), (.int .i64 (0 : Int)), (.int .i64 (0 : Int)), (.int .i64 (0 : Int)), (.int .i64 (0 : Int)), (.int .i64 (0 : Int)), (.int .i64 (0 : Int)), (.int .i64 (0 : Int)), (.int .i64 (0 : Int)), (.int .i64 (0 : Int)), (.int .i64 (0 : Int)), (.int .i64 (0 : Int)), (.int .i64 (0 : Int)), (.int .i64 (0 : Int)), (.int .i64 (0 : Int)), (.int .i64 (0 : Int)), (.int .i64 (0 : Int)), (.int .i64 (0 : Int)), (.int .i64 (0 : Int)), (.int .i64 (0 : Int)), (.int .i64 (0 : Int)), (.int .i64 (0 : Int)), (.int .i64 (0 : Int)), (.int .i64 (0 : Int)), (.int .i64 (0 : Int)), (.int .i64 (0 : Int)), (.int .i64 (0 : Int)), (.int .i64 (0 : Int)), (.int .i64 (0 : Int)), (.int .i64 (0 : Int)), (.int .i64 (0 : Int)), (.int .i64 (0 : Int)), (.int .i64 (0 : Int)), (.int .i64 (0 : Int)), (.int .i64 (0 : Int)), (.int .i64 (0 : Int)), (.int .i64 (0 : Int)), (.int .i64 (0 : Int)), (.int .i64 (0 : Int)), (.int .i64 (0 : Int)), (.int .i64 (0 : Int)), (.int .i64 (0 : Int)), (.int .i64 (0 : Int)), (.int .i64 (0 : Int)), (.int .i64 (0 : Int)), (.int .i64 (0 : Int)), (.int .i64 (0 : Int)), (.int .i64 (0 : Int)), (.int .i64 (0 : Int)), (.int .i64 (0 : Int)), (.int .i64 (0 : Int)), (.int .i64 (0 : Int)), (.int .i64 (0 : Int)), (.int .i64 (0 : Int)), (.int .i64 (0 : Int)), (.int .i64 (0 : Int)), (.int .i64 (0 : Int)), (.int .i64 (0 : Int)), (.int .i64 (0 : Int)), (.int .i64 (0 : Int)), (.int .i64 (0 : Int)), (.int .i64 (0 : Int)), (.int .i64 (0 : Int)), (.int .i64 (0 : Int)), (.int .i64 (0 : Int)), (.int .i64 (0 : Int)), (.int .i64 (0 : Int)), (.int .i64 (0 : Int)), (.int .i64 (0 : Int)), (.int .i64 (0 : Int)), (.int .i64 (0 : Int)), (.int .i64 (0 : Int)), (.int .i64 (0 : Int)), (.int .i64 (0 : Int)), (.int .i64 (0 : Int)), (.int .i64 (0 : Int)), (.int .i64 (0 : Int)), (.int .i64 (0 : Int)), (.int .i64 (0 : Int)), (.int .i64 (0 : Int)), (.int .i64 (0 : Int)), (.int .i64 (0 : Int)), (.int .i64 (0 : Int)), (.int .i64 (0 : Int)), (.int .i64 (0 : Int)), (.int .i64 (0 : Int)), (.int .i64 (0 : Int)), (.int .i64 (0 : Int)), (.int .i64 (0 : Int)), (.int .i64 (0 : Int)), (.int .i64 (0 : Int)), (.int .i64 (0 : Int)), (.int .i64 (0 : Int)), (.int .i64 (0 : Int)), (.int .i64 (0 : Int)), (.int .i64 (0 : Int)), (.int .i64 (0 : Int)), (.int .i64 (0 : Int)), (.int .i64 (0 : Int)), (.int .i64 (0 : Int)), (.int .i64 (0 : Int)), (.int .i64 (0 : Int)), (.int .i64 (0 : Int)), (.int .i64 (0 : Int)), (.int .i64 (0 : Int)), (.int .i64 (0 : Int)), (.int .i64 (0 : Int)), (.int .i64 (0 : Int)), (.int .i64 (0 : Int)), (.int .i64 (0 : Int)), (.int .i64 (0 : Int)), (.int .i64 (0 : Int)), (.int .i64 (0 : Int)), (.int .i64 (0 : Int)), (.int .i64 (0 : Int)), (.int .i64 (0 : Int)), (.int .i64 (0 : Int)), (.int .i64 (0 : Int)), (.int .i64 (0 : Int)), (.int .i64 (0 : Int)), (.int .i64 (0 : Int)), (.int .i64 (0 : Int)), (.int .i64 (0 : Int)), (.int .i64 (0 : Int)), (.int .i64 (0 : Int)), (.int .i64 (0 : Int)), (.int .i64 (0 : Int)), (.int .i64 (0 : Int)), (.int .i64 (0 : Int)), (.int .i64 (0 : Int)), (.int .i64 (0 : Int)), (.int .i64 (0 : Int)), (.int .i64 (0 : Int)), (.int .i64 (0 : Int)), (.int .i64 (0 : Int)), (.int .i64 (0 : Int)), (.int .i64 (0 : Int)), (.int .i64 (0 : Int)), (.int .i64 (0 : Int)), (.int .i64 (0 : Int)), (.int .i64 (0 : Int)), (.int .i64 (0 : Int)), (.int .i64 (0 : Int)), (.int .i64 (0 : Int)), (.int .i64 (0 : Int)), (.int .i64 (0 : Int)), (.int .i64 (0 : Int)), (.int .i64 (0 : Int)), (.int .i64 (0 : Int)), (.int .i64 (0 : Int)), (.int .i64 (0 : Int)), (.int .i64 (0 : Int)), (.int .i64 (0 : Int)), (.int .i64 (0 : Int)), (.int .i64 (0 : Int)), (.int .i64 (0 : Int)), (.int .i64 (0 : Int)), (.int .i64 (0 : Int)), (.int .i64 (0 : Int)), (.int .i64 (0 : Int)), (.int .i64 (0 : Int)), (.int .i64 (0 : Int)), (.int .i64 (0 : Int)), (.int .i64 (0 : Int)), (.int .i64 (0 : Int)), (.int .i64 (0 : Int)), (.int .i64 (0 : Int)), (.int .i64 (0 : Int)), (.int .i64 (0 : Int)), (.int .i64 (0 : Int)), (.int .i64 (0 : Int)), (.int .i64 (0 : Int)), (.int .i64 (0 : Int)), (.int .i64 (0 : Int)), (.int .i64 (0 : Int)), (.int .i64 (0 : Int)), (.int .i64 (0 : Int)), (.int .i64 (0 : Int)), (.int .i64 (0 : Int)), (.int .i64 (0 : Int)), (.int .i64 (0 : Int)), (.int .i64 (0 : Int)), (.int .i64 (0 : Int)), (.int .i64 (0 : Int)), (.int .i64 (0 : Int)), (.int .i64 (0 : Int)), (.int .i64 (0 : Int)), (.int .i64 (0 : Int)), (.int .i64 (0 : Int)), (.int .i64 (0 : Int)), (.int .i64 (0 : Int)), (.int .i64 (0 : Int)), (.int .i64 (0 : Int)), (.int .i64 (0 : Int)), (.int .i64 (0 : Int)), (.int .i64 (0 : Int)), (.int .i64 (0 : Int)), (.int .i64 (0 : Int)), (.int .i64 (0 : Int)), (.int .i64 (0 : Int)), (.int .i64 (0 : Int)), (.int .i64 (0 : Int)), (.int .i64 (0 : Int)), (.int .i64 (0 : Int)), (.int .i64 (0 : Int)), (.int .i64 (0 : Int)), (.int .i64 (0 : Int)), (.int .i64 (0 : Int)), (.int .i64 (0 : Int)), (.int .i64 (0 : Int)), (.int .i64 (0 : Int)), (.int .i64 (0 : Int)), (.int .i64 (0 : Int)), (.int .i64 (0 : Int)), (.int .i64 (0 : Int)), (.int .i64 (0 : Int)), (.int .i64 (0 : Int)), (.int .i64 (0 : Int)), (.int .i64 (0 : Int)), (.int .i64 (0 : Int)), (.int .i64 (0 : Int)), (.int .i64 (0 : Int)), (.int .i64 (0 : Int)), (.int .i64 (0 : Int)), (.int .i64 (0 : Int)), (.int .i64 (0 : Int)), (.int .i64 (0 : Int)), (.int .i64 (0 : Int)), (.int .i64 (0 : Int)), (.int .i64 (0 : Int)), (.int .i64 (0 : Int)), (.int .i64 (0 : Int)), (.int .i64 (0 : Int)), (.int .i64 (0 : Int)), (.int .i64 (0 : Int)), (.int .i64 (0 : Int)), (.int .i64 (0 : Int)), (.int .i64 (0 : Int)), (.int .i64 (0 : Int)), (.int .i64 (0 : Int)), (.int .i64 (0 : Int)), (.int .i64 (0 : Int)), (.int .i64 (0 : Int)), (.int .i64 (0 : Int)), (.int .i64 (0 : Int)), (.int .i64 (0 : Int)), (.int .i64 (0 : Int)), (.int .i64 (0 : Int)), (.int .i64 (0 : Int)), (.int .i64 (0 : Int)), (.int .i64 (0 : Int)), (.int .i64 (0 : Int)), (.int .i64 (0 : Int)), (.int .i64 (0 : Int)), (.int .i64 (0 : Int)), (.int .i64 (0 : Int)), (.int .i64 (0 : Int)), (.int .i64 (0 : Int)), (.int .i64 (0 : Int)), (.int .i64 (0 : Int)), (.int .i64 (0 : Int)), (.int .i64 (0 : Int)), (.int .i64 (0 : Int)), (.int .i64 (0 : Int)), (.int .i64 (0 : Int)), (.int .i64 (0 : Int)), (.int .i64 (0 : Int)), (.int .i64 (0 : Int)), (.int .i64 (0 : Int)), (.int .i64 (0 : Int)), (.int .i64 (0 : Int)), (.int .i64 (0 : Int)), (.int .i64 (0 : Int)), (.int .i64 (0 : Int)), (.int .i64 (0 : Int)), (.int .i64 (0 : Int)), (.int .i64 (0 : Int)), (.int .i64 (0 : Int)), (.int .i64 (0 : Int)), (.int .i64 (0 : Int)), (.int .i64 (0 : Int)), (.int .i64 (0 : Int)), (.int .i64 (0 : Int)), (.int .i64 (0 : Int)), (.int .i64 (0 : Int)), (.int .i64 (0 : Int)), (.int .i64 (0 : Int)), (.int .i64 (0 : Int)), (.int .i64 (0 : Int)), (.int .i64 (0 : Int)), (.int .i64 (0 : Int)), (.int .i64 (0 : Int)), (.int .i64 (0 : Int)), (.int .i64 (0 : Int)), (.int .i64 (0 : Int)), (.int .i64 (0 : Int)), (.int .i64 (0 : Int)), (.int .i64 (0 : Int)), (.int .i64 (0 : Int)), (.int .i64 (0 : Int)), (.int .i64 (0 : Int)), (.int .i64 (0 : Int)), (.int .i64 (0 : Int)), (.int .i64 (0 : Int)), (.int .i64 (0 : Int)), (.int .i64 (0 : Int)), (.int .i64 (0 : Int)), (.int .i64 (0 : Int)), (.int .i64 (0 : Int)), (.int .i64 (0 : Int)), (.int .i64 (0 : Int)), (.int .i64 (0 : Int)), (.int .i64 (0 : Int)), (.int .i64 (0 : Int)), (.int .i64 (0 : Int)), (.int .i64 (0 : Int)), (.int .i64 (0 : Int)), (.int .i64 (0 : Int)), (.int .i64 (0 : Int)), (.int .i64 (0 : Int)), (.int .i64 (0 : Int)), (.int .i64 (0 : Int)), (.int .i64 (0 : Int)), (.int .i64 (0 : Int))] 95) fun r7 w8 => (nw w8 (.cells #[(.pointer p6), (.pointer (some (⟨r7, 0, none⟩ : Addr)))] 97) fun r9 w10 => 
(jn (fun s11 w12 => asB (s11.getD 0 undef) fun b16 => (cond b16 
(Q (.bool false) w12) 
(lv (0 : Int) fun i_17 => 
(lp [(.int .i64 i_17)] w12 fun J20 s18 w19 => asI .i64 (s18.getD 0 undef) fun x21 => (jn (fun s22 w23 => asB (s22.getD 0 undef) fun b25 => (cond b25 
(dr acts fun a26 => (bnd x21 acts_n (ld w23 (Addr.add a26 (Int.toNat x21 * 10)) fun v27 => asI .i64 v27 fun x28 => (ld w23 (Addr.add (Addr.add a26 (Int.toNat x21 * 10)) 1) fun v29 => asI .i64 v29 fun x30 => (ld w23 (Addr.add (Addr.add a26 (Int.toNat x21 * 10)) 2) fun v31 => asI .i64 v31 fun x32 => (ld w23 (Addr.add (Addr.add a26 (Int.toNat x21 * 10)) 3) fun v33 => asI .i64 v33 fun x34 => (ld w23 (Addr.add (Addr.add a26 (Int.toNat x21 * 10)) 4) fun v35 => asI .i64 v35 fun x36 => (ld w23 (Addr.add (Addr.add a26 (Int.toNat x21 * 10)) 5) fun v37 => asI .i64 v37 fun x38 => (ld w23 (Addr.add (Addr.add a26 (Int.toNat x21 * 10)) 6) fun v39 => asI .i64 v39 fun x40 => (ld w23 (Addr.add (Addr.add a26 (Int.toNat x21 * 10)) 7) fun v41 => asI .i64 v41 fun x42 => (ld w23 (Addr.add (Addr.add a26 (Int.toNat x21 * 10)) 8) fun v43 => asI .i64 v43 fun x44 => (ld w23 (Addr.add (Addr.add a26 (Int.toNat x21 * 10)) 9) fun v45 => asI .i64 v45 fun x46 => (cl Try.prog 39 #[(.pointer (some (⟨r9, 0, none⟩ : Addr))), (.agg #[(.int .i64 x28), (.int .i64 x30), (.int .i64 x32), (.int .i64 x34), (.int .i64 x36), (.int .i64 x38), (.int .i64 x40), (.int .i64 x42), (.int .i64 x44), (.int .i64 x46)])] w23 fun v47 w48 => asB v47 fun b49 => 
(ld w48 (⟨r9, 0, none⟩ : Addr) fun v50 => asP v50 fun p51 => (cl Try.prog 19 #[(.pointer p51)] w48 fun v52 w53 => asS v52 fun p54 n55 c56 => 
(ld w53 (Addr.add (⟨r9, 0, none⟩ : Addr) 1) fun v57 => asP v57 fun p58 => (cl Try.prog 40 #[(.pointer p58)] w53 fun v59 w60 => asS v59 fun p61 n62 c63 => 
(cl Try.prog 21 #[(.slice p54 n55 c56), (.slice p61 n62 c63)] w60 fun v64 w65 => asB v64 fun b66 => 
(lv (0 : Int) fun k_67 => 
(lp [(.int .i64 k_67)] w65 fun J70 s68 w69 => asI .i64 (s68.getD 0 undef) fun x71 => 
(cond (decide (x71 < (n55 : Int))) 
(dr p54 fun a72 => (bnd x71 n55 (st w69 (Addr.add a72 (Int.toNat x71 * 8)) (.int .i64 (-7 : Int)) fun w73 => (st w73 (Addr.add (Addr.add a72 (Int.toNat x71 * 8)) 1) (.int .i64 (0 : Int)) fun w74 => (st w74 (Addr.add (Addr.add a72 (Int.toNat x71 * 8)) 2) (.int .i64 (0 : Int)) fun w75 => (st w75 (Addr.add (Addr.add a72 (Int.toNat x71 * 8)) 3) (.int .i64 (0 : Int)) fun w76 => (st w76 (Addr.add (Addr.add a72 (Int.toNat x71 * 8)) 4) (.int .i64 (0 : Int)) fun w77 => (st w77 (Addr.add (Addr.add a72 (Int.toNat x71 * 8)) 5) (.int .i64 (0 : Int)) fun w78 => (st w78 (Addr.add (Addr.add a72 (Int.toNat x71 * 8)) 6) (.int .i64 (0 : Int)) fun w79 => (st w79 (Addr.add (Addr.add a72 (Int.toNat x71 * 8)) 7) (.int .i64 (0 : Int)) fun w80 => 
(lv (IntKind.wrap .i64 (x71 + (1 : Int))) fun k_81 => (J70 [(.int .i64 k_81)] w80)))))))))))) 
(ld w69 (⟨r9, 0, none⟩ : Addr) fun v82 => asP v82 fun p83 => (cl Try.prog 19 #[(.pointer p83)] w69 fun v84 w85 => asS v84 fun p86 n87 c88 => (cl Try.prog 21 #[(.slice p86 n87 c88), (.slice p61 n62 c63)] w85 fun v89 w90 => asB v89 fun b91 => 
(jn (fun s92 w93 => asB (s92.getD 0 undef) fun b136 => (cond b136 
(Q (.bool false) w93) 
(lv (IntKind.wrap .i64 (x21 + (1 : Int))) fun i_137 => (J20 [(.int .i64 i_137)] w93))))
 (fun J94 => (dw w90 fun w95 => (cond (!b49) (J94 [(.bool true)] w95) (cond (!b66) (J94 [(.bool true)] w95) (cond (!b91) (J94 [(.bool true)] w95) (dr acts fun a96 => (bnd x21 acts_n (ld w95 (Addr.add (Addr.add a96 (Int.toNat x21 * 10)) 2) fun v97 => asI .i64 v97 fun x98 => (ld w95 (Addr.add (Addr.add (Addr.add a96 (Int.toNat x21 * 10)) 2) 1) fun v99 => asI .i64 v99 fun x100 => (ld w95 (Addr.add (Addr.add (Addr.add a96 (Int.toNat x21 * 10)) 2) 2) fun v101 => asI .i64 v101 fun x102 => (ld w95 (Addr.add (Addr.add (Addr.add a96 (Int.toNat x21 * 10)) 2) 3) fun v103 => asI .i64 v103 fun x104 => (ld w95 (Addr.add (Addr.add (Addr.add a96 (Int.toNat x21 * 10)) 2) 4) fun v105 => asI .i64 v105 fun x106 => (ld w95 (Addr.add (Addr.add (Addr.add a96 (Int.toNat x21 * 10)) 2) 5) fun v107 => asI .i64 v107 fun x108 => (ld w95 (Addr.add (Addr.add (Addr.add a96 (Int.toNat x21 * 10)) 2) 6) fun v109 => asI .i64 v109 fun x110 => (ld w95 (Addr.add (Addr.add (Addr.add a96 (Int.toNat x21 * 10)) 2) 7) fun v111 => asI .i64 v111 fun x112 => (dr acts fun a113 => (bnd x21 acts_n (ld w95 (Addr.add (Addr.add a113 (Int.toNat x21 * 10)) 2) fun v114 => asI .i64 v114 fun x115 => (ld w95 (Addr.add (Addr.add (Addr.add a113 (Int.toNat x21 * 10)) 2) 1) fun v116 => asI .i64 v116 fun x117 => (ld w95 (Addr.add (Addr.add (Addr.add a113 (Int.toNat x21 * 10)) 2) 2) fun v118 => asI .i64 v118 fun x119 => (ld w95 (Addr.add (Addr.add (Addr.add a113 (Int.toNat x21 * 10)) 2) 3) fun v120 => asI .i64 v120 fun x121 => (ld w95 (Addr.add (Addr.add (Addr.add a113 (Int.toNat x21 * 10)) 2) 4) fun v122 => asI .i64 v122 fun x123 => (ld w95 (Addr.add (Addr.add (Addr.add a113 (Int.toNat x21 * 10)) 2) 5) fun v124 => asI .i64 v124 fun x125 => (ld w95 (Addr.add (Addr.add (Addr.add a113 (Int.toNat x21 * 10)) 2) 6) fun v126 => asI .i64 v126 fun x127 => (ld w95 (Addr.add (Addr.add (Addr.add a113 (Int.toNat x21 * 10)) 2) 7) fun v128 => asI .i64 v128 fun x129 => (cl Try.prog 15 #[(.agg #[(.int .i64 x98), (.int .i64 x100), (.int .i64 x102), (.int .i64 x104), (.int .i64 x106), (.int .i64 x108), (.int .i64 x110), (.int .i64 x112)])] w95 fun v130 w131 => asI .i64 v130 fun x132 => (hd w131 (Addr.add (Addr.add a113 (Int.toNat x21 * 10)) 2) (.int .i64 x115) (hd w131 (Addr.add (Addr.add (Addr.add a113 (Int.toNat x21 * 10)) 2) 1) (.int .i64 x117) (hd w131 (Addr.add (Addr.add (Addr.add a113 (Int.toNat x21 * 10)) 2) 2) (.int .i64 x119) (hd w131 (Addr.add (Addr.add (Addr.add a113 (Int.toNat x21 * 10)) 2) 3) (.int .i64 x121) (hd w131 (Addr.add (Addr.add (Addr.add a113 (Int.toNat x21 * 10)) 2) 4) (.int .i64 x123) (hd w131 (Addr.add (Addr.add (Addr.add a113 (Int.toNat x21 * 10)) 2) 5) (.int .i64 x125) (hd w131 (Addr.add (Addr.add (Addr.add a113 (Int.toNat x21 * 10)) 2) 6) (.int .i64 x127) (hd w131 (Addr.add (Addr.add (Addr.add a113 (Int.toNat x21 * 10)) 2) 7) (.int .i64 x129) (cl Try.prog 41 #[(.agg #[(.int .i64 x115), (.int .i64 x117), (.int .i64 x119), (.int .i64 x121), (.int .i64 x123), (.int .i64 x125), (.int .i64 x127), (.int .i64 x129)])] w131 fun v133 w134 => asI .i64 v133 fun x135 => (J94 [(.bool (x132 != x135))] w134))))))))))))))))))))))))))))))))))))))))))))))))))))))))))))) 

(Q (.bool true) w23)))
 (fun J24 => (cond (decide (x21 < (acts_n : Int))) (J24 [(.bool (decide (x21 < (300 : Int))))] w19) (J24 [(.bool false)] w19))))))))
 (fun J13 => (cond (!b3) (J13 [(.bool true)] w10) (ld w10 (⟨r9, 0, none⟩ : Addr) fun v14 => asP v14 fun p15 => (J13 [(.bool (Option.isNone p15))] w10)))))))))
theorem F12_link (acts : Option Addr) (acts_n acts_c : Nat) (w : World) (Q : Value → World → Prop) : fnEv Try.prog Try.f12 h12 [(.slice acts acts_n acts_c)] w Q = F12 acts acts_n acts_c w Q := by kernel_rfl
theorem F12_calls {acts : Option Addr} {acts_n acts_c : Nat} {w : World} {Q : Value → World → Prop} (hF_ : F12 acts acts_n acts_c w Q) : cl Try.prog 12 #[(.slice acts acts_n acts_c)] w Q :=
  calls_of_ev (fn := Try.f12) Try.func12 h12 (args := [(.slice acts acts_n acts_c)]) (by rw [F12_link]; exact hF_)

end Go.Proofs.Ytamobmjfdiecbaa

/- GrL1: the law GridShifts comes out true for every input. Conditions: those of the law's arguments as they are read. -/
namespace Go.Proofs.Ytamobmjfdiecbaa
open Go Go.Sx Go.Fp
attribute [local irreducible] jn lv ld st nw asI asB asP asS asY asM asF asA asT lp rn ru rq cl dw dr bnd bn2 nz nn hd hr so eqW
attribute [local irreducible] callOk

theorem vec_of {z : List Value} (h : FitsAll [.int .i64, .int .i64] z) : ∃ x y : Int, z = [.int .i64 x, .int .i64 y] ∧ I64 x ∧ I64 y := by
  obtain ⟨_, _, rfl, ⟨x0, rfl, h0⟩, _, _, rfl, ⟨x1, rfl, h1⟩, rfl⟩ := h
  exact ⟨x0, x1, rfl, i64_of h0, i64_of h1⟩
theorem bx_of' {z : List Value} (h : FitsAll [.int .i64, .int .i64, .int .i64] z) : ∃ b : Bx, z = b.cells ∧ I64 b.x ∧ I64 b.y ∧ I64 b.r := by
  obtain ⟨_, _, rfl, ⟨x0, rfl, h0⟩, _, _, rfl, ⟨x1, rfl, h1⟩, _, _, rfl, ⟨x2, rfl, h2⟩, rfl⟩ := h
  exact ⟨⟨x0, x1, x2⟩, rfl, i64_of h0, i64_of h1, i64_of h2⟩

theorem and63' (x : Int) : 0 ≤ Go.bits .and .i64 x 63 ∧ Go.bits .and .i64 x 63 ≤ 63 := by
  have h : ∀ a : Nat, a ≤ 63 → 0 ≤ IntKind.wrap .i64 (a : Int) ∧ IntKind.wrap .i64 (a : Int) ≤ 63 := fun a ha => by
    rw [wr64 (by omega) (by omega)]; omega
  simp only [Go.bits]
  refine h _ ?_
  rw [BitVec.toNat_and]
  refine Nat.le_trans Nat.and_le_right ?_
  decide

theorem order_self {a : Int} (h : a.natAbs < 2 ^ 53) : ((FloatKind.format .f64).order (F a) (F a) == some .eq) = true := by
  have : (FloatKind.format .f64).order (F a) (F a) = some (compare a a) := order_F h h
  rw [this, compare_self]
  rfl
where compare_self {a : Int} : compare a a = .eq := by simp

theorem gcellE_zero {s x y : Int} (h : gcellE s x y = 0) : (1 ≤ s ∧ s ≤ 1099511627776) ∧ (-1048576 ≤ x / s ∧ x / s ≤ 1048576) ∧ (-1048576 ≤ y / s ∧ y / s ≤ 1048576) := by
  unfold gcellE at h
  split at h
  · rename_i hs
    split at h
    · rename_i hc
      exact ⟨by simpa [sideOk] using hs, isCell_iff.1 hc⟩
    · cases h
  · cases h

theorem gridShifts_law (W : World) (s : Int) (_hs : (Lit.int .i64 s).wf = true) (z1 : List Value) (F1 : FitsAll [.int .i64, .int .i64] z1) (n : Int) (_hn : (Lit.int .i64 n).wf = true) :
    cl Try.prog 8 #[.int .i64 s, .agg z1.toArray, .int .i64 n] W fun v w' => v = .bool true ∧ Ext no W w' := by
  obtain ⟨x, y, rfl, hx, hy⟩ := vec_of F1
  have hk := and63' n
  generalize hkk : Go.bits .and .i64 n 63 = k at hk
  apply F8_calls
  unfold F8
  have hS := St.start W
  (refine St.nw hS ?_; clear hS; intro r1 _ hS)
  refine gawake_k fun w2 hx2 => asB_i rfl ?_
  replace hS := hS.to hx2
  rw [hkk]
  refine lv_i (hS.ld0 0 rfl rfl (asI_i rfl (hS.ld 0 rfl rfl (asI_i rfl ?_))))
  refine gCell_k hx hy fun w3 hx3 => ?_
  replace hS := hS.to hx3
  refine asT_i (l := [cv (gcellP s x y), .int .i64 (gcellE s x y)]) rfl rfl (asC_i rfl (asI_i rfl (lv_i ?_)))
  refine jn_of (fun t w' => ∃ b, t = [.bool b] ∧ w' = w3 ∧ (b = false → gcellE s x y = 0 ∧ x ≤ 1152921504606846976)) ?_ ?_
  · rintro _ w3 ⟨b, rfl, rfl, hb⟩
    refine asB_i rfl (cond_split (fun _ => ⟨rfl, hS.ext⟩) (fun hf => ?_))
    obtain ⟨h0, h1⟩ := hb hf
    obtain ⟨hs1, hxc, hyc⟩ := gcellE_zero h0
    refine hS.ld0 0 rfl rfl (asI_i rfl (hS.ld 0 rfl rfl (asI_i rfl ?_)))
    have hks : 0 ≤ k * s ∧ k * s ≤ 63 * 1099511627776 := ⟨Int.mul_nonneg hk.1 (by omega), Int.mul_le_mul hk.2 hs1.2 (by omega) (by decide)⟩
    obtain ⟨hx1, hx2⟩ := hx
    rw [wr64 (n := k * s) (by omega) (by omega), wr64 (n := x + k * s) (by omega) (by omega)]
    refine gCell_k (by unfold I64; omega) hy fun w4 hx4 => ?_
    replace hS := hS.to hx4
    refine asT_i (l := [cv (gcellP s (x + k * s) y), .int .i64 (gcellE s (x + k * s) y)]) rfl rfl (asC_i rfl (asI_i rfl (lv_i ?_)))
    have ediv : (x + k * s) / s = x / s + k := Int.add_mul_ediv_right _ _ (by omega)
    refine cond_split (fun h => ?_) (fun h => ?_)
    · refine ⟨?_, hS.ext⟩
      have h' : gcellE s (x + k * s) y ≠ 0 := by simpa using h
      have : gcellE s (x + k * s) y = 40 := by
        unfold gcellE at h' h0 ⊢
        split at h0
        · rename_i hso
          rw [if_pos hso] at h' ⊢
          split at h'
          · exact absurd rfl h'
          · rename_i hc
            rw [if_neg hc]
        · cases h0
      rw [this]
      rfl
    · have h' : gcellE s (x + k * s) y = 0 := by simpa using h
      obtain ⟨_, hxc2, _⟩ := gcellE_zero h'
      have e1 : gcellP s x y = (x / s, y / s) := by unfold gcellP; rw [if_pos h0]
      have e2 : gcellP s (x + k * s) y = (x / s + k, y / s) := by unfold gcellP; rw [if_pos h', ediv]
      rw [e1, e2]
      refine jn_of (fun t w' => t = [.bool true] ∧ w' = w4) ?_ ?_
      · rintro _ w4 ⟨rfl, rfl⟩
        exact asB_i rfl ⟨rfl, hS.ext⟩
      · intro J hJ
        refine F_add (a := x / s) (b := k) (by omega) (by omega) ?_
        refine cond_t (order_self (by omega)) (hJ _ _ ⟨?_, rfl⟩)
        simp only
        rw [order_self (a := y / s) (by omega)]
  · intro J hJ
    refine cond_f rfl (cond_split (fun h => hJ _ _ ⟨_, rfl, rfl, fun h => by cases h⟩) (fun h => ?_))
    refine hS.ld0 0 rfl rfl (asI_i rfl (hJ _ _ ⟨_, rfl, rfl, fun h2 => ⟨by simpa using h, ?_⟩⟩))
    have := of_decide_eq_false h2
    omega
end Go.Proofs.Ytamobmjfdiecbaa

/- GrL5: the law WorldNear comes out true for every input. Conditions: those of the law's arguments as they are read. -/
namespace Go.Proofs.Ytamobmjfdiecbaa
open Go Go.Sx Go.Fp
attribute [local irreducible] jn lv ld st nw asI asB asP asS asY asM asF asA asT lp rn ru rq cl dw dr bnd bn2 nz nn hd hr so eqW
attribute [local irreducible] callOk

theorem right_of {e : Ent} (h : e.rightE = 0) : (-4398046511104 ≤ e.x ∧ e.x ≤ 4398046511104) ∧ (-4398046511104 ≤ e.y ∧ e.y ≤ 4398046511104) ∧ 1 ≤ e.r ∧ e.r ≤ 17179869184 := by
  unfold Ent.rightE at h
  split at h
  · rename_i hb
    simp only [Ent.boxOk, inn, Bool.and_eq_true, decide_eq_true_eq] at hb
    exact ⟨hb.1.1.1, hb.1.1.2, hb.1.2, hb.2⟩
  · cases h
theorem box_right {e : Ent} (h : e.rightE = 0) : e.box.right = true := by
  obtain ⟨h1, h2, h3, h4⟩ := right_of h
  refine right_iff.2 ⟨?_, ?_, ?_⟩ <;> simp only [Ent.box] <;> omega
theorem box_cells {e : Ent} (h : e.rightE = 0) : cellsE wside e.box = 0 := by
  obtain ⟨h1, h2, h3, h4⟩ := right_of h
  have hw : wside = 34359738368 := rfl
  unfold cellsE
  rw [if_pos (by decide), if_pos (box_right h)]
  have hlx : -1048576 ≤ (e.x - e.r) / 34359738368 ∧ (e.x + e.r - 1) / 34359738368 ≤ 1048576 ∧ (e.x - e.r) / 34359738368 ≤ (e.x + e.r - 1) / 34359738368 ∧ (e.x + e.r - 1) / 34359738368 ≤ (e.x - e.r) / 34359738368 + 1 := by omega
  have hly : -1048576 ≤ (e.y - e.r) / 34359738368 ∧ (e.y + e.r - 1) / 34359738368 ≤ 1048576 ∧ (e.y - e.r) / 34359738368 ≤ (e.y + e.r - 1) / 34359738368 ∧ (e.y + e.r - 1) / 34359738368 ≤ (e.y - e.r) / 34359738368 + 1 := by omega
  have hok : (spanOf wside e.box).ok = true := by
    simp only [Span.ok, spanOf, Ent.box, hw, Bool.and_eq_true, isCell_iff]
    omega
  have hwt : ¬ (spanOf wside e.box).wide * (spanOf wside e.box).tall > 1024 := by
    have a1 : 1 ≤ (spanOf wside e.box).wide ∧ (spanOf wside e.box).wide ≤ 2 := by
      simp only [Span.wide, spanOf, Ent.box, hw]
      omega
    have a2 : 1 ≤ (spanOf wside e.box).tall ∧ (spanOf wside e.box).tall ≤ 2 := by
      simp only [Span.tall, spanOf, Ent.box, hw]
      omega
    have : (spanOf wside e.box).wide * (spanOf wside e.box).tall ≤ 2 * 2 := Int.mul_le_mul a1.2 a2.2 (by omega) (by decide)
    omega
  rw [if_pos hok, if_neg hwt]

/-- the grid has just the boxes of those who are there -/
structure Lies (S : List Spot) (B : List (Int × Bx)) (D : List ((Int × Int) × List Int)) : Prop where
  cons : Cons wside B D
  to : ∀ (j : Nat) s, S[j]? = some s → s.there = true → aget B (j : Int) = some s.e.box
  of : ∀ x b, aget B x = some b → ∃ (j : Nat) (s : Spot), x = (j : Int) ∧ S[j]? = some s ∧ s.there = true ∧ s.e.box = b

theorem Lies.zero : Lies (List.replicate 64 Spot.zero) [] [] := by
  refine ⟨Cons.nil _, fun j s h ht => ?_, fun x b h => by simp [aget, afind] at h⟩
  rw [List.getElem?_replicate] at h
  split at h
  · cases h
    cases ht
  · cases h

theorem Lies.spawn {S : List Spot} {B : List (Int × Bx)} {D : List ((Int × Int) × List Int)} (h : Lies S B D) {i : Nat} {s : Spot} (hf : IsFree S i s) {e : Ent} (he : e.rightE = 0) : Lies (S.set i (spn s i e)) (gputB wside B (i : Int) e.box) (gputD wside B D (i : Int) e.box) := by
  have hil := (List.getElem?_eq_some_iff.1 hf.1).1
  have hth : s.there = false := by
    have := hf.2.1
    unfold free at this
    revert this
    cases s.there <;> simp
  have hE : gputE wside B (i : Int) e.box = 0 := by
    unfold gputE
    rw [if_neg (by omega), if_neg, box_cells he]
    intro hsome
    obtain ⟨b, hb⟩ := Option.isSome_iff_exists.1 hsome
    obtain ⟨j, t, h1, h2, h3, _⟩ := h.of _ b hb
    have : j = i := by omega
    subst this
    rw [hf.1] at h2
    cases h2
    rw [hth] at h3
    cases h3
  refine ⟨h.cons.put _ _, fun j t ht hthere => ?_, fun x b hx => ?_⟩
  · rw [get_put]
    by_cases hj : j = i
    · subst hj
      rw [List.getElem?_set_self hil] at ht
      cases ht
      rw [if_pos ⟨hE, rfl⟩]
      rfl
    · rw [List.getElem?_set_ne (fun e => hj e.symm)] at ht
      rw [if_neg (fun hh => hj (by have := hh.2; omega))]
      exact h.to j t ht hthere
  · rw [get_put] at hx
    split at hx
    · rename_i hh
      cases hx
      exact ⟨i, spn s i e, hh.2, List.getElem?_set_self hil, rfl, rfl⟩
    · rename_i hh
      obtain ⟨j, t, h1, h2, h3, h4⟩ := h.of x b hx
      have hj : ¬ i = j := fun e => hh ⟨hE, by omega⟩
      exact ⟨j, t, h1, by rw [List.getElem?_set_ne hj]; exact h2, h3, h4⟩

theorem Lies.keys {S : List Spot} {B : List (Int × Bx)} {D : List ((Int × Int) × List Int)} (h : Lies S B D) (hl : S.length = 64) {b : Bx} (hb : cellsE wside b = 0) (x : Int) : x ∈ (metL B D b (cellsL' wside b)).map (·.1) ↔ ∃ i : Nat, x = (i : Int) ∧ i < 64 ∧ pT S b i = true := by
  rw [h.cons.near hb]
  constructor
  · rintro ⟨a, h1, h2⟩
    obtain ⟨j, s, h3, h4, h5, h6⟩ := h.of x a h1
    have hj := (List.getElem?_eq_some_iff.1 h4).1
    refine ⟨j, h3, by omega, ?_⟩
    have : S.getD j Spot.zero = s := by rw [List.getD_eq_getElem?_getD, h4]; rfl
    unfold pT
    rw [this, h5, h6, h2]
    rfl
  · rintro ⟨j, rfl, hj, hp⟩
    have hs : S[j]? = some (S.getD j Spot.zero) := by
      rw [List.getD_eq_getElem?_getD, List.getElem?_eq_getElem (by omega)]
      rfl
    unfold pT at hp
    simp only [Bool.and_eq_true] at hp
    exact ⟨_, h.to j _ hs hp.2, hp.1⟩

theorem Lies.key_lt {S : List Spot} {B : List (Int × Bx)} {D : List ((Int × Int) × List Int)} (h : Lies S B D) (hl : S.length = 64) {b : Bx} : ∀ x ∈ metL B D b (cellsL' wside b), I64 x.1 := by
  intro x hx
  obtain ⟨⟨c, _, h2⟩, _⟩ := mem_metL.1 (List.mem_map.2 ⟨x, hx, rfl⟩)
  obtain ⟨a, h3, _⟩ := (h.cons.cell c x.1).1 h2
  obtain ⟨j, s, h4, h5, _⟩ := h.of _ a h3
  have hj := (List.getElem?_eq_some_iff.1 h5).1
  unfold I64
  omega

def qM (b : Bx) (e : Ent) : Bool := (meetV e.box b).1
theorem outW_eq {S : List Spot} (hl : S.length = 64) {b : Bx} (hr : b.right = true) : outW S b = ((listS S).filter (qM b)).map (·.h) := by
  have hS : S = (List.range 64).map fun i => S.getD i Spot.zero := by
    apply List.ext_getElem?
    intro j
    rw [List.getElem?_map]
    by_cases hj : j < 64
    · rw [List.getElem?_range hj, Option.map_some, List.getD_eq_getElem?_getD, List.getElem?_eq_getElem (by omega)]
      rfl
    · rw [List.getElem?_eq_none (by omega), List.getElem?_eq_none (by simp; omega)]
      rfl
  unfold outW listS
  rw [if_pos hr, List.filter_map, List.filter_filter, List.map_map]
  generalize hp : (fun s : Spot => (qM b ∘ fun s => s.e) s && s.there) = p
  have e1 : (S.filter p).map ((fun x => x.h) ∘ fun s => s.e) = (((List.range 64).map fun i => S.getD i Spot.zero).filter p).map ((fun x => x.h) ∘ fun s => s.e) := by rw [← hS]
  rw [e1, List.filter_map, List.map_map]
  subst hp
  rfl

theorem filter_at {α : Type} {q : α → Bool} : ∀ {L : List α} {i : Nat} {e : α}, L[i]? = some e → q e = true → (L.filter q)[((L.take i).filter q).length]? = some e
  | [], i, e, h, _ => by simp at h
  | x :: L, 0, e, h, hq => by
    have : x = e := by simpa using h
    subst this
    simp [List.filter_cons, hq]
  | x :: L, i + 1, e, h, hq => by
    have ih := filter_at (L := L) (i := i) (by simpa using h) hq
    rw [List.take_succ_cons, List.filter_cons, List.filter_cons]
    split
    · simpa using ih
    · exact ih

set_option maxHeartbeats 2000000 in
theorem worldNear_law (W : World) (a : Option Addr) (len cap : Nat) (z : List (List Value)) (R : Reads W a z.flatten) (hL : z.length = len)
    (F0 : ∀ c ∈ z, FitsAll [.int .i64, .int .i64, .int .i64, .int .i64, .int .i64, .int .i64, .int .i64, .int .i64] c) (Y : len * 64 ≤ 140737488351232) (z2 : List Value) (F2 : FitsAll [.int .i64, .int .i64, .int .i64] z2) :
    cl Try.prog 11 #[.slice a len cap, .agg z2.toArray] W fun v w' => v = .bool true ∧ Ext no W w' := by
  obtain ⟨es, hz, hl, hI⟩ := ents_of rfl F0
  rw [hz] at R
  rw [hL] at hl
  clear hz hL F0
  obtain ⟨b, rfl, _⟩ := bx_of' F2
  apply F11_calls
  unfold F11
  have hS := St.start W
  (refine St.nw hS ?_; clear hS; intro r1 _ hS)
  refine wawake_k fun w2 hx2 => asB_i rfl ?_
  refine wnew_k fun w3 F r g hw hx3 hF hr => asP_i rfl ?_
  have hP := Pw.start (hS.to hx2) hx3 hw hF hr
  refine jn_mk (cond_f rfl (asB_i rfl (cond_f rfl (lv_i ?_))))
  refine lp_mk (fun i : Nat => [.int .i64 (i : Int)]) (fun m i w' => m = len - i ∧ i ≤ len ∧ i ≤ 80 ∧ ∃ F S B D, Pw W w' [(r1, b.cells, 25)] F r g S B D (1024 * i) ∧ Good i S ∧ Lies S B D) len 0 rfl ⟨rfl, Nat.zero_le _, Nat.zero_le _, F, _, _, _, hP, Good.zero, Lies.zero⟩ ?_
  clear hP hw hF hr hx2 hx3 F w3
  rintro _ i w1 ⟨rfl, hi, hi8, F, S, B, D, hP, hG, hLi⟩ J hJ
  refine asI_i rfl ?_
  refine jn_of (fun s w' => ∃ b, s = [.bool b] ∧ w' = w1 ∧ (b = true → i < len ∧ i < 80)) ?_ ?_
  rotate_left
  · intro J2 hJ2
    refine cond_split (fun h1 => hJ2 _ _ ⟨_, rfl, rfl, fun h2 => ?_⟩) (fun _ => hJ2 _ _ ⟨_, rfl, rfl, fun h => by cases h⟩)
    have := of_decide_eq_true h1
    have := of_decide_eq_true h2
    omega
  rintro _ _ ⟨b0, rfl, rfl, hb⟩
  refine asB_i rfl (cond_split (fun h => ?_) (fun _ => ?_))
  · obtain ⟨hl1, hl2⟩ := hb h
    have he : es[i]? = some es[i] := List.getElem?_eq_getElem (by omega)
    have hIe := hI _ (List.getElem_mem (by omega : i < es.length))
    generalize es[i] = e at he hIe
    refine Reads.atN (f := Ent.cells) Ent.cells_length (Reads.no hP.st.ext R) hl he (by decide) fun a' _ hca => ?_
    rw [Int.toNat_natCast]
    have ei : IntKind.wrap .i64 ((i : Int) + 1) = ((i + 1 : Nat) : Int) := by rw [wr64 (by omega) (by omega)]; omega
    rw [ei]
    refine ld8c hca (hP.spawn (e := e) (by omega) (fun w4 hP _ => ?_) (fun w4 hP _ _ => ?_) (fun w4 F4 j s he0 hf hP => ?_))
    · exact asT_i rfl rfl (asI_i rfl (asI_i rfl (lv_i (hJ (len - (i + 1)) (i + 1) _ (by omega) ⟨rfl, by omega, by omega, F, S, B, D, ⟨hP.st, hP.wd.mono (by omega), hP.fr⟩, hG.mono (by omega), hLi⟩))))
    · exact asT_i rfl rfl (asI_i rfl (asI_i rfl (lv_i (hJ (len - (i + 1)) (i + 1) _ (by omega) ⟨rfl, by omega, by omega, F, S, B, D, ⟨hP.st, hP.wd.mono (by omega), hP.fr⟩, hG.mono (by omega), hLi⟩))))
    · exact asT_i rfl rfl (asI_i rfl (asI_i rfl (lv_i (hJ (len - (i + 1)) (i + 1) _ (by omega) ⟨rfl, by omega, by omega, F4, _, _, _, hP, hG.spawn (by omega) hf.1 he0 hIe, hLi.spawn hf he0⟩))))
  · have h64 := hP.wd.ws.len
    have hlen := listS_len S
    have hml := metL_len (B := B) (b := b) hP.wd.bd (cellsL' wside b)
    have hcl := cells_len (s := wside) (b := b)
    have hmul : (cellsL' wside b).length * (1024 * i) ≤ 1024 * (1024 * 80) := Nat.mul_le_mul hcl (by omega)
    refine hP.st.ld0 0 rfl rfl (asI_i rfl (hP.st.ld 0 rfl rfl (asI_i rfl (hP.st.ld 0 rfl rfl (asI_i rfl ?_)))))
    refine wnear_k hP.wd (by omega) (b := b) (hLi.key_lt h64) (fun hb0 => hLi.keys h64 hb0) (by omega) fun p c w5 hx5 hrow => ?_
    replace hP := hP.to hx5
    refine asT_i rfl rfl (asS_i rfl (asI_i rfl (lv_i (cond_split (fun he => ?_) (fun he => ?_)))))
    · have hnr : ¬ b.right = true := by
        intro hr
        unfold Bx.rightE at he
        rw [if_pos hr] at he
        cases he
      have h60 : b.rightE = 60 := by unfold Bx.rightE; rw [if_neg hnr]
      have e1 : outW S b = [] := by unfold outW; rw [if_neg hnr]
      rw [e1, h60]
      refine jn_of (fun t w' => t = [.bool true] ∧ Ext no W w') ?_ ?_
      · rintro _ w6 ⟨rfl, hx⟩
        exact asB_i rfl ⟨rfl, hx⟩
      · intro J2 hJ2
        refine cond_t rfl (hP.st.ld0 0 rfl rfl (asI_i rfl (hP.st.ld 0 rfl rfl (asI_i rfl (hP.st.ld 0 rfl rfl (asI_i rfl ?_))))))
        refine right_k (b := b) fun w6 hx6 => asI_i rfl ?_
        rw [h60]
        exact cond_t rfl (hJ2 _ _ ⟨rfl, hP.st.ext.trans hx6⟩)
    · have hr : b.right = true := by
        unfold Bx.rightE at he
        by_cases hr : b.right = true
        · exact hr
        · rw [if_neg hr] at he; cases he
      have eO := outW_eq h64 hr
      have hreads := hrow.reads
      rw [eO] at hreads ⊢
      refine list_k hP.wd.ws fun q c' w6 hx6 hrl => asS_i rfl (lv_i (lv_i ?_))
      replace hP := hP.to hx6
      have hRl := hrl.reads
      have hRn := hreads.ext hx6 fun _ _ h => h
      have hX := hP.st.ext
      have hb1 := (hP.st.kn _ List.mem_cons_self).1
      have hRi : ∀ e ∈ listS S, e.rightE = 0 := fun e he => by
        obtain ⟨m, s, hs, ht, rfl⟩ := listS_mem he
        exact ((hG m s hs).2.2.2 ht).1
      generalize listS S = L at *
      have add2 : ∀ (A : Addr) (n : Nat), Addr.add (Addr.add A 1) n = Addr.add A (1 + n) := fun A n => by simp [Addr.add, Nat.add_assoc]
      have hfl : ∀ j, ((L.take j).filter (qM b)).length ≤ 64 := fun j => by
        have h1 := List.length_filter_le (qM b) (L.take j)
        rw [List.length_take] at h1
        omega
      refine lp_mk (fun j : Nat => [.int .i64 (((L.take j).filter (qM b)).length : Int), .int .i64 (j : Int)]) (fun m j w' => m = L.length - j ∧ j ≤ L.length ∧ Ext no w6 w') L.length 0 rfl ⟨rfl, Nat.zero_le _, Ext.refl _ _⟩ ?_
      rintro _ j w7 ⟨rfl, hj, hx7⟩ J2 hJ2
      refine asI_i rfl (asI_i rfl (cond_split (fun hc => ?_) (fun hc => ?_)))
      · have hjl : j < L.length := by
          have := of_decide_eq_true hc
          omega
        have ej : IntKind.wrap .i64 ((j : Int) + 1) = ((j + 1 : Nat) : Int) := by rw [wr64 (by omega) (by omega)]; omega
        have hLj : L[j]? = some L[j] := List.getElem?_eq_getElem hjl
        have htk : L.take (j + 1) = L.take j ++ [L[j]] := by rw [List.take_add_one, List.getElem?_eq_getElem hjl]; rfl
        have hre := hRi _ (List.getElem_mem hjl)
        generalize L[j] = e at *
        have hfj := hfl j
        have hfe : ((L.take (j + 1)).filter (qM b)).length = ((L.take j).filter (qM b)).length + if qM b e = true then 1 else 0 := by
          rw [htk, List.filter_append, List.length_append, List.filter_cons]
          split <;> rfl
        rw [ej]
        refine jn_of (fun t w' => t = [.int .i64 (((L.take (j + 1)).filter (qM b)).length : Int)] ∧ Ext no w6 w') ?_ ?_
        · rintro _ w8 ⟨rfl, hx8⟩
          exact asI_i rfl (lv_i (hJ2 (L.length - (j + 1)) (j + 1) w8 (by omega) ⟨rfl, hjl, hx8⟩))
        · intro J3 hJ3
          refine dw_mk ?_
          have hxd : Ext no w6 w7.drew := hx7.trans (Ext.drew w7)
          refine Reads.atN (f := Ent.cells) Ent.cells_length (hRl.ext hxd fun _ _ h => h) rfl hLj (by decide) fun a1 _ hca => ?_
          rw [Int.toNat_natCast]
          refine ld_mk (hca 1 (by decide)) (asI_i rfl (ld_mk (by rw [add2]; exact hca 2 (by decide)) (asI_i rfl (ld_mk (by rw [add2]; exact hca 3 (by decide)) (asI_i rfl ?_)))))
          have hS7 := hP.st.to hxd
          refine hS7.ld0 0 rfl rfl (asI_i rfl (hS7.ld 0 rfl rfl (asI_i rfl (hS7.ld 0 rfl rfl (asI_i rfl ?_)))))
          refine meet_k (a := e.box) (b := b) fun w8 hx8 => asT_i rfl rfl (asB_i rfl (asI_i rfl (lv_i ?_)))
          have hx8' := hxd.trans hx8
          have hm2 : (meetV e.box b).2 = 0 := by
            unfold meetV gapV
            rw [if_pos ⟨box_right hre, hr⟩]
          refine cond_f (by show ((meetV e.box b).2 != 0) = false; rw [hm2]; rfl) (cond_split (fun hm => ?_) (fun hm => ?_))
          · have hq : qM b e = true := hm
            rw [hq, if_pos rfl] at hfe
            have hat := filter_at hLj hq
            have hkl := (List.getElem?_eq_some_iff.1 hat).1
            refine jn_of (fun t w' => t = [.bool false] ∧ Ext no w6 w') ?_ ?_
            · rintro _ w9 ⟨rfl, hx9⟩
              refine asB_i rfl (cond_f rfl (lv_i (hJ3 _ _ ⟨?_, hx9⟩)))
              rw [wr64 (by omega) (by omega), hfe]
              rfl
            · intro J4 hJ4
              refine dw_mk ?_
              have hx9 : Ext no w6 w8.drew := hx8'.trans (Ext.drew w8)
              refine cond_f (by simp only [List.length_map, decide_eq_false_iff_not]; omega) ?_
              refine (hRn.ext hx9 fun _ _ h => h).at (i := (((L.take j).filter (qM b)).length : Int)) (v := .int .i64 e.h) (by omega) (by simp [iv, hat]) (asI_i rfl ?_) (by simp [iv])
              refine Reads.atN (f := Ent.cells) Ent.cells_length (hRl.ext hx9 fun _ _ h => h) rfl hLj (by decide) fun a2 _ hca2 => ?_
              have h0 := hca2 0 (by decide)
              rw [Sx.add_zero'] at h0
              refine ld_mk h0 (asI_i rfl (hJ4 _ _ ⟨?_, hx9⟩))
              simp
          · have hq : ¬ qM b e = true := by rw [show qM b e = false from hm]; decide
            rw [if_neg hq] at hfe
            refine hJ3 _ _ ⟨?_, hx8'⟩
            rw [hfe]
            rfl
      · have hjl : j = L.length := by
          have := of_decide_eq_false hc
          omega
        subst hjl
        refine ⟨?_, hX.trans hx7⟩
        rw [List.take_length]
        simp
end Go.Proofs.Ytamobmjfdiecbaa

/- WoR: the document's own world: what is right, where a handle is. Conditions: those of each theorem, on its arguments. -/
namespace Go.Proofs.Ytamobmjfdiecbaa
open Go Go.Sx Go.Fp
attribute [local irreducible] jn lv ld st nw asI asB asP asS asY asM asF asA asT lp rn ru rq cl dw dr bnd bn2 nz nn hd hr so eqW
attribute [local irreducible] callOk

theorem rwithin19_k {n m : Int} (hm : 0 ≤ m ∧ m ≤ 9223372036854775807) {w : World} {K : Value → World → Prop} (hK : K (.bool (inn n m)) w) : cl Try.prog 68 #[.int .i64 n, .int .i64 m] w K := by
  apply F68_calls
  unfold F68
  have e : IntKind.wrap .i64 (0 - m) = -m := by rw [wr64 (by omega) (by omega)]; omega
  rw [e]
  refine jn_mk (cond_split (fun h => asB_i rfl ?_) (fun h => asB_i rfl ?_))
  · have : inn n m = decide (n ≤ m) := by
      have h' : -m ≤ n := of_decide_eq_true h
      unfold inn; rw [decide_eq_true h']; rfl
    rw [← this]; exact hK
  · have : inn n m = false := by
      have h' : ¬ -m ≤ n := of_decide_eq_false h
      unfold inn; rw [decide_eq_false h']; rfl
    rw [← this]; exact hK

theorem rright19_k {e : Ent} {w : World} {K : Value → World → Prop} (hK : ∀ w', Ext no w w' → K (.int .i64 e.rightE) w') : cl Try.prog 41 #[e.v] w K := by
  apply F41_calls
  unfold F41
  have hS := St.start w
  (refine St.nw hS ?_; clear hS; intro r1 _ hS)
  refine lv_i ?_
  repeat (first | (refine dr_i ?_) | (refine asI_i rfl ?_) | (refine asB_i rfl ?_) | (refine asP_i rfl ?_) | (refine asS_i rfl ?_) | (refine asY_i rfl ?_) | (refine asM_i rfl ?_) | (refine asA_i rfl rfl ?_) | (refine asT_i rfl rfl ?_) | (refine lv_i ?_) | (refine St.nw hS ?_; clear hS; intro _ _ hS) | (refine St.dw hS ?_; clear hS; intro _ hS _) | (refine hS.ld0 0 rfl rfl ?_) | (refine hS.ld 0 rfl rfl ?_) | (refine hS.ld0 1 rfl rfl ?_) | (refine hS.ld 1 rfl rfl ?_) | (refine hS.ld0 2 rfl rfl ?_) | (refine hS.ld 2 rfl rfl ?_) | (refine hS.ld0 3 rfl rfl ?_) | (refine hS.ld 3 rfl rfl ?_) | (refine hS.ld0 4 rfl rfl ?_) | (refine hS.ld 4 rfl rfl ?_) | (refine hS.ld0 5 rfl rfl ?_) | (refine hS.ld 5 rfl rfl ?_) | (refine hS.ldd 0 rfl rfl ?_) | (refine hS.ldd 1 rfl rfl ?_) | (refine hS.ldd 2 rfl rfl ?_) | (refine hS.ldd 3 rfl rfl ?_) | (refine hS.ldd 4 rfl rfl ?_) | (refine hS.ldd 5 rfl rfl ?_) | (refine hS.hd0 0 rfl rfl ?_) | (refine hS.hd 0 rfl rfl ?_) | (refine hS.hd0 1 rfl rfl ?_) | (refine hS.hd 1 rfl rfl ?_) | (refine hS.hd0 2 rfl rfl ?_) | (refine hS.hd 2 rfl rfl ?_) | (refine hS.hd0 3 rfl rfl ?_) | (refine hS.hd 3 rfl rfl ?_) | (refine hS.hd0 4 rfl rfl ?_) | (refine hS.hd 4 rfl rfl ?_) | (refine hS.hd0 5 rfl rfl ?_) | (refine hS.hd 5 rfl rfl ?_) | (refine hS.hdd 0 rfl rfl ?_) | (refine hS.hdd 1 rfl rfl ?_) | (refine hS.hdd 2 rfl rfl ?_) | (refine hS.hdd 3 rfl rfl ?_) | (refine hS.hdd 4 rfl rfl ?_) | (refine hS.hdd 5 rfl rfl ?_) | (refine hS.st0 0 rfl rfl rfl ?_; clear hS; intro _ hS) | (refine hS.st 0 rfl rfl rfl ?_; clear hS; intro _ hS) | (refine hS.st0 1 rfl rfl rfl ?_; clear hS; intro _ hS) | (refine hS.st 1 rfl rfl rfl ?_; clear hS; intro _ hS) | (refine hS.st0 2 rfl rfl rfl ?_; clear hS; intro _ hS) | (refine hS.st 2 rfl rfl rfl ?_; clear hS; intro _ hS) | (refine hS.st0 3 rfl rfl rfl ?_; clear hS; intro _ hS) | (refine hS.st 3 rfl rfl rfl ?_; clear hS; intro _ hS) | (refine hS.st0 4 rfl rfl rfl ?_; clear hS; intro _ hS) | (refine hS.st 4 rfl rfl rfl ?_; clear hS; intro _ hS) | (refine hS.st0 5 rfl rfl rfl ?_; clear hS; intro _ hS) | (refine hS.st 5 rfl rfl rfl ?_; clear hS; intro _ hS) | (refine hS.std 0 rfl rfl rfl ?_; clear hS; intro _ hS) | (refine hS.std 1 rfl rfl rfl ?_; clear hS; intro _ hS) | (refine hS.std 2 rfl rfl rfl ?_; clear hS; intro _ hS) | (refine hS.std 3 rfl rfl rfl ?_; clear hS; intro _ hS) | (refine hS.std 4 rfl rfl rfl ?_; clear hS; intro _ hS) | (refine hS.std 5 rfl rfl rfl ?_; clear hS; intro _ hS) | (refine bnd_mk (by decide) (by decide) ?_) | (refine so_i rfl ?_))
  refine rwithin19_k (by decide) ?_
  repeat (first | (refine dr_i ?_) | (refine asI_i rfl ?_) | (refine asB_i rfl ?_) | (refine asP_i rfl ?_) | (refine asS_i rfl ?_) | (refine asY_i rfl ?_) | (refine asM_i rfl ?_) | (refine asA_i rfl rfl ?_) | (refine asT_i rfl rfl ?_) | (refine lv_i ?_) | (refine St.nw hS ?_; clear hS; intro _ _ hS) | (refine St.dw hS ?_; clear hS; intro _ hS _) | (refine hS.ld0 0 rfl rfl ?_) | (refine hS.ld 0 rfl rfl ?_) | (refine hS.ld0 1 rfl rfl ?_) | (refine hS.ld 1 rfl rfl ?_) | (refine hS.ld0 2 rfl rfl ?_) | (refine hS.ld 2 rfl rfl ?_) | (refine hS.ld0 3 rfl rfl ?_) | (refine hS.ld 3 rfl rfl ?_) | (refine hS.ld0 4 rfl rfl ?_) | (refine hS.ld 4 rfl rfl ?_) | (refine hS.ld0 5 rfl rfl ?_) | (refine hS.ld 5 rfl rfl ?_) | (refine hS.ldd 0 rfl rfl ?_) | (refine hS.ldd 1 rfl rfl ?_) | (refine hS.ldd 2 rfl rfl ?_) | (refine hS.ldd 3 rfl rfl ?_) | (refine hS.ldd 4 rfl rfl ?_) | (refine hS.ldd 5 rfl rfl ?_) | (refine hS.hd0 0 rfl rfl ?_) | (refine hS.hd 0 rfl rfl ?_) | (refine hS.hd0 1 rfl rfl ?_) | (refine hS.hd 1 rfl rfl ?_) | (refine hS.hd0 2 rfl rfl ?_) | (refine hS.hd 2 rfl rfl ?_) | (refine hS.hd0 3 rfl rfl ?_) | (refine hS.hd 3 rfl rfl ?_) | (refine hS.hd0 4 rfl rfl ?_) | (refine hS.hd 4 rfl rfl ?_) | (refine hS.hd0 5 rfl rfl ?_) | (refine hS.hd 5 rfl rfl ?_) | (refine hS.hdd 0 rfl rfl ?_) | (refine hS.hdd 1 rfl rfl ?_) | (refine hS.hdd 2 rfl rfl ?_) | (refine hS.hdd 3 rfl rfl ?_) | (refine hS.hdd 4 rfl rfl ?_) | (refine hS.hdd 5 rfl rfl ?_) | (refine hS.st0 0 rfl rfl rfl ?_; clear hS; intro _ hS) | (refine hS.st 0 rfl rfl rfl ?_; clear hS; intro _ hS) | (refine hS.st0 1 rfl rfl rfl ?_; clear hS; intro _ hS) | (refine hS.st 1 rfl rfl rfl ?_; clear hS; intro _ hS) | (refine hS.st0 2 rfl rfl rfl ?_; clear hS; intro _ hS) | (refine hS.st 2 rfl rfl rfl ?_; clear hS; intro _ hS) | (refine hS.st0 3 rfl rfl rfl ?_; clear hS; intro _ hS) | (refine hS.st 3 rfl rfl rfl ?_; clear hS; intro _ hS) | (refine hS.st0 4 rfl rfl rfl ?_; clear hS; intro _ hS) | (refine hS.st 4 rfl rfl rfl ?_; clear hS; intro _ hS) | (refine hS.st0 5 rfl rfl rfl ?_; clear hS; intro _ hS) | (refine hS.st 5 rfl rfl rfl ?_; clear hS; intro _ hS) | (refine hS.std 0 rfl rfl rfl ?_; clear hS; intro _ hS) | (refine hS.std 1 rfl rfl rfl ?_; clear hS; intro _ hS) | (refine hS.std 2 rfl rfl rfl ?_; clear hS; intro _ hS) | (refine hS.std 3 rfl rfl rfl ?_; clear hS; intro _ hS) | (refine hS.std 4 rfl rfl rfl ?_; clear hS; intro _ hS) | (refine hS.std 5 rfl rfl rfl ?_; clear hS; intro _ hS) | (refine bnd_mk (by decide) (by decide) ?_) | (refine so_i rfl ?_))
  refine rwithin19_k (by decide) ?_
  repeat (first | (refine dr_i ?_) | (refine asI_i rfl ?_) | (refine asB_i rfl ?_) | (refine asP_i rfl ?_) | (refine asS_i rfl ?_) | (refine asY_i rfl ?_) | (refine asM_i rfl ?_) | (refine asA_i rfl rfl ?_) | (refine asT_i rfl rfl ?_) | (refine lv_i ?_) | (refine St.nw hS ?_; clear hS; intro _ _ hS) | (refine St.dw hS ?_; clear hS; intro _ hS _) | (refine hS.ld0 0 rfl rfl ?_) | (refine hS.ld 0 rfl rfl ?_) | (refine hS.ld0 1 rfl rfl ?_) | (refine hS.ld 1 rfl rfl ?_) | (refine hS.ld0 2 rfl rfl ?_) | (refine hS.ld 2 rfl rfl ?_) | (refine hS.ld0 3 rfl rfl ?_) | (refine hS.ld 3 rfl rfl ?_) | (refine hS.ld0 4 rfl rfl ?_) | (refine hS.ld 4 rfl rfl ?_) | (refine hS.ld0 5 rfl rfl ?_) | (refine hS.ld 5 rfl rfl ?_) | (refine hS.ldd 0 rfl rfl ?_) | (refine hS.ldd 1 rfl rfl ?_) | (refine hS.ldd 2 rfl rfl ?_) | (refine hS.ldd 3 rfl rfl ?_) | (refine hS.ldd 4 rfl rfl ?_) | (refine hS.ldd 5 rfl rfl ?_) | (refine hS.hd0 0 rfl rfl ?_) | (refine hS.hd 0 rfl rfl ?_) | (refine hS.hd0 1 rfl rfl ?_) | (refine hS.hd 1 rfl rfl ?_) | (refine hS.hd0 2 rfl rfl ?_) | (refine hS.hd 2 rfl rfl ?_) | (refine hS.hd0 3 rfl rfl ?_) | (refine hS.hd 3 rfl rfl ?_) | (refine hS.hd0 4 rfl rfl ?_) | (refine hS.hd 4 rfl rfl ?_) | (refine hS.hd0 5 rfl rfl ?_) | (refine hS.hd 5 rfl rfl ?_) | (refine hS.hdd 0 rfl rfl ?_) | (refine hS.hdd 1 rfl rfl ?_) | (refine hS.hdd 2 rfl rfl ?_) | (refine hS.hdd 3 rfl rfl ?_) | (refine hS.hdd 4 rfl rfl ?_) | (refine hS.hdd 5 rfl rfl ?_) | (refine hS.st0 0 rfl rfl rfl ?_; clear hS; intro _ hS) | (refine hS.st 0 rfl rfl rfl ?_; clear hS; intro _ hS) | (refine hS.st0 1 rfl rfl rfl ?_; clear hS; intro _ hS) | (refine hS.st 1 rfl rfl rfl ?_; clear hS; intro _ hS) | (refine hS.st0 2 rfl rfl rfl ?_; clear hS; intro _ hS) | (refine hS.st 2 rfl rfl rfl ?_; clear hS; intro _ hS) | (refine hS.st0 3 rfl rfl rfl ?_; clear hS; intro _ hS) | (refine hS.st 3 rfl rfl rfl ?_; clear hS; intro _ hS) | (refine hS.st0 4 rfl rfl rfl ?_; clear hS; intro _ hS) | (refine hS.st 4 rfl rfl rfl ?_; clear hS; intro _ hS) | (refine hS.st0 5 rfl rfl rfl ?_; clear hS; intro _ hS) | (refine hS.st 5 rfl rfl rfl ?_; clear hS; intro _ hS) | (refine hS.std 0 rfl rfl rfl ?_; clear hS; intro _ hS) | (refine hS.std 1 rfl rfl rfl ?_; clear hS; intro _ hS) | (refine hS.std 2 rfl rfl rfl ?_; clear hS; intro _ hS) | (refine hS.std 3 rfl rfl rfl ?_; clear hS; intro _ hS) | (refine hS.std 4 rfl rfl rfl ?_; clear hS; intro _ hS) | (refine hS.std 5 rfl rfl rfl ?_; clear hS; intro _ hS) | (refine bnd_mk (by decide) (by decide) ?_) | (refine so_i rfl ?_))
  refine jn_of (fun t w' => t = [.bool (!e.boxOk)] ∧ St w w' [(r1, e.cells, 27)]) ?_ ?_
  · clear hS
    rintro _ w2 ⟨rfl, hS⟩
    refine asB_i rfl (cond_split (fun h => lv_i ?_) (fun h => ?_))
    · have hb : ¬ e.boxOk = true := by simpa using h
      have := hK w2 hS.ext
      unfold Ent.rightE at this
      rw [if_neg hb] at this
      exact this
    have hb : e.boxOk = true := by simpa using h
    repeat (first | (refine dr_i ?_) | (refine asI_i rfl ?_) | (refine asB_i rfl ?_) | (refine asP_i rfl ?_) | (refine asS_i rfl ?_) | (refine asY_i rfl ?_) | (refine asM_i rfl ?_) | (refine asA_i rfl rfl ?_) | (refine asT_i rfl rfl ?_) | (refine lv_i ?_) | (refine St.nw hS ?_; clear hS; intro _ _ hS) | (refine St.dw hS ?_; clear hS; intro _ hS _) | (refine hS.ld0 0 rfl rfl ?_) | (refine hS.ld 0 rfl rfl ?_) | (refine hS.ld0 1 rfl rfl ?_) | (refine hS.ld 1 rfl rfl ?_) | (refine hS.ld0 2 rfl rfl ?_) | (refine hS.ld 2 rfl rfl ?_) | (refine hS.ld0 3 rfl rfl ?_) | (refine hS.ld 3 rfl rfl ?_) | (refine hS.ld0 4 rfl rfl ?_) | (refine hS.ld 4 rfl rfl ?_) | (refine hS.ld0 5 rfl rfl ?_) | (refine hS.ld 5 rfl rfl ?_) | (refine hS.ldd 0 rfl rfl ?_) | (refine hS.ldd 1 rfl rfl ?_) | (refine hS.ldd 2 rfl rfl ?_) | (refine hS.ldd 3 rfl rfl ?_) | (refine hS.ldd 4 rfl rfl ?_) | (refine hS.ldd 5 rfl rfl ?_) | (refine hS.hd0 0 rfl rfl ?_) | (refine hS.hd 0 rfl rfl ?_) | (refine hS.hd0 1 rfl rfl ?_) | (refine hS.hd 1 rfl rfl ?_) | (refine hS.hd0 2 rfl rfl ?_) | (refine hS.hd 2 rfl rfl ?_) | (refine hS.hd0 3 rfl rfl ?_) | (refine hS.hd 3 rfl rfl ?_) | (refine hS.hd0 4 rfl rfl ?_) | (refine hS.hd 4 rfl rfl ?_) | (refine hS.hd0 5 rfl rfl ?_) | (refine hS.hd 5 rfl rfl ?_) | (refine hS.hdd 0 rfl rfl ?_) | (refine hS.hdd 1 rfl rfl ?_) | (refine hS.hdd 2 rfl rfl ?_) | (refine hS.hdd 3 rfl rfl ?_) | (refine hS.hdd 4 rfl rfl ?_) | (refine hS.hdd 5 rfl rfl ?_) | (refine hS.st0 0 rfl rfl rfl ?_; clear hS; intro _ hS) | (refine hS.st 0 rfl rfl rfl ?_; clear hS; intro _ hS) | (refine hS.st0 1 rfl rfl rfl ?_; clear hS; intro _ hS) | (refine hS.st 1 rfl rfl rfl ?_; clear hS; intro _ hS) | (refine hS.st0 2 rfl rfl rfl ?_; clear hS; intro _ hS) | (refine hS.st 2 rfl rfl rfl ?_; clear hS; intro _ hS) | (refine hS.st0 3 rfl rfl rfl ?_; clear hS; intro _ hS) | (refine hS.st 3 rfl rfl rfl ?_; clear hS; intro _ hS) | (refine hS.st0 4 rfl rfl rfl ?_; clear hS; intro _ hS) | (refine hS.st 4 rfl rfl rfl ?_; clear hS; intro _ hS) | (refine hS.st0 5 rfl rfl rfl ?_; clear hS; intro _ hS) | (refine hS.st 5 rfl rfl rfl ?_; clear hS; intro _ hS) | (refine hS.std 0 rfl rfl rfl ?_; clear hS; intro _ hS) | (refine hS.std 1 rfl rfl rfl ?_; clear hS; intro _ hS) | (refine hS.std 2 rfl rfl rfl ?_; clear hS; intro _ hS) | (refine hS.std 3 rfl rfl rfl ?_; clear hS; intro _ hS) | (refine hS.std 4 rfl rfl rfl ?_; clear hS; intro _ hS) | (refine hS.std 5 rfl rfl rfl ?_; clear hS; intro _ hS) | (refine bnd_mk (by decide) (by decide) ?_) | (refine so_i rfl ?_))
    refine rwithin19_k (by decide) ?_
    repeat (first | (refine dr_i ?_) | (refine asI_i rfl ?_) | (refine asB_i rfl ?_) | (refine asP_i rfl ?_) | (refine asS_i rfl ?_) | (refine asY_i rfl ?_) | (refine asM_i rfl ?_) | (refine asA_i rfl rfl ?_) | (refine asT_i rfl rfl ?_) | (refine lv_i ?_) | (refine St.nw hS ?_; clear hS; intro _ _ hS) | (refine St.dw hS ?_; clear hS; intro _ hS _) | (refine hS.ld0 0 rfl rfl ?_) | (refine hS.ld 0 rfl rfl ?_) | (refine hS.ld0 1 rfl rfl ?_) | (refine hS.ld 1 rfl rfl ?_) | (refine hS.ld0 2 rfl rfl ?_) | (refine hS.ld 2 rfl rfl ?_) | (refine hS.ld0 3 rfl rfl ?_) | (refine hS.ld 3 rfl rfl ?_) | (refine hS.ld0 4 rfl rfl ?_) | (refine hS.ld 4 rfl rfl ?_) | (refine hS.ld0 5 rfl rfl ?_) | (refine hS.ld 5 rfl rfl ?_) | (refine hS.ldd 0 rfl rfl ?_) | (refine hS.ldd 1 rfl rfl ?_) | (refine hS.ldd 2 rfl rfl ?_) | (refine hS.ldd 3 rfl rfl ?_) | (refine hS.ldd 4 rfl rfl ?_) | (refine hS.ldd 5 rfl rfl ?_) | (refine hS.hd0 0 rfl rfl ?_) | (refine hS.hd 0 rfl rfl ?_) | (refine hS.hd0 1 rfl rfl ?_) | (refine hS.hd 1 rfl rfl ?_) | (refine hS.hd0 2 rfl rfl ?_) | (refine hS.hd 2 rfl rfl ?_) | (refine hS.hd0 3 rfl rfl ?_) | (refine hS.hd 3 rfl rfl ?_) | (refine hS.hd0 4 rfl rfl ?_) | (refine hS.hd 4 rfl rfl ?_) | (refine hS.hd0 5 rfl rfl ?_) | (refine hS.hd 5 rfl rfl ?_) | (refine hS.hdd 0 rfl rfl ?_) | (refine hS.hdd 1 rfl rfl ?_) | (refine hS.hdd 2 rfl rfl ?_) | (refine hS.hdd 3 rfl rfl ?_) | (refine hS.hdd 4 rfl rfl ?_) | (refine hS.hdd 5 rfl rfl ?_) | (refine hS.st0 0 rfl rfl rfl ?_; clear hS; intro _ hS) | (refine hS.st 0 rfl rfl rfl ?_; clear hS; intro _ hS) | (refine hS.st0 1 rfl rfl rfl ?_; clear hS; intro _ hS) | (refine hS.st 1 rfl rfl rfl ?_; clear hS; intro _ hS) | (refine hS.st0 2 rfl rfl rfl ?_; clear hS; intro _ hS) | (refine hS.st 2 rfl rfl rfl ?_; clear hS; intro _ hS) | (refine hS.st0 3 rfl rfl rfl ?_; clear hS; intro _ hS) | (refine hS.st 3 rfl rfl rfl ?_; clear hS; intro _ hS) | (refine hS.st0 4 rfl rfl rfl ?_; clear hS; intro _ hS) | (refine hS.st 4 rfl rfl rfl ?_; clear hS; intro _ hS) | (refine hS.st0 5 rfl rfl rfl ?_; clear hS; intro _ hS) | (refine hS.st 5 rfl rfl rfl ?_; clear hS; intro _ hS) | (refine hS.std 0 rfl rfl rfl ?_; clear hS; intro _ hS) | (refine hS.std 1 rfl rfl rfl ?_; clear hS; intro _ hS) | (refine hS.std 2 rfl rfl rfl ?_; clear hS; intro _ hS) | (refine hS.std 3 rfl rfl rfl ?_; clear hS; intro _ hS) | (refine hS.std 4 rfl rfl rfl ?_; clear hS; intro _ hS) | (refine hS.std 5 rfl rfl rfl ?_; clear hS; intro _ hS) | (refine bnd_mk (by decide) (by decide) ?_) | (refine so_i rfl ?_))
    refine rwithin19_k (by decide) ?_
    repeat (first | (refine dr_i ?_) | (refine asI_i rfl ?_) | (refine asB_i rfl ?_) | (refine asP_i rfl ?_) | (refine asS_i rfl ?_) | (refine asY_i rfl ?_) | (refine asM_i rfl ?_) | (refine asA_i rfl rfl ?_) | (refine asT_i rfl rfl ?_) | (refine lv_i ?_) | (refine St.nw hS ?_; clear hS; intro _ _ hS) | (refine St.dw hS ?_; clear hS; intro _ hS _) | (refine hS.ld0 0 rfl rfl ?_) | (refine hS.ld 0 rfl rfl ?_) | (refine hS.ld0 1 rfl rfl ?_) | (refine hS.ld 1 rfl rfl ?_) | (refine hS.ld0 2 rfl rfl ?_) | (refine hS.ld 2 rfl rfl ?_) | (refine hS.ld0 3 rfl rfl ?_) | (refine hS.ld 3 rfl rfl ?_) | (refine hS.ld0 4 rfl rfl ?_) | (refine hS.ld 4 rfl rfl ?_) | (refine hS.ld0 5 rfl rfl ?_) | (refine hS.ld 5 rfl rfl ?_) | (refine hS.ldd 0 rfl rfl ?_) | (refine hS.ldd 1 rfl rfl ?_) | (refine hS.ldd 2 rfl rfl ?_) | (refine hS.ldd 3 rfl rfl ?_) | (refine hS.ldd 4 rfl rfl ?_) | (refine hS.ldd 5 rfl rfl ?_) | (refine hS.hd0 0 rfl rfl ?_) | (refine hS.hd 0 rfl rfl ?_) | (refine hS.hd0 1 rfl rfl ?_) | (refine hS.hd 1 rfl rfl ?_) | (refine hS.hd0 2 rfl rfl ?_) | (refine hS.hd 2 rfl rfl ?_) | (refine hS.hd0 3 rfl rfl ?_) | (refine hS.hd 3 rfl rfl ?_) | (refine hS.hd0 4 rfl rfl ?_) | (refine hS.hd 4 rfl rfl ?_) | (refine hS.hd0 5 rfl rfl ?_) | (refine hS.hd 5 rfl rfl ?_) | (refine hS.hdd 0 rfl rfl ?_) | (refine hS.hdd 1 rfl rfl ?_) | (refine hS.hdd 2 rfl rfl ?_) | (refine hS.hdd 3 rfl rfl ?_) | (refine hS.hdd 4 rfl rfl ?_) | (refine hS.hdd 5 rfl rfl ?_) | (refine hS.st0 0 rfl rfl rfl ?_; clear hS; intro _ hS) | (refine hS.st 0 rfl rfl rfl ?_; clear hS; intro _ hS) | (refine hS.st0 1 rfl rfl rfl ?_; clear hS; intro _ hS) | (refine hS.st 1 rfl rfl rfl ?_; clear hS; intro _ hS) | (refine hS.st0 2 rfl rfl rfl ?_; clear hS; intro _ hS) | (refine hS.st 2 rfl rfl rfl ?_; clear hS; intro _ hS) | (refine hS.st0 3 rfl rfl rfl ?_; clear hS; intro _ hS) | (refine hS.st 3 rfl rfl rfl ?_; clear hS; intro _ hS) | (refine hS.st0 4 rfl rfl rfl ?_; clear hS; intro _ hS) | (refine hS.st 4 rfl rfl rfl ?_; clear hS; intro _ hS) | (refine hS.st0 5 rfl rfl rfl ?_; clear hS; intro _ hS) | (refine hS.st 5 rfl rfl rfl ?_; clear hS; intro _ hS) | (refine hS.std 0 rfl rfl rfl ?_; clear hS; intro _ hS) | (refine hS.std 1 rfl rfl rfl ?_; clear hS; intro _ hS) | (refine hS.std 2 rfl rfl rfl ?_; clear hS; intro _ hS) | (refine hS.std 3 rfl rfl rfl ?_; clear hS; intro _ hS) | (refine hS.std 4 rfl rfl rfl ?_; clear hS; intro _ hS) | (refine hS.std 5 rfl rfl rfl ?_; clear hS; intro _ hS) | (refine bnd_mk (by decide) (by decide) ?_) | (refine so_i rfl ?_))
    refine jn_of (fun t w' => t = [.bool (!e.argOk)] ∧ St w w' [(r1, e.cells, 27)]) ?_ ?_
    · clear hS
      rintro _ w3 ⟨rfl, hS⟩
      have := hK w3 hS.ext
      unfold Ent.rightE at this
      rw [if_pos hb] at this
      refine asB_i rfl (cond_split (fun h => lv_i ?_) (fun h => lv_i ?_))
      · rw [if_neg (by simpa using h)] at this
        exact this
      · rw [if_pos (by simpa using h)] at this
        exact this
    · intro J hJ
      refine cond_split (fun h => hJ _ _ ⟨?_, hS⟩) (fun h1 => cond_split (fun h => hJ _ _ ⟨?_, hS⟩) (fun h2 => ?_))
      · have : inn e.vx 17179869184 = false := by simpa using h
        unfold Ent.argOk; rw [this]; rfl
      · have : inn e.vy 17179869184 = false := by simpa using h
        have h1' : inn e.vx 17179869184 = true := by simpa using h1
        unfold Ent.argOk; rw [this, h1']; rfl
      have h1' : inn e.vx 17179869184 = true := by simpa using h1
      have h2' : inn e.vy 17179869184 = true := by simpa using h2
      repeat (first | (refine dr_i ?_) | (refine asI_i rfl ?_) | (refine asB_i rfl ?_) | (refine asP_i rfl ?_) | (refine asS_i rfl ?_) | (refine asY_i rfl ?_) | (refine asM_i rfl ?_) | (refine asA_i rfl rfl ?_) | (refine asT_i rfl rfl ?_) | (refine lv_i ?_) | (refine St.nw hS ?_; clear hS; intro _ _ hS) | (refine St.dw hS ?_; clear hS; intro _ hS _) | (refine hS.ld0 0 rfl rfl ?_) | (refine hS.ld 0 rfl rfl ?_) | (refine hS.ld0 1 rfl rfl ?_) | (refine hS.ld 1 rfl rfl ?_) | (refine hS.ld0 2 rfl rfl ?_) | (refine hS.ld 2 rfl rfl ?_) | (refine hS.ld0 3 rfl rfl ?_) | (refine hS.ld 3 rfl rfl ?_) | (refine hS.ld0 4 rfl rfl ?_) | (refine hS.ld 4 rfl rfl ?_) | (refine hS.ld0 5 rfl rfl ?_) | (refine hS.ld 5 rfl rfl ?_) | (refine hS.ldd 0 rfl rfl ?_) | (refine hS.ldd 1 rfl rfl ?_) | (refine hS.ldd 2 rfl rfl ?_) | (refine hS.ldd 3 rfl rfl ?_) | (refine hS.ldd 4 rfl rfl ?_) | (refine hS.ldd 5 rfl rfl ?_) | (refine hS.hd0 0 rfl rfl ?_) | (refine hS.hd 0 rfl rfl ?_) | (refine hS.hd0 1 rfl rfl ?_) | (refine hS.hd 1 rfl rfl ?_) | (refine hS.hd0 2 rfl rfl ?_) | (refine hS.hd 2 rfl rfl ?_) | (refine hS.hd0 3 rfl rfl ?_) | (refine hS.hd 3 rfl rfl ?_) | (refine hS.hd0 4 rfl rfl ?_) | (refine hS.hd 4 rfl rfl ?_) | (refine hS.hd0 5 rfl rfl ?_) | (refine hS.hd 5 rfl rfl ?_) | (refine hS.hdd 0 rfl rfl ?_) | (refine hS.hdd 1 rfl rfl ?_) | (refine hS.hdd 2 rfl rfl ?_) | (refine hS.hdd 3 rfl rfl ?_) | (refine hS.hdd 4 rfl rfl ?_) | (refine hS.hdd 5 rfl rfl ?_) | (refine hS.st0 0 rfl rfl rfl ?_; clear hS; intro _ hS) | (refine hS.st 0 rfl rfl rfl ?_; clear hS; intro _ hS) | (refine hS.st0 1 rfl rfl rfl ?_; clear hS; intro _ hS) | (refine hS.st 1 rfl rfl rfl ?_; clear hS; intro _ hS) | (refine hS.st0 2 rfl rfl rfl ?_; clear hS; intro _ hS) | (refine hS.st 2 rfl rfl rfl ?_; clear hS; intro _ hS) | (refine hS.st0 3 rfl rfl rfl ?_; clear hS; intro _ hS) | (refine hS.st 3 rfl rfl rfl ?_; clear hS; intro _ hS) | (refine hS.st0 4 rfl rfl rfl ?_; clear hS; intro _ hS) | (refine hS.st 4 rfl rfl rfl ?_; clear hS; intro _ hS) | (refine hS.st0 5 rfl rfl rfl ?_; clear hS; intro _ hS) | (refine hS.st 5 rfl rfl rfl ?_; clear hS; intro _ hS) | (refine hS.std 0 rfl rfl rfl ?_; clear hS; intro _ hS) | (refine hS.std 1 rfl rfl rfl ?_; clear hS; intro _ hS) | (refine hS.std 2 rfl rfl rfl ?_; clear hS; intro _ hS) | (refine hS.std 3 rfl rfl rfl ?_; clear hS; intro _ hS) | (refine hS.std 4 rfl rfl rfl ?_; clear hS; intro _ hS) | (refine hS.std 5 rfl rfl rfl ?_; clear hS; intro _ hS) | (refine bnd_mk (by decide) (by decide) ?_) | (refine so_i rfl ?_))
      refine cond_split (fun h => hJ _ _ ⟨?_, hS⟩) (fun h => ?_)
      · have h' : ¬ 0 ≤ e.o := by have := of_decide_eq_true h; omega
        unfold Ent.argOk; rw [h1', h2', decide_eq_false h']; rfl
      repeat (first | (refine dr_i ?_) | (refine asI_i rfl ?_) | (refine asB_i rfl ?_) | (refine asP_i rfl ?_) | (refine asS_i rfl ?_) | (refine asY_i rfl ?_) | (refine asM_i rfl ?_) | (refine asA_i rfl rfl ?_) | (refine asT_i rfl rfl ?_) | (refine lv_i ?_) | (refine St.nw hS ?_; clear hS; intro _ _ hS) | (refine St.dw hS ?_; clear hS; intro _ hS _) | (refine hS.ld0 0 rfl rfl ?_) | (refine hS.ld 0 rfl rfl ?_) | (refine hS.ld0 1 rfl rfl ?_) | (refine hS.ld 1 rfl rfl ?_) | (refine hS.ld0 2 rfl rfl ?_) | (refine hS.ld 2 rfl rfl ?_) | (refine hS.ld0 3 rfl rfl ?_) | (refine hS.ld 3 rfl rfl ?_) | (refine hS.ld0 4 rfl rfl ?_) | (refine hS.ld 4 rfl rfl ?_) | (refine hS.ld0 5 rfl rfl ?_) | (refine hS.ld 5 rfl rfl ?_) | (refine hS.ldd 0 rfl rfl ?_) | (refine hS.ldd 1 rfl rfl ?_) | (refine hS.ldd 2 rfl rfl ?_) | (refine hS.ldd 3 rfl rfl ?_) | (refine hS.ldd 4 rfl rfl ?_) | (refine hS.ldd 5 rfl rfl ?_) | (refine hS.hd0 0 rfl rfl ?_) | (refine hS.hd 0 rfl rfl ?_) | (refine hS.hd0 1 rfl rfl ?_) | (refine hS.hd 1 rfl rfl ?_) | (refine hS.hd0 2 rfl rfl ?_) | (refine hS.hd 2 rfl rfl ?_) | (refine hS.hd0 3 rfl rfl ?_) | (refine hS.hd 3 rfl rfl ?_) | (refine hS.hd0 4 rfl rfl ?_) | (refine hS.hd 4 rfl rfl ?_) | (refine hS.hd0 5 rfl rfl ?_) | (refine hS.hd 5 rfl rfl ?_) | (refine hS.hdd 0 rfl rfl ?_) | (refine hS.hdd 1 rfl rfl ?_) | (refine hS.hdd 2 rfl rfl ?_) | (refine hS.hdd 3 rfl rfl ?_) | (refine hS.hdd 4 rfl rfl ?_) | (refine hS.hdd 5 rfl rfl ?_) | (refine hS.st0 0 rfl rfl rfl ?_; clear hS; intro _ hS) | (refine hS.st 0 rfl rfl rfl ?_; clear hS; intro _ hS) | (refine hS.st0 1 rfl rfl rfl ?_; clear hS; intro _ hS) | (refine hS.st 1 rfl rfl rfl ?_; clear hS; intro _ hS) | (refine hS.st0 2 rfl rfl rfl ?_; clear hS; intro _ hS) | (refine hS.st 2 rfl rfl rfl ?_; clear hS; intro _ hS) | (refine hS.st0 3 rfl rfl rfl ?_; clear hS; intro _ hS) | (refine hS.st 3 rfl rfl rfl ?_; clear hS; intro _ hS) | (refine hS.st0 4 rfl rfl rfl ?_; clear hS; intro _ hS) | (refine hS.st 4 rfl rfl rfl ?_; clear hS; intro _ hS) | (refine hS.st0 5 rfl rfl rfl ?_; clear hS; intro _ hS) | (refine hS.st 5 rfl rfl rfl ?_; clear hS; intro _ hS) | (refine hS.std 0 rfl rfl rfl ?_; clear hS; intro _ hS) | (refine hS.std 1 rfl rfl rfl ?_; clear hS; intro _ hS) | (refine hS.std 2 rfl rfl rfl ?_; clear hS; intro _ hS) | (refine hS.std 3 rfl rfl rfl ?_; clear hS; intro _ hS) | (refine hS.std 4 rfl rfl rfl ?_; clear hS; intro _ hS) | (refine hS.std 5 rfl rfl rfl ?_; clear hS; intro _ hS) | (refine bnd_mk (by decide) (by decide) ?_) | (refine so_i rfl ?_))
      refine hJ _ _ ⟨?_, hS⟩
      have h' : 0 ≤ e.o := by have := of_decide_eq_false h; omega
      unfold Ent.argOk
      rw [h1', h2', decide_eq_true h']
      by_cases h8 : e.o ≤ 8
      · rw [decide_eq_true h8, decide_eq_false (by omega)]; rfl
      · rw [decide_eq_false h8, decide_eq_true (by omega)]; rfl
  · intro J hJ
    refine cond_split (fun h => hJ _ _ ⟨?_, hS⟩) (fun h1 => cond_split (fun h => hJ _ _ ⟨?_, hS⟩) (fun h2 => ?_))
    · have : inn e.x 4398046511104 = false := by simpa using h
      unfold Ent.boxOk; rw [this]; rfl
    · have : inn e.y 4398046511104 = false := by simpa using h
      have h1' : inn e.x 4398046511104 = true := by simpa using h1
      unfold Ent.boxOk; rw [this, h1']; rfl
    have h1' : inn e.x 4398046511104 = true := by simpa using h1
    have h2' : inn e.y 4398046511104 = true := by simpa using h2
    repeat (first | (refine dr_i ?_) | (refine asI_i rfl ?_) | (refine asB_i rfl ?_) | (refine asP_i rfl ?_) | (refine asS_i rfl ?_) | (refine asY_i rfl ?_) | (refine asM_i rfl ?_) | (refine asA_i rfl rfl ?_) | (refine asT_i rfl rfl ?_) | (refine lv_i ?_) | (refine St.nw hS ?_; clear hS; intro _ _ hS) | (refine St.dw hS ?_; clear hS; intro _ hS _) | (refine hS.ld0 0 rfl rfl ?_) | (refine hS.ld 0 rfl rfl ?_) | (refine hS.ld0 1 rfl rfl ?_) | (refine hS.ld 1 rfl rfl ?_) | (refine hS.ld0 2 rfl rfl ?_) | (refine hS.ld 2 rfl rfl ?_) | (refine hS.ld0 3 rfl rfl ?_) | (refine hS.ld 3 rfl rfl ?_) | (refine hS.ld0 4 rfl rfl ?_) | (refine hS.ld 4 rfl rfl ?_) | (refine hS.ld0 5 rfl rfl ?_) | (refine hS.ld 5 rfl rfl ?_) | (refine hS.ldd 0 rfl rfl ?_) | (refine hS.ldd 1 rfl rfl ?_) | (refine hS.ldd 2 rfl rfl ?_) | (refine hS.ldd 3 rfl rfl ?_) | (refine hS.ldd 4 rfl rfl ?_) | (refine hS.ldd 5 rfl rfl ?_) | (refine hS.hd0 0 rfl rfl ?_) | (refine hS.hd 0 rfl rfl ?_) | (refine hS.hd0 1 rfl rfl ?_) | (refine hS.hd 1 rfl rfl ?_) | (refine hS.hd0 2 rfl rfl ?_) | (refine hS.hd 2 rfl rfl ?_) | (refine hS.hd0 3 rfl rfl ?_) | (refine hS.hd 3 rfl rfl ?_) | (refine hS.hd0 4 rfl rfl ?_) | (refine hS.hd 4 rfl rfl ?_) | (refine hS.hd0 5 rfl rfl ?_) | (refine hS.hd 5 rfl rfl ?_) | (refine hS.hdd 0 rfl rfl ?_) | (refine hS.hdd 1 rfl rfl ?_) | (refine hS.hdd 2 rfl rfl ?_) | (refine hS.hdd 3 rfl rfl ?_) | (refine hS.hdd 4 rfl rfl ?_) | (refine hS.hdd 5 rfl rfl ?_) | (refine hS.st0 0 rfl rfl rfl ?_; clear hS; intro _ hS) | (refine hS.st 0 rfl rfl rfl ?_; clear hS; intro _ hS) | (refine hS.st0 1 rfl rfl rfl ?_; clear hS; intro _ hS) | (refine hS.st 1 rfl rfl rfl ?_; clear hS; intro _ hS) | (refine hS.st0 2 rfl rfl rfl ?_; clear hS; intro _ hS) | (refine hS.st 2 rfl rfl rfl ?_; clear hS; intro _ hS) | (refine hS.st0 3 rfl rfl rfl ?_; clear hS; intro _ hS) | (refine hS.st 3 rfl rfl rfl ?_; clear hS; intro _ hS) | (refine hS.st0 4 rfl rfl rfl ?_; clear hS; intro _ hS) | (refine hS.st 4 rfl rfl rfl ?_; clear hS; intro _ hS) | (refine hS.st0 5 rfl rfl rfl ?_; clear hS; intro _ hS) | (refine hS.st 5 rfl rfl rfl ?_; clear hS; intro _ hS) | (refine hS.std 0 rfl rfl rfl ?_; clear hS; intro _ hS) | (refine hS.std 1 rfl rfl rfl ?_; clear hS; intro _ hS) | (refine hS.std 2 rfl rfl rfl ?_; clear hS; intro _ hS) | (refine hS.std 3 rfl rfl rfl ?_; clear hS; intro _ hS) | (refine hS.std 4 rfl rfl rfl ?_; clear hS; intro _ hS) | (refine hS.std 5 rfl rfl rfl ?_; clear hS; intro _ hS) | (refine bnd_mk (by decide) (by decide) ?_) | (refine so_i rfl ?_))
    refine cond_split (fun h => hJ _ _ ⟨?_, hS⟩) (fun h => ?_)
    · have h' : ¬ 1 ≤ e.r := by have := of_decide_eq_true h; omega
      unfold Ent.boxOk; rw [h1', h2', decide_eq_false h']; rfl
    repeat (first | (refine dr_i ?_) | (refine asI_i rfl ?_) | (refine asB_i rfl ?_) | (refine asP_i rfl ?_) | (refine asS_i rfl ?_) | (refine asY_i rfl ?_) | (refine asM_i rfl ?_) | (refine asA_i rfl rfl ?_) | (refine asT_i rfl rfl ?_) | (refine lv_i ?_) | (refine St.nw hS ?_; clear hS; intro _ _ hS) | (refine St.dw hS ?_; clear hS; intro _ hS _) | (refine hS.ld0 0 rfl rfl ?_) | (refine hS.ld 0 rfl rfl ?_) | (refine hS.ld0 1 rfl rfl ?_) | (refine hS.ld 1 rfl rfl ?_) | (refine hS.ld0 2 rfl rfl ?_) | (refine hS.ld 2 rfl rfl ?_) | (refine hS.ld0 3 rfl rfl ?_) | (refine hS.ld 3 rfl rfl ?_) | (refine hS.ld0 4 rfl rfl ?_) | (refine hS.ld 4 rfl rfl ?_) | (refine hS.ld0 5 rfl rfl ?_) | (refine hS.ld 5 rfl rfl ?_) | (refine hS.ldd 0 rfl rfl ?_) | (refine hS.ldd 1 rfl rfl ?_) | (refine hS.ldd 2 rfl rfl ?_) | (refine hS.ldd 3 rfl rfl ?_) | (refine hS.ldd 4 rfl rfl ?_) | (refine hS.ldd 5 rfl rfl ?_) | (refine hS.hd0 0 rfl rfl ?_) | (refine hS.hd 0 rfl rfl ?_) | (refine hS.hd0 1 rfl rfl ?_) | (refine hS.hd 1 rfl rfl ?_) | (refine hS.hd0 2 rfl rfl ?_) | (refine hS.hd 2 rfl rfl ?_) | (refine hS.hd0 3 rfl rfl ?_) | (refine hS.hd 3 rfl rfl ?_) | (refine hS.hd0 4 rfl rfl ?_) | (refine hS.hd 4 rfl rfl ?_) | (refine hS.hd0 5 rfl rfl ?_) | (refine hS.hd 5 rfl rfl ?_) | (refine hS.hdd 0 rfl rfl ?_) | (refine hS.hdd 1 rfl rfl ?_) | (refine hS.hdd 2 rfl rfl ?_) | (refine hS.hdd 3 rfl rfl ?_) | (refine hS.hdd 4 rfl rfl ?_) | (refine hS.hdd 5 rfl rfl ?_) | (refine hS.st0 0 rfl rfl rfl ?_; clear hS; intro _ hS) | (refine hS.st 0 rfl rfl rfl ?_; clear hS; intro _ hS) | (refine hS.st0 1 rfl rfl rfl ?_; clear hS; intro _ hS) | (refine hS.st 1 rfl rfl rfl ?_; clear hS; intro _ hS) | (refine hS.st0 2 rfl rfl rfl ?_; clear hS; intro _ hS) | (refine hS.st 2 rfl rfl rfl ?_; clear hS; intro _ hS) | (refine hS.st0 3 rfl rfl rfl ?_; clear hS; intro _ hS) | (refine hS.st 3 rfl rfl rfl ?_; clear hS; intro _ hS) | (refine hS.st0 4 rfl rfl rfl ?_; clear hS; intro _ hS) | (refine hS.st 4 rfl rfl rfl ?_; clear hS; intro _ hS) | (refine hS.st0 5 rfl rfl rfl ?_; clear hS; intro _ hS) | (refine hS.st 5 rfl rfl rfl ?_; clear hS; intro _ hS) | (refine hS.std 0 rfl rfl rfl ?_; clear hS; intro _ hS) | (refine hS.std 1 rfl rfl rfl ?_; clear hS; intro _ hS) | (refine hS.std 2 rfl rfl rfl ?_; clear hS; intro _ hS) | (refine hS.std 3 rfl rfl rfl ?_; clear hS; intro _ hS) | (refine hS.std 4 rfl rfl rfl ?_; clear hS; intro _ hS) | (refine hS.std 5 rfl rfl rfl ?_; clear hS; intro _ hS) | (refine bnd_mk (by decide) (by decide) ?_) | (refine so_i rfl ?_))
    refine hJ _ _ ⟨?_, hS⟩
    have h' : 1 ≤ e.r := by have := of_decide_eq_false h; omega
    unfold Ent.boxOk
    rw [h1', h2', decide_eq_true h']
    by_cases h8 : e.r ≤ 17179869184
    · rw [decide_eq_true h8, decide_eq_false (by omega)]; rfl
    · rw [decide_eq_false h8, decide_eq_true (by omega)]; rfl

/-- the document's world in memory: how many, whether, who -/
def xw (S : List Spot) : List Value := S.map (fun s => .int .i64 s.gen) ++ (S.map (fun s => .bool s.there) ++ S.flatMap fun s => s.e.cells)
structure XW (w : World) (x : Nat) (S : List Spot) : Prop where
  blk : w.heap[x]? = some (.cells (xw S).toArray 95 (0, 0))
  len : S.length = 64
theorem XW.ext {w w' : World} {M : Nat → Prop} {x : Nat} {S : List Spot} (h : XW w x S) (hx : Ext M w w') (hm : ¬ M x) : XW w' x S := ⟨hx.blk h.blk hm, h.len⟩
theorem XW.gen {w : World} {x : Nat} {S : List Spot} (h : XW w x S) {i : Nat} {s : Spot} (hi : S[i]? = some s) : w.cell? ⟨x, i, none⟩ = some (.int .i64 s.gen) := by
  rw [blk_cell h.blk]
  have hl := (List.getElem?_eq_some_iff.1 hi).1
  simp only [List.getElem?_toArray, xw]
  rw [List.getElem?_append_left (by simpa using hl), List.getElem?_map, hi]
  rfl
theorem XW.there {w : World} {x : Nat} {S : List Spot} (h : XW w x S) {i : Nat} {s : Spot} (hi : S[i]? = some s) : w.cell? ⟨x, 64 + i, none⟩ = some (.bool s.there) := by
  rw [blk_cell h.blk]
  have hl := (List.getElem?_eq_some_iff.1 hi).1
  have h64 := h.len
  simp only [List.getElem?_toArray, xw]
  rw [List.getElem?_append_right (by simp [h64]), List.getElem?_append_left (by simp [h64]; omega), List.length_map, h64, List.getElem?_map, show 64 + i - 64 = i from by omega, hi]
  rfl
theorem XW.ent {w : World} {x : Nat} {S : List Spot} (h : XW w x S) {i : Nat} {s : Spot} (hi : S[i]? = some s) {k : Nat} (hk : k < 8) : w.cell? ⟨x, 128 + (i * 8 + k), none⟩ = s.e.cells[k]? := by
  rw [blk_cell h.blk]
  have h64 := h.len
  simp only [List.getElem?_toArray, xw]
  rw [List.getElem?_append_right (by simp [h64]; omega), List.getElem?_append_right (by simp [h64]; omega), List.length_map, List.length_map, h64, show 128 + (i * 8 + k) - 64 - 64 = i * 8 + k from by omega]
  exact fl_getN (f := fun s : Spot => s.e.cells) (fun _ => rfl) hi k hk
end Go.Proofs.Ytamobmjfdiecbaa

/- WoK: handles that are given and handles that are dead, in plain lists; rows of whole numbers beside a world. Conditions: those of each theorem, on its arguments. -/
namespace Go.Proofs.Ytamobmjfdiecbaa
open Go Go.Sx Go.Fp
attribute [local irreducible] jn lv ld st nw asI asB asP asS asY asM asF asA asT lp rn ru rq cl dw dr bnd bn2 nz nn hd hr so eqW
attribute [local irreducible] callOk

/-! ### plain -/
def Old (S : List Spot) (h : Int) : Prop := ∃ (i : Nat) (s : Spot), S[i]? = some s ∧ h.toNat % 64 = i ∧ 64 ≤ h ∧ h ≤ s.gen * 64 + (i : Int)

theorem set_cases {S : List Spot} {i : Nat} {s t : Spot} (hs : S[i]? = some s) (j : Nat) : (j = i ∧ (S.set i t)[j]? = some t) ∨ (j ≠ i ∧ (S.set i t)[j]? = S[j]?) := by
  by_cases hj : j = i
  · subst hj
    exact .inl ⟨rfl, List.getElem?_set_self (List.getElem?_eq_some_iff.1 hs).1⟩
  · exact .inr ⟨hj, List.getElem?_set_ne fun h => hj h.symm⟩

theorem Old.set {S : List Spot} {h : Int} (ho : Old S h) {i : Nat} {s t : Spot} (hs : S[i]? = some s) (hg : s.gen ≤ t.gen) : Old (S.set i t) h := by
  obtain ⟨j, u, hu, h1, h2, h3⟩ := ho
  rcases set_cases (t := t) hs j with ⟨rfl, e⟩ | ⟨_, e⟩
  · rw [hs] at hu
    cases hu
    exact ⟨j, t, e, h1, h2, by omega⟩
  · exact ⟨j, u, by rw [e, hu], h1, h2, h3⟩

theorem Old.new {n : Nat} {S : List Spot} (hG : Good n S) {i : Nat} {s : Spot} (hs : S[i]? = some s) (e : Ent) : Old (S.set i (spn s i e)) ((s.gen + 1) * 64 + (i : Int)) := by
  obtain ⟨h0, h1, h2, _⟩ := hG i s hs
  refine ⟨i, spn s i e, List.getElem?_set_self (List.getElem?_eq_some_iff.1 hs).1, by omega, by omega, ?_⟩
  show _ ≤ (s.gen + 1) * 64 + (i : Int)
  omega

theorem Old.ne {n : Nat} {S : List Spot} (hG : Good n S) {h : Int} (ho : Old S h) {i : Nat} {s : Spot} (hs : S[i]? = some s) : h ≠ (s.gen + 1) * 64 + (i : Int) := by
  obtain ⟨h0, h1, h2, _⟩ := hG i s hs
  obtain ⟨j, u, hu, h3, h4, h5⟩ := ho
  rintro rfl
  have : j = i := by omega
  subst this
  rw [hs] at hu
  cases hu
  omega

theorem atI_none {S : List Spot} {h : Int} (hn : atI S h = none) (h64 : 64 ≤ h) {s : Spot} (hs : S[h.toNat % 64]? = some s) : ¬ (s.there = true ∧ s.e.h = h) := by
  unfold atI at hn
  rw [if_neg (by omega), hs] at hn
  simp only at hn
  intro hc
  rw [if_pos hc] at hn
  cases hn
theorem none_atI {S : List Spot} {h : Int} (hn : ∀ s, S[h.toNat % 64]? = some s → ¬ (s.there = true ∧ s.e.h = h)) : atI S h = none := by
  unfold atI
  split
  · rfl
  · split
    · rename_i s hs
      rw [if_neg (hn s hs)]
    · rfl

theorem none_set {S : List Spot} {h : Int} (hn : atI S h = none) (h64 : 64 ≤ h) {i : Nat} {s t : Spot} (hs : S[i]? = some s) (ht : h.toNat % 64 = i → ¬ (t.there = true ∧ t.e.h = h)) : atI (S.set i t) h = none := by
  refine none_atI fun u hu => ?_
  rcases set_cases (t := t) hs (h.toNat % 64) with ⟨e1, e⟩ | ⟨_, e⟩
  · rw [e] at hu
    cases hu
    exact ht e1
  · rw [e] at hu
    exact atI_none hn h64 hu

theorem listS_set : ∀ {S : List Spot} {i : Nat} {s : Spot} (_ : S[i]? = some s) (t : Spot), (listS (S.set i t)).length + (if s.there = true then 1 else 0) = (listS S).length + (if t.there = true then 1 else 0)
  | [], _, _, h, _ => by simp at h
  | x :: S, 0, s, h, t => by
    have : x = s := by simpa using h
    subst this
    simp only [listS, List.set_cons_zero, List.filter_cons, List.length_map]
    by_cases h1 : x.there = true <;> by_cases h2 : t.there = true <;> simp [h1, h2] <;> omega
  | x :: S, i + 1, s, h, t => by
    have ih := listS_set (S := S) (i := i) (s := s) (by simpa using h) t
    simp only [listS, List.length_map] at ih
    simp only [listS, List.set_cons_succ, List.filter_cons, List.length_map]
    by_cases h1 : x.there = true <;> simp [h1] <;> omega

structure Inv (n : Nat) (S : List Spot) (G Q : List Int) : Prop where
  good : Good n S
  old : ∀ h ∈ G, Old S h
  dead : ∀ h ∈ Q, Old S h ∧ atI S h = none
  cnt : (listS S).length + Q.length = G.length
  cap : G.length ≤ n

theorem Inv.mono {n m : Nat} {S : List Spot} {G Q : List Int} (h : Inv n S G Q) (hm : n ≤ m) : Inv m S G Q := ⟨h.good.mono hm, h.old, h.dead, h.cnt, Nat.le_trans h.cap hm⟩

theorem Inv.spawn {n : Nat} (hn : n ≤ 1000000) {S : List Spot} {G Q : List Int} (h : Inv n S G Q) {i : Nat} {s : Spot} (hf : IsFree S i s) {e : Ent} (he : e.rightE = 0) (hI : e.I) :
    Inv (n + 1) (S.set i (spn s i e)) (G ++ [(s.gen + 1) * 64 + (i : Int)]) Q ∧ (s.gen + 1) * 64 + (i : Int) ∉ G := by
  have hs := hf.1
  have hg : s.gen ≤ (spn s i e).gen := by show s.gen ≤ s.gen + 1; omega
  have hth : s.there = false := by
    have := hf.2.1
    unfold free at this
    revert this
    cases s.there <;> simp
  refine ⟨⟨h.good.spawn hn hs he hI, fun x hx => ?_, fun x hx => ?_, ?_, by have := h.cap; simp; omega⟩, fun hm => (h.old _ hm).ne h.good hs rfl⟩
  · rcases List.mem_append.1 hx with hx | hx
    · exact (h.old x hx).set hs hg
    · rw [List.mem_singleton.1 hx]
      exact Old.new h.good hs e
  · obtain ⟨h1, h2⟩ := h.dead x hx
    refine ⟨h1.set hs hg, none_set h2 (by obtain ⟨_, _, _, _, h64, _⟩ := h1; exact h64) hs fun _ hc => ?_⟩
    exact h1.ne h.good hs hc.2.symm
  · have := listS_set hs (spn s i e)
    rw [hth, show (spn s i e).there = true from rfl] at this
    have h0 := h.cnt
    rw [List.length_append, List.length_singleton]
    simp at this
    omega

theorem Inv.kill {n : Nat} {S : List Spot} {G Q : List Int} (h : Inv n S G Q) {hh : Int} {i : Nat} {s : Spot} (hi : i = hh.toNat % 64) (hp : hh = hh.toNat) (hs : S[i]? = some s) (ht : s.there = true) (hx : s.e.h = hh) :
    Inv n (S.set i ⟨s.gen, false, s.e⟩) G (Q ++ [hh]) := by
  have hg : s.gen ≤ (⟨s.gen, false, s.e⟩ : Spot).gen := by simp
  obtain ⟨h0, h1, h2, h3⟩ := h.good i s hs
  obtain ⟨h4, h5, h6, h7⟩ := h3 ht
  have hold : Old S hh := ⟨i, s, hs, hi.symm, by omega, by omega⟩
  refine ⟨fun j t hj => ?_, fun x hx => (h.old x hx).set hs hg, fun x hx' => ?_, ?_, h.cap⟩
  · rcases set_cases (t := ⟨s.gen, false, s.e⟩) hs j with ⟨rfl, e⟩ | ⟨_, e⟩
    · rw [e] at hj
      cases hj
      exact ⟨h0, h1, h2, fun h => by cases h⟩
    · rw [e] at hj
      exact h.good j t hj
  · rcases List.mem_append.1 hx' with hx' | hx'
    · obtain ⟨h8, h9⟩ := h.dead x hx'
      refine ⟨h8.set hs hg, none_set h9 (by obtain ⟨_, _, _, _, h64, _⟩ := h8; exact h64) hs fun _ hc => ?_⟩
      cases hc.1
    · rw [List.mem_singleton.1 hx']
      refine ⟨hold.set hs hg, none_atI fun u hu => ?_⟩
      rw [← hi, List.getElem?_set_self (List.getElem?_eq_some_iff.1 hs).1] at hu
      cases hu
      rintro ⟨hc, _⟩
      cases hc
  · have := listS_set hs ⟨s.gen, false, s.e⟩
    rw [ht] at this
    have h0 := h.cnt
    rw [List.length_append, List.length_singleton]
    simp at this
    omega

/-! ### rows beside a world -/
structure Pr (W w : World) (L : List (Nat × List Value × TypeId)) (F : Nat → Prop) (r : Nat) (p : Option Addr) (c : Nat) (xs : List Int) : Prop where
  row : Row w W.heap.size 3 p c (iv .i64 xs)
  off : ∀ a, p = some a → ¬ wF F r a.block ∧ ∀ b ∈ L, b.1 ≠ a.block

section
variable {W w : World} {L : List (Nat × List Value × TypeId)} {F : Nat → Prop} {r g : Nat} {S : List Spot} {B : List (Int × Bx)} {D : List ((Int × Int) × List Int)} {N : Nat} {p q : Option Addr} {c c' : Nat} {xs ys : List Int}

theorem Pr.nil : Pr W w L F r none 0 [] := ⟨Row.nil _ _ _, fun a h => by cases h⟩
theorem Pr.to (h : Pr W w L F r p c xs) {w' : World} (hx : Ext no w w') : Pr W w' L F r p c xs := ⟨h.row.ext hx fun _ _ h => h, h.off⟩
theorem Pr.tail {x : Nat × List Value × TypeId} (h : Pr W w (x :: L) F r p c xs) : Pr W w L F r p c xs := ⟨h.row, fun a ha => ⟨(h.off a ha).1, fun b hb => (h.off a ha).2 b (List.mem_cons_of_mem _ hb)⟩⟩
theorem Pr.cells {x y : Nat × List Value × TypeId} (h : Pr W w (x :: L) F r p c xs) (e : x.1 = y.1) : Pr W w (y :: L) F r p c xs := ⟨h.row, fun a ha => ⟨(h.off a ha).1, fun b hb => by
  rcases List.mem_cons.1 hb with rfl | hb
  · exact e ▸ (h.off a ha).2 x List.mem_cons_self
  · exact (h.off a ha).2 b (List.mem_cons_of_mem _ hb)⟩⟩
theorem Pr.cons (h : Pr W w L F r p c xs) {x : Nat × List Value × TypeId} (hx : w.heap.size ≤ x.1) : Pr W w (x :: L) F r p c xs := ⟨h.row, fun a ha => ⟨(h.off a ha).1, fun b hb => by
  rcases List.mem_cons.1 hb with rfl | hb
  · have := (h.row.at ha).2
    omega
  · exact (h.off a ha).2 b hb⟩⟩
theorem Pr.step (h : Pr W w L F r p c xs) {w' : World} {F' : Nat → Prop} (hx : Ext (wF F r) w w') (hG : ∀ k, F' k → F k ∨ w.heap.size ≤ k) : Pr W w' L F' r p c xs := by
  refine ⟨h.row.ext hx fun a ha => (h.off a ha).1, fun a ha => ⟨?_, (h.off a ha).2⟩⟩
  have hlt := (h.row.at ha).2
  rintro (hk | hk)
  · rcases hG _ hk with hk | hk
    · exact (h.off a ha).1 (.inl hk)
    · omega
  · exact (h.off a ha).1 (.inr hk)
/-- a store into a block of one's own -/
theorem Pr.onl (h : Pr W w L F r p c xs) {k : Nat} (hk : ∃ b ∈ L, b.1 = k) {w' : World} (hx : Ext (onl k) w w') : Pr W w' L F r p c xs := by
  obtain ⟨b, hb, rfl⟩ := hk
  exact ⟨h.row.ext hx fun a ha e => (h.off a ha).2 b hb (show _ = _ from Eq.symm e), h.off⟩

theorem Pr.app1 (h : Pr W w L F r p c xs) (hP : Pw W w L F r g S B D N) (h2 : Pr W w L F r q c' ys) (hA : Apart p q) {v : Int} {n : Nat} (hn : xs.length = n) (hm : n ≤ 1000000) {t' : TypeId} {K : Value → World → Prop}
    (hK : ∀ p' c'' w', Pw W w' L F r g S B D N → Pr W w' L F r p' c'' (xs ++ [v]) → Pr W w' L F r q c' ys → Apart p' q → K (.slice p' (n + 1) c'') w') :
    nw w (.cells #[.int .i64 v] t') fun r w1 => rn Try.prog (Builtin.append_ #[38, 38] 38 #[.slice p n c, .slice (some ⟨r, 0, none⟩) 1 1]) w1 K := by
  refine sI.app1 h.row (by rw [iv_length, hn]) hP.st.ext.size rfl (le_maxLen (by omega)) (by omega) fun p' c'' w' hr hx hM => ?_
  have hoff : ∀ k, blocks p k → (¬ wF F r k ∧ ∀ b ∈ L, b.1 ≠ k) ∧ W.heap.size ≤ k := fun k ⟨a, ha, hk⟩ => hk ▸ ⟨h.off a ha, (h.row.at ha).1⟩
  have hP' : Pw W w' L F r g S B D N := ⟨hP.st.toM hx (fun k hk => (hoff k hk).2) (fun b hb hk => (hoff _ hk).1.2 b hb rfl), hP.wd.ext hx fun k hk hb => (hoff k hb).1.1 hk, hP.fr⟩
  refine hK p' c'' w' hP' ⟨?_, fun a ha => ?_⟩ ⟨h2.row.keep hx hA.symm, h2.off⟩ (hM.apart hA fun a ha => (h2.row.at ha).2)
  · have e : iv .i64 (xs ++ [v]) = iv .i64 xs ++ [.int .i64 v] := by simp [iv]
    rw [e]
    exact hr
  · rcases hM with rfl | hM
    · exact h.off a ha
    · have := hM a ha
      refine ⟨fun hk => ?_, fun b hb e => ?_⟩
      · have := hP.lt _ hk
        omega
      · have := blk_lt (hP.st.kn b hb).1
        omega
end
end Go.Proofs.Ytamobmjfdiecbaa

/- GrR: the document's own cells of points and boxes, as contracts. Conditions: those of each theorem, on its arguments. -/
namespace Go.Proofs.Ytamobmjfdiecbaa
open Go Go.Sx Go.Fp
attribute [local irreducible] jn lv ld st nw asI asB asP asS asY asM asF asA asT lp rn ru rq cl dw dr bnd bn2 nz nn hd hr so eqW
attribute [local irreducible] callOk

theorem rside_k {s : Int} {w : World} {K : Value → World → Prop} (hK : K (.bool (sideOk s)) w) : cl Try.prog 47 #[.int .i64 s] w K := by
  apply F47_calls
  unfold F47
  refine jn_mk (cond_split (fun h => asB_i rfl ?_) (fun h => asB_i rfl ?_))
  · have : sideOk s = decide (s ≤ 1099511627776) := by
      have h' : 1 ≤ s := of_decide_eq_true h
      unfold sideOk
      rw [decide_eq_true h']
      rfl
    rw [← this]; exact hK
  · have : sideOk s = false := by
      have h' : ¬ 1 ≤ s := of_decide_eq_false h
      unfold sideOk
      rw [decide_eq_false h']
      rfl
    rw [← this]; exact hK

theorem rdown_k {n s : Int} (hn : I64 n) (hs : 1 ≤ s) {w : World} {K : Value → World → Prop} (hK : K (.int .i64 (n / s)) w) : cl Try.prog 48 #[.int .i64 n, .int .i64 s] w K := by
  obtain ⟨hn1, hn2⟩ := hn
  have hb := div_bound (n := n) hs
  have hf := floor_div (n := n) hs
  have hsg : 0 ≤ n → 0 ≤ n.tmod s := fun h => Int.tmod_nonneg s h
  have ht : -9223372036854775808 ≤ n.tdiv s ∧ n.tdiv s ≤ 9223372036854775807 ∧ (n.tmod s < 0 → -9223372036854775807 ≤ n.tdiv s) := by
    split at hf
    · omega
    · omega
  apply F48_calls
  unfold F48
  refine lv_i (nz_mk (by omega) (lv_i (jn_mk (nz_mk (by omega) ?_))))
  rw [wr64 (n := n.tdiv s) (by omega) (by omega)]
  refine cond_split (fun h => ?_) (fun h => ?_)
  · have h' : n.tmod s < 0 := of_decide_eq_true h
    rw [if_pos h'] at hf
    have := ht.2.2 h'
    rw [wr64 (by omega) (by omega), ← hf]
    exact lv_i (asI_i rfl (lv_i hK))
  · have h' : ¬ n.tmod s < 0 := of_decide_eq_false h
    rw [if_neg h'] at hf
    rw [← hf]
    exact asI_i rfl (lv_i hK)

def okN (n : Int) : Bool := decide (-1048576 ≤ n) && decide (n ≤ 1048576)
theorem isCell_ok (a b : Int) : isCell a b = (okN a && okN b) := by
  rw [Bool.eq_iff_iff, isCell_iff]
  unfold okN
  simp only [Bool.and_eq_true, decide_eq_true_eq]
theorem rok_k {n : Int} {w : World} {K : Value → World → Prop} (hK : K (.bool (okN n)) w) : cl Try.prog 49 #[.int .i64 n] w K := by
  apply F49_calls
  unfold F49
  refine jn_mk (cond_split (fun h => asB_i rfl ?_) (fun h => asB_i rfl ?_))
  · have : okN n = decide (n ≤ 1048576) := by
      have h' : -1048576 ≤ n := of_decide_eq_true h
      unfold okN
      rw [decide_eq_true h']
      rfl
    rw [← this]; exact hK
  · have : okN n = false := by
      have h' : ¬ -1048576 ≤ n := of_decide_eq_false h
      unfold okN
      rw [decide_eq_false h']
      rfl
    rw [← this]; exact hK

def pv (p : Int × Int) : List Value := [.int .i64 p.1, .int .i64 p.2]
theorem rcell_k {s x y : Int} (hx : I64 x) (hy : I64 y) {w : World} {K : Value → World → Prop} (hK : ∀ w', Ext no w w' → K (.tuple #[.agg (pv (gcellP s x y)).toArray, .int .i64 (gcellE s x y)]) w') :
    cl Try.prog 25 #[.int .i64 s, .agg #[.int .i64 x, .int .i64 y]] w K := by
  apply F25_calls
  unfold F25
  have hS := St.start w
  (refine St.nw hS ?_; clear hS; intro r1 _ hS)
  (refine St.nw hS ?_; clear hS; intro r3 _ hS)
  refine lv_i (rside_k (asB_i rfl (cond_split (fun h => ?_) (fun h => ?_))))
  · have hE : gcellE s x y = 1 := by unfold gcellE; rw [if_neg (by simpa using h)]
    unfold gcellP at hK
    rw [hE, if_neg (by decide)] at hK
    repeat (first | (refine asI_i rfl ?_) | (refine asB_i rfl ?_) | (refine asP_i rfl ?_) | (refine asS_i rfl ?_) | (refine asY_i rfl ?_) | (refine asM_i rfl ?_) | (refine asA_i rfl rfl ?_) | (refine asT_i rfl rfl ?_) | (refine lv_i ?_) | (refine St.nw hS ?_; clear hS; intro _ _ hS) | (refine St.dw hS ?_; clear hS; intro _ hS _) | (refine hS.ld0 0 rfl rfl ?_) | (refine hS.ld 0 rfl rfl ?_) | (refine hS.ld0 1 rfl rfl ?_) | (refine hS.ld 1 rfl rfl ?_) | (refine hS.ld0 2 rfl rfl ?_) | (refine hS.ld 2 rfl rfl ?_) | (refine hS.ld0 3 rfl rfl ?_) | (refine hS.ld 3 rfl rfl ?_) | (refine hS.ld0 4 rfl rfl ?_) | (refine hS.ld 4 rfl rfl ?_) | (refine hS.ld0 5 rfl rfl ?_) | (refine hS.ld 5 rfl rfl ?_) | (refine hS.ld0 6 rfl rfl ?_) | (refine hS.ld 6 rfl rfl ?_) | (refine hS.ld0 7 rfl rfl ?_) | (refine hS.ld 7 rfl rfl ?_) | (refine hS.hd0 0 rfl rfl ?_) | (refine hS.hd 0 rfl rfl ?_) | (refine hS.hd0 1 rfl rfl ?_) | (refine hS.hd 1 rfl rfl ?_) | (refine hS.hd0 2 rfl rfl ?_) | (refine hS.hd 2 rfl rfl ?_) | (refine hS.hd0 3 rfl rfl ?_) | (refine hS.hd 3 rfl rfl ?_) | (refine hS.hd0 4 rfl rfl ?_) | (refine hS.hd 4 rfl rfl ?_) | (refine hS.hd0 5 rfl rfl ?_) | (refine hS.hd 5 rfl rfl ?_) | (refine hS.hd0 6 rfl rfl ?_) | (refine hS.hd 6 rfl rfl ?_) | (refine hS.hd0 7 rfl rfl ?_) | (refine hS.hd 7 rfl rfl ?_) | (refine hS.st0 0 rfl rfl rfl ?_; clear hS; intro _ hS) | (refine hS.st 0 rfl rfl rfl ?_; clear hS; intro _ hS) | (refine hS.st0 1 rfl rfl rfl ?_; clear hS; intro _ hS) | (refine hS.st 1 rfl rfl rfl ?_; clear hS; intro _ hS) | (refine hS.st0 2 rfl rfl rfl ?_; clear hS; intro _ hS) | (refine hS.st 2 rfl rfl rfl ?_; clear hS; intro _ hS) | (refine hS.st0 3 rfl rfl rfl ?_; clear hS; intro _ hS) | (refine hS.st 3 rfl rfl rfl ?_; clear hS; intro _ hS) | (refine hS.st0 4 rfl rfl rfl ?_; clear hS; intro _ hS) | (refine hS.st 4 rfl rfl rfl ?_; clear hS; intro _ hS) | (refine hS.st0 5 rfl rfl rfl ?_; clear hS; intro _ hS) | (refine hS.st 5 rfl rfl rfl ?_; clear hS; intro _ hS) | (refine hS.st0 6 rfl rfl rfl ?_; clear hS; intro _ hS) | (refine hS.st 6 rfl rfl rfl ?_; clear hS; intro _ hS) | (refine hS.st0 7 rfl rfl rfl ?_; clear hS; intro _ hS) | (refine hS.st 7 rfl rfl rfl ?_; clear hS; intro _ hS) | (refine bnd_mk (by decide) (by decide) ?_) | (refine so_i rfl ?_))
    exact hK _ hS.ext
  have hs : sideOk s = true := by simpa using h
  have hs1 : 1 ≤ s ∧ s ≤ 1099511627776 := by simpa [sideOk] using hs
  repeat (first | (refine asI_i rfl ?_) | (refine asB_i rfl ?_) | (refine asP_i rfl ?_) | (refine asS_i rfl ?_) | (refine asY_i rfl ?_) | (refine asM_i rfl ?_) | (refine asA_i rfl rfl ?_) | (refine asT_i rfl rfl ?_) | (refine lv_i ?_) | (refine St.nw hS ?_; clear hS; intro _ _ hS) | (refine St.dw hS ?_; clear hS; intro _ hS _) | (refine hS.ld0 0 rfl rfl ?_) | (refine hS.ld 0 rfl rfl ?_) | (refine hS.ld0 1 rfl rfl ?_) | (refine hS.ld 1 rfl rfl ?_) | (refine hS.ld0 2 rfl rfl ?_) | (refine hS.ld 2 rfl rfl ?_) | (refine hS.ld0 3 rfl rfl ?_) | (refine hS.ld 3 rfl rfl ?_) | (refine hS.ld0 4 rfl rfl ?_) | (refine hS.ld 4 rfl rfl ?_) | (refine hS.ld0 5 rfl rfl ?_) | (refine hS.ld 5 rfl rfl ?_) | (refine hS.ld0 6 rfl rfl ?_) | (refine hS.ld 6 rfl rfl ?_) | (refine hS.ld0 7 rfl rfl ?_) | (refine hS.ld 7 rfl rfl ?_) | (refine hS.hd0 0 rfl rfl ?_) | (refine hS.hd 0 rfl rfl ?_) | (refine hS.hd0 1 rfl rfl ?_) | (refine hS.hd 1 rfl rfl ?_) | (refine hS.hd0 2 rfl rfl ?_) | (refine hS.hd 2 rfl rfl ?_) | (refine hS.hd0 3 rfl rfl ?_) | (refine hS.hd 3 rfl rfl ?_) | (refine hS.hd0 4 rfl rfl ?_) | (refine hS.hd 4 rfl rfl ?_) | (refine hS.hd0 5 rfl rfl ?_) | (refine hS.hd 5 rfl rfl ?_) | (refine hS.hd0 6 rfl rfl ?_) | (refine hS.hd 6 rfl rfl ?_) | (refine hS.hd0 7 rfl rfl ?_) | (refine hS.hd 7 rfl rfl ?_) | (refine hS.st0 0 rfl rfl rfl ?_; clear hS; intro _ hS) | (refine hS.st 0 rfl rfl rfl ?_; clear hS; intro _ hS) | (refine hS.st0 1 rfl rfl rfl ?_; clear hS; intro _ hS) | (refine hS.st 1 rfl rfl rfl ?_; clear hS; intro _ hS) | (refine hS.st0 2 rfl rfl rfl ?_; clear hS; intro _ hS) | (refine hS.st 2 rfl rfl rfl ?_; clear hS; intro _ hS) | (refine hS.st0 3 rfl rfl rfl ?_; clear hS; intro _ hS) | (refine hS.st 3 rfl rfl rfl ?_; clear hS; intro _ hS) | (refine hS.st0 4 rfl rfl rfl ?_; clear hS; intro _ hS) | (refine hS.st 4 rfl rfl rfl ?_; clear hS; intro _ hS) | (refine hS.st0 5 rfl rfl rfl ?_; clear hS; intro _ hS) | (refine hS.st 5 rfl rfl rfl ?_; clear hS; intro _ hS) | (refine hS.st0 6 rfl rfl rfl ?_; clear hS; intro _ hS) | (refine hS.st 6 rfl rfl rfl ?_; clear hS; intro _ hS) | (refine hS.st0 7 rfl rfl rfl ?_; clear hS; intro _ hS) | (refine hS.st 7 rfl rfl rfl ?_; clear hS; intro _ hS) | (refine bnd_mk (by decide) (by decide) ?_) | (refine so_i rfl ?_))
  refine rdown_k hx hs1.1 ?_
  repeat (first | (refine asI_i rfl ?_) | (refine asB_i rfl ?_) | (refine asP_i rfl ?_) | (refine asS_i rfl ?_) | (refine asY_i rfl ?_) | (refine asM_i rfl ?_) | (refine asA_i rfl rfl ?_) | (refine asT_i rfl rfl ?_) | (refine lv_i ?_) | (refine St.nw hS ?_; clear hS; intro _ _ hS) | (refine St.dw hS ?_; clear hS; intro _ hS _) | (refine hS.ld0 0 rfl rfl ?_) | (refine hS.ld 0 rfl rfl ?_) | (refine hS.ld0 1 rfl rfl ?_) | (refine hS.ld 1 rfl rfl ?_) | (refine hS.ld0 2 rfl rfl ?_) | (refine hS.ld 2 rfl rfl ?_) | (refine hS.ld0 3 rfl rfl ?_) | (refine hS.ld 3 rfl rfl ?_) | (refine hS.ld0 4 rfl rfl ?_) | (refine hS.ld 4 rfl rfl ?_) | (refine hS.ld0 5 rfl rfl ?_) | (refine hS.ld 5 rfl rfl ?_) | (refine hS.ld0 6 rfl rfl ?_) | (refine hS.ld 6 rfl rfl ?_) | (refine hS.ld0 7 rfl rfl ?_) | (refine hS.ld 7 rfl rfl ?_) | (refine hS.hd0 0 rfl rfl ?_) | (refine hS.hd 0 rfl rfl ?_) | (refine hS.hd0 1 rfl rfl ?_) | (refine hS.hd 1 rfl rfl ?_) | (refine hS.hd0 2 rfl rfl ?_) | (refine hS.hd 2 rfl rfl ?_) | (refine hS.hd0 3 rfl rfl ?_) | (refine hS.hd 3 rfl rfl ?_) | (refine hS.hd0 4 rfl rfl ?_) | (refine hS.hd 4 rfl rfl ?_) | (refine hS.hd0 5 rfl rfl ?_) | (refine hS.hd 5 rfl rfl ?_) | (refine hS.hd0 6 rfl rfl ?_) | (refine hS.hd 6 rfl rfl ?_) | (refine hS.hd0 7 rfl rfl ?_) | (refine hS.hd 7 rfl rfl ?_) | (refine hS.st0 0 rfl rfl rfl ?_; clear hS; intro _ hS) | (refine hS.st 0 rfl rfl rfl ?_; clear hS; intro _ hS) | (refine hS.st0 1 rfl rfl rfl ?_; clear hS; intro _ hS) | (refine hS.st 1 rfl rfl rfl ?_; clear hS; intro _ hS) | (refine hS.st0 2 rfl rfl rfl ?_; clear hS; intro _ hS) | (refine hS.st 2 rfl rfl rfl ?_; clear hS; intro _ hS) | (refine hS.st0 3 rfl rfl rfl ?_; clear hS; intro _ hS) | (refine hS.st 3 rfl rfl rfl ?_; clear hS; intro _ hS) | (refine hS.st0 4 rfl rfl rfl ?_; clear hS; intro _ hS) | (refine hS.st 4 rfl rfl rfl ?_; clear hS; intro _ hS) | (refine hS.st0 5 rfl rfl rfl ?_; clear hS; intro _ hS) | (refine hS.st 5 rfl rfl rfl ?_; clear hS; intro _ hS) | (refine hS.st0 6 rfl rfl rfl ?_; clear hS; intro _ hS) | (refine hS.st 6 rfl rfl rfl ?_; clear hS; intro _ hS) | (refine hS.st0 7 rfl rfl rfl ?_; clear hS; intro _ hS) | (refine hS.st 7 rfl rfl rfl ?_; clear hS; intro _ hS) | (refine bnd_mk (by decide) (by decide) ?_) | (refine so_i rfl ?_))
  refine rdown_k hy hs1.1 ?_
  repeat (first | (refine asI_i rfl ?_) | (refine asB_i rfl ?_) | (refine asP_i rfl ?_) | (refine asS_i rfl ?_) | (refine asY_i rfl ?_) | (refine asM_i rfl ?_) | (refine asA_i rfl rfl ?_) | (refine asT_i rfl rfl ?_) | (refine lv_i ?_) | (refine St.nw hS ?_; clear hS; intro _ _ hS) | (refine St.dw hS ?_; clear hS; intro _ hS _) | (refine hS.ld0 0 rfl rfl ?_) | (refine hS.ld 0 rfl rfl ?_) | (refine hS.ld0 1 rfl rfl ?_) | (refine hS.ld 1 rfl rfl ?_) | (refine hS.ld0 2 rfl rfl ?_) | (refine hS.ld 2 rfl rfl ?_) | (refine hS.ld0 3 rfl rfl ?_) | (refine hS.ld 3 rfl rfl ?_) | (refine hS.ld0 4 rfl rfl ?_) | (refine hS.ld 4 rfl rfl ?_) | (refine hS.ld0 5 rfl rfl ?_) | (refine hS.ld 5 rfl rfl ?_) | (refine hS.ld0 6 rfl rfl ?_) | (refine hS.ld 6 rfl rfl ?_) | (refine hS.ld0 7 rfl rfl ?_) | (refine hS.ld 7 rfl rfl ?_) | (refine hS.hd0 0 rfl rfl ?_) | (refine hS.hd 0 rfl rfl ?_) | (refine hS.hd0 1 rfl rfl ?_) | (refine hS.hd 1 rfl rfl ?_) | (refine hS.hd0 2 rfl rfl ?_) | (refine hS.hd 2 rfl rfl ?_) | (refine hS.hd0 3 rfl rfl ?_) | (refine hS.hd 3 rfl rfl ?_) | (refine hS.hd0 4 rfl rfl ?_) | (refine hS.hd 4 rfl rfl ?_) | (refine hS.hd0 5 rfl rfl ?_) | (refine hS.hd 5 rfl rfl ?_) | (refine hS.hd0 6 rfl rfl ?_) | (refine hS.hd 6 rfl rfl ?_) | (refine hS.hd0 7 rfl rfl ?_) | (refine hS.hd 7 rfl rfl ?_) | (refine hS.st0 0 rfl rfl rfl ?_; clear hS; intro _ hS) | (refine hS.st 0 rfl rfl rfl ?_; clear hS; intro _ hS) | (refine hS.st0 1 rfl rfl rfl ?_; clear hS; intro _ hS) | (refine hS.st 1 rfl rfl rfl ?_; clear hS; intro _ hS) | (refine hS.st0 2 rfl rfl rfl ?_; clear hS; intro _ hS) | (refine hS.st 2 rfl rfl rfl ?_; clear hS; intro _ hS) | (refine hS.st0 3 rfl rfl rfl ?_; clear hS; intro _ hS) | (refine hS.st 3 rfl rfl rfl ?_; clear hS; intro _ hS) | (refine hS.st0 4 rfl rfl rfl ?_; clear hS; intro _ hS) | (refine hS.st 4 rfl rfl rfl ?_; clear hS; intro _ hS) | (refine hS.st0 5 rfl rfl rfl ?_; clear hS; intro _ hS) | (refine hS.st 5 rfl rfl rfl ?_; clear hS; intro _ hS) | (refine hS.st0 6 rfl rfl rfl ?_; clear hS; intro _ hS) | (refine hS.st 6 rfl rfl rfl ?_; clear hS; intro _ hS) | (refine hS.st0 7 rfl rfl rfl ?_; clear hS; intro _ hS) | (refine hS.st 7 rfl rfl rfl ?_; clear hS; intro _ hS) | (refine bnd_mk (by decide) (by decide) ?_) | (refine so_i rfl ?_))
  refine rok_k (asB_i rfl (rok_k (asB_i rfl ?_)))
  have hE : gcellE s x y = if (okN (x / s) && okN (y / s)) = true then 0 else 40 := by unfold gcellE; rw [if_pos hs, isCell_ok]
  unfold gcellP at hK
  refine jn_of (fun t w' => t = [.bool (!(okN (x / s) && okN (y / s)))] ∧ St w w' [(r3, [.int .i64 0, .int .i64 0], 55), (r1, [.int .i64 x, .int .i64 y], 23)]) ?_ ?_
  · clear hS
    rintro _ w1 ⟨rfl, hS⟩
    refine asB_i rfl (cond_split (fun h => ?_) (fun h => ?_))
    · have hc : (okN (x / s) && okN (y / s)) = false := by revert h; cases okN (x / s) <;> cases okN (y / s) <;> simp
      rw [if_neg (by rw [hc]; decide)] at hE
      rw [hE, if_neg (by decide)] at hK
      repeat (first | (refine asI_i rfl ?_) | (refine asB_i rfl ?_) | (refine asP_i rfl ?_) | (refine asS_i rfl ?_) | (refine asY_i rfl ?_) | (refine asM_i rfl ?_) | (refine asA_i rfl rfl ?_) | (refine asT_i rfl rfl ?_) | (refine lv_i ?_) | (refine St.nw hS ?_; clear hS; intro _ _ hS) | (refine St.dw hS ?_; clear hS; intro _ hS _) | (refine hS.ld0 0 rfl rfl ?_) | (refine hS.ld 0 rfl rfl ?_) | (refine hS.ld0 1 rfl rfl ?_) | (refine hS.ld 1 rfl rfl ?_) | (refine hS.ld0 2 rfl rfl ?_) | (refine hS.ld 2 rfl rfl ?_) | (refine hS.ld0 3 rfl rfl ?_) | (refine hS.ld 3 rfl rfl ?_) | (refine hS.ld0 4 rfl rfl ?_) | (refine hS.ld 4 rfl rfl ?_) | (refine hS.ld0 5 rfl rfl ?_) | (refine hS.ld 5 rfl rfl ?_) | (refine hS.ld0 6 rfl rfl ?_) | (refine hS.ld 6 rfl rfl ?_) | (refine hS.ld0 7 rfl rfl ?_) | (refine hS.ld 7 rfl rfl ?_) | (refine hS.hd0 0 rfl rfl ?_) | (refine hS.hd 0 rfl rfl ?_) | (refine hS.hd0 1 rfl rfl ?_) | (refine hS.hd 1 rfl rfl ?_) | (refine hS.hd0 2 rfl rfl ?_) | (refine hS.hd 2 rfl rfl ?_) | (refine hS.hd0 3 rfl rfl ?_) | (refine hS.hd 3 rfl rfl ?_) | (refine hS.hd0 4 rfl rfl ?_) | (refine hS.hd 4 rfl rfl ?_) | (refine hS.hd0 5 rfl rfl ?_) | (refine hS.hd 5 rfl rfl ?_) | (refine hS.hd0 6 rfl rfl ?_) | (refine hS.hd 6 rfl rfl ?_) | (refine hS.hd0 7 rfl rfl ?_) | (refine hS.hd 7 rfl rfl ?_) | (refine hS.st0 0 rfl rfl rfl ?_; clear hS; intro _ hS) | (refine hS.st 0 rfl rfl rfl ?_; clear hS; intro _ hS) | (refine hS.st0 1 rfl rfl rfl ?_; clear hS; intro _ hS) | (refine hS.st 1 rfl rfl rfl ?_; clear hS; intro _ hS) | (refine hS.st0 2 rfl rfl rfl ?_; clear hS; intro _ hS) | (refine hS.st 2 rfl rfl rfl ?_; clear hS; intro _ hS) | (refine hS.st0 3 rfl rfl rfl ?_; clear hS; intro _ hS) | (refine hS.st 3 rfl rfl rfl ?_; clear hS; intro _ hS) | (refine hS.st0 4 rfl rfl rfl ?_; clear hS; intro _ hS) | (refine hS.st 4 rfl rfl rfl ?_; clear hS; intro _ hS) | (refine hS.st0 5 rfl rfl rfl ?_; clear hS; intro _ hS) | (refine hS.st 5 rfl rfl rfl ?_; clear hS; intro _ hS) | (refine hS.st0 6 rfl rfl rfl ?_; clear hS; intro _ hS) | (refine hS.st 6 rfl rfl rfl ?_; clear hS; intro _ hS) | (refine hS.st0 7 rfl rfl rfl ?_; clear hS; intro _ hS) | (refine hS.st 7 rfl rfl rfl ?_; clear hS; intro _ hS) | (refine bnd_mk (by decide) (by decide) ?_) | (refine so_i rfl ?_))
      exact hK _ hS.ext
    · rw [if_pos (by simpa using h)] at hE
      rw [hE, if_pos rfl] at hK
      repeat (first | (refine asI_i rfl ?_) | (refine asB_i rfl ?_) | (refine asP_i rfl ?_) | (refine asS_i rfl ?_) | (refine asY_i rfl ?_) | (refine asM_i rfl ?_) | (refine asA_i rfl rfl ?_) | (refine asT_i rfl rfl ?_) | (refine lv_i ?_) | (refine St.nw hS ?_; clear hS; intro _ _ hS) | (refine St.dw hS ?_; clear hS; intro _ hS _) | (refine hS.ld0 0 rfl rfl ?_) | (refine hS.ld 0 rfl rfl ?_) | (refine hS.ld0 1 rfl rfl ?_) | (refine hS.ld 1 rfl rfl ?_) | (refine hS.ld0 2 rfl rfl ?_) | (refine hS.ld 2 rfl rfl ?_) | (refine hS.ld0 3 rfl rfl ?_) | (refine hS.ld 3 rfl rfl ?_) | (refine hS.ld0 4 rfl rfl ?_) | (refine hS.ld 4 rfl rfl ?_) | (refine hS.ld0 5 rfl rfl ?_) | (refine hS.ld 5 rfl rfl ?_) | (refine hS.ld0 6 rfl rfl ?_) | (refine hS.ld 6 rfl rfl ?_) | (refine hS.ld0 7 rfl rfl ?_) | (refine hS.ld 7 rfl rfl ?_) | (refine hS.hd0 0 rfl rfl ?_) | (refine hS.hd 0 rfl rfl ?_) | (refine hS.hd0 1 rfl rfl ?_) | (refine hS.hd 1 rfl rfl ?_) | (refine hS.hd0 2 rfl rfl ?_) | (refine hS.hd 2 rfl rfl ?_) | (refine hS.hd0 3 rfl rfl ?_) | (refine hS.hd 3 rfl rfl ?_) | (refine hS.hd0 4 rfl rfl ?_) | (refine hS.hd 4 rfl rfl ?_) | (refine hS.hd0 5 rfl rfl ?_) | (refine hS.hd 5 rfl rfl ?_) | (refine hS.hd0 6 rfl rfl ?_) | (refine hS.hd 6 rfl rfl ?_) | (refine hS.hd0 7 rfl rfl ?_) | (refine hS.hd 7 rfl rfl ?_) | (refine hS.st0 0 rfl rfl rfl ?_; clear hS; intro _ hS) | (refine hS.st 0 rfl rfl rfl ?_; clear hS; intro _ hS) | (refine hS.st0 1 rfl rfl rfl ?_; clear hS; intro _ hS) | (refine hS.st 1 rfl rfl rfl ?_; clear hS; intro _ hS) | (refine hS.st0 2 rfl rfl rfl ?_; clear hS; intro _ hS) | (refine hS.st 2 rfl rfl rfl ?_; clear hS; intro _ hS) | (refine hS.st0 3 rfl rfl rfl ?_; clear hS; intro _ hS) | (refine hS.st 3 rfl rfl rfl ?_; clear hS; intro _ hS) | (refine hS.st0 4 rfl rfl rfl ?_; clear hS; intro _ hS) | (refine hS.st 4 rfl rfl rfl ?_; clear hS; intro _ hS) | (refine hS.st0 5 rfl rfl rfl ?_; clear hS; intro _ hS) | (refine hS.st 5 rfl rfl rfl ?_; clear hS; intro _ hS) | (refine hS.st0 6 rfl rfl rfl ?_; clear hS; intro _ hS) | (refine hS.st 6 rfl rfl rfl ?_; clear hS; intro _ hS) | (refine hS.st0 7 rfl rfl rfl ?_; clear hS; intro _ hS) | (refine hS.st 7 rfl rfl rfl ?_; clear hS; intro _ hS) | (refine bnd_mk (by decide) (by decide) ?_) | (refine so_i rfl ?_))
      exact hK _ hS.ext
  · intro J hJ
    refine cond_split (fun h => hJ _ _ ⟨?_, hS⟩) (fun h => hJ _ _ ⟨?_, hS⟩)
    · have : okN (x / s) = false := by simpa using h
      rw [this]; rfl
    · have : okN (x / s) = true := by simpa using h
      rw [this]; rfl

set_option maxRecDepth 100000 in
theorem sP : SlN Try.prog 58 55 2 16 := ⟨rfl, ⟨_, _, rfl, rfl, rfl, rfl, rfl⟩, by decide⟩
theorem pv_one (p : Int × Int) : ∀ u ∈ pv p, Sx.one u = true := by
  intro u hu
  simp only [pv, List.mem_cons, List.mem_nil_iff, or_false] at hu
  rcases hu with rfl | rfl <;> rfl

set_option maxHeartbeats 2000000 in
theorem rcells_k {s : Int} {b : Bx} {w : World} {K : Value → World → Prop}
    (hK : ∀ p c w', Ext no w w' → RowN w' w.heap.size 55 2 p c (cellsL' s b).length ((cellsL' s b).flatMap pv) → K (.tuple #[.slice p (cellsL' s b).length c, .int .i64 (cellsE s b)]) w') :
    cl Try.prog 26 #[.int .i64 s, b.v] w K := by
  have bad : ∀ e, cellsE s b = e → e ≠ 0 → ∀ w', Ext no w w' → K (.tuple #[.slice none 0 0, .int .i64 e]) w' := by
    intro e he h0 w' hx
    have hl : cellsL' s b = [] := by unfold cellsL'; rw [if_neg (by rw [he]; exact h0)]
    have := hK none 0 w' hx (by rw [hl]; exact RowN.nil _ _ _ _)
    rw [hl, he] at this
    exact this
  apply F26_calls
  unfold F26
  have hS := St.start w
  (refine St.nw hS ?_; clear hS; intro r1 _ hS)
  refine lv_i (rside_k (asB_i rfl (cond_split (fun h => ?_) (fun h => ?_))))
  · refine lv_i (bad 1 ?_ (by decide) _ hS.ext)
    unfold cellsE
    rw [if_neg (by simpa using h)]
  have hs : sideOk s = true := by simpa using h
  have hs1 : 1 ≤ s ∧ s ≤ 1099511627776 := by simpa [sideOk] using hs
  repeat (first | (refine rright_k (b := b) ?_; intro _ x; replace hS := hS.to x; clear x) | (refine asI_i rfl ?_) | (refine asB_i rfl ?_) | (refine asP_i rfl ?_) | (refine asS_i rfl ?_) | (refine asY_i rfl ?_) | (refine asM_i rfl ?_) | (refine asA_i rfl rfl ?_) | (refine asT_i rfl rfl ?_) | (refine lv_i ?_) | (refine St.nw hS ?_; clear hS; intro _ _ hS) | (refine St.dw hS ?_; clear hS; intro _ hS _) | (refine hS.ld0 0 rfl rfl ?_) | (refine hS.ld 0 rfl rfl ?_) | (refine hS.ld0 1 rfl rfl ?_) | (refine hS.ld 1 rfl rfl ?_) | (refine hS.ld0 2 rfl rfl ?_) | (refine hS.ld 2 rfl rfl ?_) | (refine hS.ld0 3 rfl rfl ?_) | (refine hS.ld 3 rfl rfl ?_) | (refine hS.ld0 4 rfl rfl ?_) | (refine hS.ld 4 rfl rfl ?_) | (refine hS.ld0 5 rfl rfl ?_) | (refine hS.ld 5 rfl rfl ?_) | (refine hS.ld0 6 rfl rfl ?_) | (refine hS.ld 6 rfl rfl ?_) | (refine hS.ld0 7 rfl rfl ?_) | (refine hS.ld 7 rfl rfl ?_) | (refine hS.hd0 0 rfl rfl ?_) | (refine hS.hd 0 rfl rfl ?_) | (refine hS.hd0 1 rfl rfl ?_) | (refine hS.hd 1 rfl rfl ?_) | (refine hS.hd0 2 rfl rfl ?_) | (refine hS.hd 2 rfl rfl ?_) | (refine hS.hd0 3 rfl rfl ?_) | (refine hS.hd 3 rfl rfl ?_) | (refine hS.hd0 4 rfl rfl ?_) | (refine hS.hd 4 rfl rfl ?_) | (refine hS.hd0 5 rfl rfl ?_) | (refine hS.hd 5 rfl rfl ?_) | (refine hS.hd0 6 rfl rfl ?_) | (refine hS.hd 6 rfl rfl ?_) | (refine hS.hd0 7 rfl rfl ?_) | (refine hS.hd 7 rfl rfl ?_) | (refine hS.st0 0 rfl rfl rfl ?_; clear hS; intro _ hS) | (refine hS.st 0 rfl rfl rfl ?_; clear hS; intro _ hS) | (refine hS.st0 1 rfl rfl rfl ?_; clear hS; intro _ hS) | (refine hS.st 1 rfl rfl rfl ?_; clear hS; intro _ hS) | (refine hS.st0 2 rfl rfl rfl ?_; clear hS; intro _ hS) | (refine hS.st 2 rfl rfl rfl ?_; clear hS; intro _ hS) | (refine hS.st0 3 rfl rfl rfl ?_; clear hS; intro _ hS) | (refine hS.st 3 rfl rfl rfl ?_; clear hS; intro _ hS) | (refine hS.st0 4 rfl rfl rfl ?_; clear hS; intro _ hS) | (refine hS.st 4 rfl rfl rfl ?_; clear hS; intro _ hS) | (refine hS.st0 5 rfl rfl rfl ?_; clear hS; intro _ hS) | (refine hS.st 5 rfl rfl rfl ?_; clear hS; intro _ hS) | (refine hS.st0 6 rfl rfl rfl ?_; clear hS; intro _ hS) | (refine hS.st 6 rfl rfl rfl ?_; clear hS; intro _ hS) | (refine hS.st0 7 rfl rfl rfl ?_; clear hS; intro _ hS) | (refine hS.st 7 rfl rfl rfl ?_; clear hS; intro _ hS) | (refine bnd_mk (by decide) (by decide) ?_) | (refine so_i rfl ?_))
  refine cond_split (fun h => ?_) (fun h => ?_)
  · refine lv_i (bad 60 ?_ (by decide) _ hS.ext)
    unfold cellsE
    rw [if_pos hs, if_neg (by simpa using h)]
  have hr : b.right = true := by simpa using h
  have hb := right_iff.1 hr
  have e1 : IntKind.wrap .i64 (b.x - b.r) = b.x - b.r := wr64 (by omega) (by omega)
  have e2 : IntKind.wrap .i64 (b.y - b.r) = b.y - b.r := wr64 (by omega) (by omega)
  have e3 : IntKind.wrap .i64 (IntKind.wrap .i64 (b.x + b.r) - 1) = b.x + b.r - 1 := by rw [wr64 (n := b.x + b.r) (by omega) (by omega), wr64 (by omega) (by omega)]
  have e4 : IntKind.wrap .i64 (IntKind.wrap .i64 (b.y + b.r) - 1) = b.y + b.r - 1 := by rw [wr64 (n := b.y + b.r) (by omega) (by omega), wr64 (by omega) (by omega)]
  repeat (first | (refine asI_i rfl ?_) | (refine asB_i rfl ?_) | (refine asP_i rfl ?_) | (refine asS_i rfl ?_) | (refine asY_i rfl ?_) | (refine asM_i rfl ?_) | (refine asA_i rfl rfl ?_) | (refine asT_i rfl rfl ?_) | (refine lv_i ?_) | (refine St.nw hS ?_; clear hS; intro _ _ hS) | (refine St.dw hS ?_; clear hS; intro _ hS _) | (refine hS.ld0 0 rfl rfl ?_) | (refine hS.ld 0 rfl rfl ?_) | (refine hS.ld0 1 rfl rfl ?_) | (refine hS.ld 1 rfl rfl ?_) | (refine hS.ld0 2 rfl rfl ?_) | (refine hS.ld 2 rfl rfl ?_) | (refine hS.ld0 3 rfl rfl ?_) | (refine hS.ld 3 rfl rfl ?_) | (refine hS.ld0 4 rfl rfl ?_) | (refine hS.ld 4 rfl rfl ?_) | (refine hS.ld0 5 rfl rfl ?_) | (refine hS.ld 5 rfl rfl ?_) | (refine hS.ld0 6 rfl rfl ?_) | (refine hS.ld 6 rfl rfl ?_) | (refine hS.ld0 7 rfl rfl ?_) | (refine hS.ld 7 rfl rfl ?_) | (refine hS.hd0 0 rfl rfl ?_) | (refine hS.hd 0 rfl rfl ?_) | (refine hS.hd0 1 rfl rfl ?_) | (refine hS.hd 1 rfl rfl ?_) | (refine hS.hd0 2 rfl rfl ?_) | (refine hS.hd 2 rfl rfl ?_) | (refine hS.hd0 3 rfl rfl ?_) | (refine hS.hd 3 rfl rfl ?_) | (refine hS.hd0 4 rfl rfl ?_) | (refine hS.hd 4 rfl rfl ?_) | (refine hS.hd0 5 rfl rfl ?_) | (refine hS.hd 5 rfl rfl ?_) | (refine hS.hd0 6 rfl rfl ?_) | (refine hS.hd 6 rfl rfl ?_) | (refine hS.hd0 7 rfl rfl ?_) | (refine hS.hd 7 rfl rfl ?_) | (refine hS.st0 0 rfl rfl rfl ?_; clear hS; intro _ hS) | (refine hS.st 0 rfl rfl rfl ?_; clear hS; intro _ hS) | (refine hS.st0 1 rfl rfl rfl ?_; clear hS; intro _ hS) | (refine hS.st 1 rfl rfl rfl ?_; clear hS; intro _ hS) | (refine hS.st0 2 rfl rfl rfl ?_; clear hS; intro _ hS) | (refine hS.st 2 rfl rfl rfl ?_; clear hS; intro _ hS) | (refine hS.st0 3 rfl rfl rfl ?_; clear hS; intro _ hS) | (refine hS.st 3 rfl rfl rfl ?_; clear hS; intro _ hS) | (refine hS.st0 4 rfl rfl rfl ?_; clear hS; intro _ hS) | (refine hS.st 4 rfl rfl rfl ?_; clear hS; intro _ hS) | (refine hS.st0 5 rfl rfl rfl ?_; clear hS; intro _ hS) | (refine hS.st 5 rfl rfl rfl ?_; clear hS; intro _ hS) | (refine hS.st0 6 rfl rfl rfl ?_; clear hS; intro _ hS) | (refine hS.st 6 rfl rfl rfl ?_; clear hS; intro _ hS) | (refine hS.st0 7 rfl rfl rfl ?_; clear hS; intro _ hS) | (refine hS.st 7 rfl rfl rfl ?_; clear hS; intro _ hS) | (refine bnd_mk (by decide) (by decide) ?_) | (refine so_i rfl ?_))
  rw [e1]
  refine rdown_k (by unfold I64; omega) hs1.1 ?_
  repeat (first | (refine asI_i rfl ?_) | (refine asB_i rfl ?_) | (refine asP_i rfl ?_) | (refine asS_i rfl ?_) | (refine asY_i rfl ?_) | (refine asM_i rfl ?_) | (refine asA_i rfl rfl ?_) | (refine asT_i rfl rfl ?_) | (refine lv_i ?_) | (refine St.nw hS ?_; clear hS; intro _ _ hS) | (refine St.dw hS ?_; clear hS; intro _ hS _) | (refine hS.ld0 0 rfl rfl ?_) | (refine hS.ld 0 rfl rfl ?_) | (refine hS.ld0 1 rfl rfl ?_) | (refine hS.ld 1 rfl rfl ?_) | (refine hS.ld0 2 rfl rfl ?_) | (refine hS.ld 2 rfl rfl ?_) | (refine hS.ld0 3 rfl rfl ?_) | (refine hS.ld 3 rfl rfl ?_) | (refine hS.ld0 4 rfl rfl ?_) | (refine hS.ld 4 rfl rfl ?_) | (refine hS.ld0 5 rfl rfl ?_) | (refine hS.ld 5 rfl rfl ?_) | (refine hS.ld0 6 rfl rfl ?_) | (refine hS.ld 6 rfl rfl ?_) | (refine hS.ld0 7 rfl rfl ?_) | (refine hS.ld 7 rfl rfl ?_) | (refine hS.hd0 0 rfl rfl ?_) | (refine hS.hd 0 rfl rfl ?_) | (refine hS.hd0 1 rfl rfl ?_) | (refine hS.hd 1 rfl rfl ?_) | (refine hS.hd0 2 rfl rfl ?_) | (refine hS.hd 2 rfl rfl ?_) | (refine hS.hd0 3 rfl rfl ?_) | (refine hS.hd 3 rfl rfl ?_) | (refine hS.hd0 4 rfl rfl ?_) | (refine hS.hd 4 rfl rfl ?_) | (refine hS.hd0 5 rfl rfl ?_) | (refine hS.hd 5 rfl rfl ?_) | (refine hS.hd0 6 rfl rfl ?_) | (refine hS.hd 6 rfl rfl ?_) | (refine hS.hd0 7 rfl rfl ?_) | (refine hS.hd 7 rfl rfl ?_) | (refine hS.st0 0 rfl rfl rfl ?_; clear hS; intro _ hS) | (refine hS.st 0 rfl rfl rfl ?_; clear hS; intro _ hS) | (refine hS.st0 1 rfl rfl rfl ?_; clear hS; intro _ hS) | (refine hS.st 1 rfl rfl rfl ?_; clear hS; intro _ hS) | (refine hS.st0 2 rfl rfl rfl ?_; clear hS; intro _ hS) | (refine hS.st 2 rfl rfl rfl ?_; clear hS; intro _ hS) | (refine hS.st0 3 rfl rfl rfl ?_; clear hS; intro _ hS) | (refine hS.st 3 rfl rfl rfl ?_; clear hS; intro _ hS) | (refine hS.st0 4 rfl rfl rfl ?_; clear hS; intro _ hS) | (refine hS.st 4 rfl rfl rfl ?_; clear hS; intro _ hS) | (refine hS.st0 5 rfl rfl rfl ?_; clear hS; intro _ hS) | (refine hS.st 5 rfl rfl rfl ?_; clear hS; intro _ hS) | (refine hS.st0 6 rfl rfl rfl ?_; clear hS; intro _ hS) | (refine hS.st 6 rfl rfl rfl ?_; clear hS; intro _ hS) | (refine hS.st0 7 rfl rfl rfl ?_; clear hS; intro _ hS) | (refine hS.st 7 rfl rfl rfl ?_; clear hS; intro _ hS) | (refine bnd_mk (by decide) (by decide) ?_) | (refine so_i rfl ?_))
  rw [e2]
  refine rdown_k (by unfold I64; omega) hs1.1 ?_
  repeat (first | (refine asI_i rfl ?_) | (refine asB_i rfl ?_) | (refine asP_i rfl ?_) | (refine asS_i rfl ?_) | (refine asY_i rfl ?_) | (refine asM_i rfl ?_) | (refine asA_i rfl rfl ?_) | (refine asT_i rfl rfl ?_) | (refine lv_i ?_) | (refine St.nw hS ?_; clear hS; intro _ _ hS) | (refine St.dw hS ?_; clear hS; intro _ hS _) | (refine hS.ld0 0 rfl rfl ?_) | (refine hS.ld 0 rfl rfl ?_) | (refine hS.ld0 1 rfl rfl ?_) | (refine hS.ld 1 rfl rfl ?_) | (refine hS.ld0 2 rfl rfl ?_) | (refine hS.ld 2 rfl rfl ?_) | (refine hS.ld0 3 rfl rfl ?_) | (refine hS.ld 3 rfl rfl ?_) | (refine hS.ld0 4 rfl rfl ?_) | (refine hS.ld 4 rfl rfl ?_) | (refine hS.ld0 5 rfl rfl ?_) | (refine hS.ld 5 rfl rfl ?_) | (refine hS.ld0 6 rfl rfl ?_) | (refine hS.ld 6 rfl rfl ?_) | (refine hS.ld0 7 rfl rfl ?_) | (refine hS.ld 7 rfl rfl ?_) | (refine hS.hd0 0 rfl rfl ?_) | (refine hS.hd 0 rfl rfl ?_) | (refine hS.hd0 1 rfl rfl ?_) | (refine hS.hd 1 rfl rfl ?_) | (refine hS.hd0 2 rfl rfl ?_) | (refine hS.hd 2 rfl rfl ?_) | (refine hS.hd0 3 rfl rfl ?_) | (refine hS.hd 3 rfl rfl ?_) | (refine hS.hd0 4 rfl rfl ?_) | (refine hS.hd 4 rfl rfl ?_) | (refine hS.hd0 5 rfl rfl ?_) | (refine hS.hd 5 rfl rfl ?_) | (refine hS.hd0 6 rfl rfl ?_) | (refine hS.hd 6 rfl rfl ?_) | (refine hS.hd0 7 rfl rfl ?_) | (refine hS.hd 7 rfl rfl ?_) | (refine hS.st0 0 rfl rfl rfl ?_; clear hS; intro _ hS) | (refine hS.st 0 rfl rfl rfl ?_; clear hS; intro _ hS) | (refine hS.st0 1 rfl rfl rfl ?_; clear hS; intro _ hS) | (refine hS.st 1 rfl rfl rfl ?_; clear hS; intro _ hS) | (refine hS.st0 2 rfl rfl rfl ?_; clear hS; intro _ hS) | (refine hS.st 2 rfl rfl rfl ?_; clear hS; intro _ hS) | (refine hS.st0 3 rfl rfl rfl ?_; clear hS; intro _ hS) | (refine hS.st 3 rfl rfl rfl ?_; clear hS; intro _ hS) | (refine hS.st0 4 rfl rfl rfl ?_; clear hS; intro _ hS) | (refine hS.st 4 rfl rfl rfl ?_; clear hS; intro _ hS) | (refine hS.st0 5 rfl rfl rfl ?_; clear hS; intro _ hS) | (refine hS.st 5 rfl rfl rfl ?_; clear hS; intro _ hS) | (refine hS.st0 6 rfl rfl rfl ?_; clear hS; intro _ hS) | (refine hS.st 6 rfl rfl rfl ?_; clear hS; intro _ hS) | (refine hS.st0 7 rfl rfl rfl ?_; clear hS; intro _ hS) | (refine hS.st 7 rfl rfl rfl ?_; clear hS; intro _ hS) | (refine bnd_mk (by decide) (by decide) ?_) | (refine so_i rfl ?_))
  rw [e3]
  refine rdown_k (by unfold I64; omega) hs1.1 ?_
  repeat (first | (refine asI_i rfl ?_) | (refine asB_i rfl ?_) | (refine asP_i rfl ?_) | (refine asS_i rfl ?_) | (refine asY_i rfl ?_) | (refine asM_i rfl ?_) | (refine asA_i rfl rfl ?_) | (refine asT_i rfl rfl ?_) | (refine lv_i ?_) | (refine St.nw hS ?_; clear hS; intro _ _ hS) | (refine St.dw hS ?_; clear hS; intro _ hS _) | (refine hS.ld0 0 rfl rfl ?_) | (refine hS.ld 0 rfl rfl ?_) | (refine hS.ld0 1 rfl rfl ?_) | (refine hS.ld 1 rfl rfl ?_) | (refine hS.ld0 2 rfl rfl ?_) | (refine hS.ld 2 rfl rfl ?_) | (refine hS.ld0 3 rfl rfl ?_) | (refine hS.ld 3 rfl rfl ?_) | (refine hS.ld0 4 rfl rfl ?_) | (refine hS.ld 4 rfl rfl ?_) | (refine hS.ld0 5 rfl rfl ?_) | (refine hS.ld 5 rfl rfl ?_) | (refine hS.ld0 6 rfl rfl ?_) | (refine hS.ld 6 rfl rfl ?_) | (refine hS.ld0 7 rfl rfl ?_) | (refine hS.ld 7 rfl rfl ?_) | (refine hS.hd0 0 rfl rfl ?_) | (refine hS.hd 0 rfl rfl ?_) | (refine hS.hd0 1 rfl rfl ?_) | (refine hS.hd 1 rfl rfl ?_) | (refine hS.hd0 2 rfl rfl ?_) | (refine hS.hd 2 rfl rfl ?_) | (refine hS.hd0 3 rfl rfl ?_) | (refine hS.hd 3 rfl rfl ?_) | (refine hS.hd0 4 rfl rfl ?_) | (refine hS.hd 4 rfl rfl ?_) | (refine hS.hd0 5 rfl rfl ?_) | (refine hS.hd 5 rfl rfl ?_) | (refine hS.hd0 6 rfl rfl ?_) | (refine hS.hd 6 rfl rfl ?_) | (refine hS.hd0 7 rfl rfl ?_) | (refine hS.hd 7 rfl rfl ?_) | (refine hS.st0 0 rfl rfl rfl ?_; clear hS; intro _ hS) | (refine hS.st 0 rfl rfl rfl ?_; clear hS; intro _ hS) | (refine hS.st0 1 rfl rfl rfl ?_; clear hS; intro _ hS) | (refine hS.st 1 rfl rfl rfl ?_; clear hS; intro _ hS) | (refine hS.st0 2 rfl rfl rfl ?_; clear hS; intro _ hS) | (refine hS.st 2 rfl rfl rfl ?_; clear hS; intro _ hS) | (refine hS.st0 3 rfl rfl rfl ?_; clear hS; intro _ hS) | (refine hS.st 3 rfl rfl rfl ?_; clear hS; intro _ hS) | (refine hS.st0 4 rfl rfl rfl ?_; clear hS; intro _ hS) | (refine hS.st 4 rfl rfl rfl ?_; clear hS; intro _ hS) | (refine hS.st0 5 rfl rfl rfl ?_; clear hS; intro _ hS) | (refine hS.st 5 rfl rfl rfl ?_; clear hS; intro _ hS) | (refine hS.st0 6 rfl rfl rfl ?_; clear hS; intro _ hS) | (refine hS.st 6 rfl rfl rfl ?_; clear hS; intro _ hS) | (refine hS.st0 7 rfl rfl rfl ?_; clear hS; intro _ hS) | (refine hS.st 7 rfl rfl rfl ?_; clear hS; intro _ hS) | (refine bnd_mk (by decide) (by decide) ?_) | (refine so_i rfl ?_))
  rw [e4]
  refine rdown_k (by unfold I64; omega) hs1.1 ?_
  repeat (first | (refine asI_i rfl ?_) | (refine asB_i rfl ?_) | (refine asP_i rfl ?_) | (refine asS_i rfl ?_) | (refine asY_i rfl ?_) | (refine asM_i rfl ?_) | (refine asA_i rfl rfl ?_) | (refine asT_i rfl rfl ?_) | (refine lv_i ?_) | (refine St.nw hS ?_; clear hS; intro _ _ hS) | (refine St.dw hS ?_; clear hS; intro _ hS _) | (refine hS.ld0 0 rfl rfl ?_) | (refine hS.ld 0 rfl rfl ?_) | (refine hS.ld0 1 rfl rfl ?_) | (refine hS.ld 1 rfl rfl ?_) | (refine hS.ld0 2 rfl rfl ?_) | (refine hS.ld 2 rfl rfl ?_) | (refine hS.ld0 3 rfl rfl ?_) | (refine hS.ld 3 rfl rfl ?_) | (refine hS.ld0 4 rfl rfl ?_) | (refine hS.ld 4 rfl rfl ?_) | (refine hS.ld0 5 rfl rfl ?_) | (refine hS.ld 5 rfl rfl ?_) | (refine hS.ld0 6 rfl rfl ?_) | (refine hS.ld 6 rfl rfl ?_) | (refine hS.ld0 7 rfl rfl ?_) | (refine hS.ld 7 rfl rfl ?_) | (refine hS.hd0 0 rfl rfl ?_) | (refine hS.hd 0 rfl rfl ?_) | (refine hS.hd0 1 rfl rfl ?_) | (refine hS.hd 1 rfl rfl ?_) | (refine hS.hd0 2 rfl rfl ?_) | (refine hS.hd 2 rfl rfl ?_) | (refine hS.hd0 3 rfl rfl ?_) | (refine hS.hd 3 rfl rfl ?_) | (refine hS.hd0 4 rfl rfl ?_) | (refine hS.hd 4 rfl rfl ?_) | (refine hS.hd0 5 rfl rfl ?_) | (refine hS.hd 5 rfl rfl ?_) | (refine hS.hd0 6 rfl rfl ?_) | (refine hS.hd 6 rfl rfl ?_) | (refine hS.hd0 7 rfl rfl ?_) | (refine hS.hd 7 rfl rfl ?_) | (refine hS.st0 0 rfl rfl rfl ?_; clear hS; intro _ hS) | (refine hS.st 0 rfl rfl rfl ?_; clear hS; intro _ hS) | (refine hS.st0 1 rfl rfl rfl ?_; clear hS; intro _ hS) | (refine hS.st 1 rfl rfl rfl ?_; clear hS; intro _ hS) | (refine hS.st0 2 rfl rfl rfl ?_; clear hS; intro _ hS) | (refine hS.st 2 rfl rfl rfl ?_; clear hS; intro _ hS) | (refine hS.st0 3 rfl rfl rfl ?_; clear hS; intro _ hS) | (refine hS.st 3 rfl rfl rfl ?_; clear hS; intro _ hS) | (refine hS.st0 4 rfl rfl rfl ?_; clear hS; intro _ hS) | (refine hS.st 4 rfl rfl rfl ?_; clear hS; intro _ hS) | (refine hS.st0 5 rfl rfl rfl ?_; clear hS; intro _ hS) | (refine hS.st 5 rfl rfl rfl ?_; clear hS; intro _ hS) | (refine hS.st0 6 rfl rfl rfl ?_; clear hS; intro _ hS) | (refine hS.st 6 rfl rfl rfl ?_; clear hS; intro _ hS) | (refine hS.st0 7 rfl rfl rfl ?_; clear hS; intro _ hS) | (refine hS.st 7 rfl rfl rfl ?_; clear hS; intro _ hS) | (refine bnd_mk (by decide) (by decide) ?_) | (refine so_i rfl ?_))
  have hsp : spanOf s b = ⟨(b.x - b.r) / s, (b.y - b.r) / s, (b.x + b.r - 1) / s, (b.y + b.r - 1) / s⟩ := rfl
  have hle := span_le hs1.1 hr
  have hE : cellsE s b = if (spanOf s b).ok = true then if (spanOf s b).wide * (spanOf s b).tall > 1024 then 2 else 0 else 40 := by
    unfold cellsE
    rw [if_pos hs, if_pos hr]
  unfold cellsL' at hK
  generalize hp : spanOf s b = p at *
  obtain ⟨lx, ly, hx, hy⟩ := p
  simp only [Span.mk.injEq] at hsp
  obtain ⟨rfl, rfl, rfl, rfl⟩ := hsp
  generalize (b.x - b.r) / s = lx at *
  generalize (b.y - b.r) / s = ly at *
  generalize (b.x + b.r - 1) / s = ux at *
  generalize (b.y + b.r - 1) / s = uy at *
  simp only at hle
  have hokE : (Span.mk lx ly ux uy).ok = ((okN lx && okN ly) && (okN ux && okN uy)) := by simp only [Span.ok, isCell_ok]
  rw [hokE] at hE
  have hS' := hS.ext
  refine jn_of (fun t w' => t = [.bool (okN lx && okN ly)] ∧ Ext no w w') ?_ ?_
  rotate_left
  · intro J hJ
    refine rok_k (asB_i rfl (cond_split (fun h => rok_k (asB_i rfl (hJ _ _ ⟨?_, hS'⟩))) (fun h => hJ _ _ ⟨?_, hS'⟩)))
    · rw [h]; rfl
    · rw [h]; rfl
  rintro _ w1 ⟨rfl, hx1⟩
  refine asB_i rfl (jn_of (fun t w' => t = [.bool (okN ux && okN uy)] ∧ Ext no w w') ?_ ?_)
  rotate_left
  · intro J hJ
    refine rok_k (asB_i rfl (cond_split (fun h => rok_k (asB_i rfl (hJ _ _ ⟨?_, hx1⟩))) (fun h => hJ _ _ ⟨?_, hx1⟩)))
    · rw [h]; rfl
    · rw [h]; rfl
  rintro _ w2 ⟨rfl, hx2⟩
  refine asB_i rfl (jn_of (fun t w' => t = [.bool (!((okN lx && okN ly) && (okN ux && okN uy)))] ∧ Ext no w w') ?_ ?_)
  rotate_left
  · intro J hJ
    refine cond_split (fun h => hJ _ _ ⟨?_, hx2⟩) (fun h => hJ _ _ ⟨?_, hx2⟩)
    · have : (okN lx && okN ly) = false := by revert h; generalize (okN lx && okN ly) = q; cases q <;> simp
      rw [this]; rfl
    · have : (okN lx && okN ly) = true := by revert h; generalize (okN lx && okN ly) = q; cases q <;> simp
      rw [this]; rfl
  rintro _ w3 ⟨rfl, hx3⟩
  clear hx1 hx2 hS' hS w1 w2
  refine asB_i rfl (cond_split (fun h => ?_) (fun h => ?_))
  · have hc : ((okN lx && okN ly) && (okN ux && okN uy)) = false := by revert h; generalize ((okN lx && okN ly) && (okN ux && okN uy)) = q; cases q <;> simp
    refine lv_i (bad 40 ?_ (by decide) _ hx3)
    rw [hE, if_neg (by rw [hc]; decide)]
  have hok : ((okN lx && okN ly) && (okN ux && okN uy)) = true := by revert h; generalize ((okN lx && okN ly) && (okN ux && okN uy)) = q; cases q <;> simp
  rw [if_pos hok] at hE
  have hc : ((-1048576 ≤ lx ∧ lx ≤ 1048576) ∧ (-1048576 ≤ ly ∧ ly ≤ 1048576)) ∧ ((-1048576 ≤ ux ∧ ux ≤ 1048576) ∧ (-1048576 ≤ uy ∧ uy ≤ 1048576)) := by
    simpa only [okN, Bool.and_eq_true, decide_eq_true_eq] using hok
  have hwd : (Span.mk lx ly ux uy).wide = ux - lx + 1 := rfl
  have htl : (Span.mk lx ly ux uy).tall = uy - ly + 1 := rfl
  rw [wr64 (n := ux - lx) (by omega) (by omega), wr64 (n := uy - ly) (by omega) (by omega), wr64 (n := ux - lx + 1) (by omega) (by omega), wr64 (n := uy - ly + 1) (by omega) (by omega)]
  rw [hwd, htl] at hE hK
  obtain ⟨Wn, hW⟩ : ∃ n : Nat, ux - lx + 1 = (n : Int) := ⟨(ux - lx + 1).toNat, by omega⟩
  obtain ⟨Tn, hT⟩ : ∃ n : Nat, uy - ly + 1 = (n : Int) := ⟨(uy - ly + 1).toNat, by omega⟩
  rw [hW, hT] at hE hK ⊢
  have hW1 : 1 ≤ (Wn : Int) ∧ (Wn : Int) ≤ 2097153 := by omega
  have hT1 : 1 ≤ (Tn : Int) ∧ (Tn : Int) ≤ 2097153 := by omega
  have hWT : 1 ≤ (Wn : Int) * Tn ∧ (Wn : Int) * Tn ≤ 2097153 * 2097153 := by
    constructor
    · have : (1 : Int) * 1 ≤ (Wn : Int) * Tn := Int.mul_le_mul hW1.1 hT1.1 (by decide) (by omega)
      omega
    · exact Int.mul_le_mul hW1.2 hT1.2 (by omega) (by decide)
  rw [wr64 (n := (Wn : Int) * Tn) (by omega) (by omega)]
  refine cond_split (fun h => ?_) (fun h => ?_)
  · refine lv_i (bad 2 ?_ (by decide) _ hx3)
    rw [hE, if_pos (of_decide_eq_true h)]
  have hle2 : ¬ (Wn : Int) * Tn > 1024 := of_decide_eq_false h
  rw [if_neg hle2] at hE
  rw [if_pos hE, hE] at hK
  simp only [Int.toNat_natCast] at hK
  have hcap : ((Wn : Int) * (Tn : Int)) = ((Wn * Tn : Nat) : Int) := by simp
  rw [hcap] at hle2
  have hcap1 : Wn * Tn ≤ 1024 := by omega
  have ely : uy = ly + ((Tn : Int) - 1) := by omega
  have elx : ux = lx + ((Wn : Int) - 1) := by omega
  refine lv_i ?_
  refine lp_mk (fun t : Nat × (Option Addr × Nat × Nat) => [.slice t.2.1 t.2.2.1 t.2.2.2, .int .i64 (ly + (t.1 : Int))])
    (fun m t w' => m = Tn - t.1 ∧ t.1 ≤ Tn ∧ Ext no w w' ∧ t.2.2.1 = (rowsC lx ly Wn t.1).length ∧ RowN w' w.heap.size 55 2 t.2.1 t.2.2.2 t.2.2.1 ((rowsC lx ly Wn t.1).flatMap pv)) Tn (0, (none, 0, 0)) (by simp) ⟨rfl, Nat.zero_le _, hx3, rfl, RowN.nil _ _ _ _⟩ ?_
  rintro _ ⟨j, p, n, c⟩ w4 ⟨rfl, hj, hx4, hn, hr4⟩ J hJ
  simp only at hj hn hr4 hJ ⊢
  refine asS_i rfl (asI_i rfl (cond_split (fun h => ?_) (fun h => ?_)))
  · have hjT : j < Tn := by
      have := of_decide_eq_true h
      omega
    refine lv_i ?_
    refine lp_mk (fun t : Nat × (Option Addr × Nat × Nat) => [.slice t.2.1 t.2.2.1 t.2.2.2, .int .i64 (lx + (t.1 : Int))])
      (fun m t w' => m = Wn - t.1 ∧ t.1 ≤ Wn ∧ Ext no w w' ∧ t.2.2.1 = (rowsC lx ly Wn j ++ rowC lx (ly + (j : Int)) t.1).length ∧ RowN w' w.heap.size 55 2 t.2.1 t.2.2.2 t.2.2.1 ((rowsC lx ly Wn j ++ rowC lx (ly + (j : Int)) t.1).flatMap pv)) Wn (0, (p, n, c)) (by simp)
      ⟨rfl, Nat.zero_le _, hx4, by simp [rowC, hn], by simpa [rowC] using hr4⟩ ?_
    rintro _ ⟨i, p, n, c⟩ w5 ⟨rfl, hi, hx5, hn, hr5⟩ J2 hJ2
    simp only at hi hn hr5 hJ2 ⊢
    refine asS_i rfl (asI_i rfl (cond_split (fun h => ?_) (fun h => ?_)))
    · have hiW : i < Wn := by
        have := of_decide_eq_true h
        omega
      have hlen : (rowsC lx ly Wn j ++ rowC lx (ly + (j : Int)) i).length = j * Wn + i := by
        rw [List.length_append, rowsC_length, rowC_length]
      have hlen2 : j * Wn + i < 1024 := by
        have : (j + 1) * Wn ≤ Tn * Wn := Nat.mul_le_mul_right _ hjT
        rw [Nat.add_mul, Nat.mul_comm Tn Wn] at this
        omega
      refine sP.app1 (vs := pv (lx + (i : Int), ly + (j : Int))) hr5 hx5.size rfl (pv_one _) (le_maxLen (by omega)) (by omega) ?_
      intro p' c' w6 hr6 hE6 hM6
      have hx6 : Ext no w w6 := hx5.then hE6 fun k hk hkb => by
        obtain ⟨q, hq, rfl⟩ := hkb
        have := (hr5.at hq).1
        omega
      have ei : IntKind.wrap .i64 (lx + (i : Int) + 1) = lx + ((i + 1 : Nat) : Int) := by rw [wr64 (by omega) (by omega)]; omega
      refine asS_i rfl (lv_i ?_)
      rw [ei]
      refine hJ2 (Wn - (i + 1)) (i + 1, (p', n + 1, c')) w6 (by omega) ⟨rfl, hiW, hx6, ?_, ?_⟩
      · simp only [rowC_succ, List.length_append, List.length_singleton] at hn ⊢
        omega
      · simp only [rowC_succ]
        rw [← List.append_assoc, List.flatMap_append]
        simpa using hr6
    · have hiW : i = Wn := by
        have := of_decide_eq_false h
        omega
      subst hiW
      have ej : IntKind.wrap .i64 (ly + (j : Int) + 1) = ly + ((j + 1 : Nat) : Int) := by rw [wr64 (by omega) (by omega)]; omega
      refine lv_i ?_
      rw [ej]
      refine hJ (Tn - (j + 1)) (j + 1, (p, n, c)) w5 (by omega) ⟨rfl, hjT, hx5, ?_, ?_⟩
      · simp only [rowsC_succ]
        exact hn
      · simp only [rowsC_succ]
        exact hr5
  · have hjT : j = Tn := by
      have := of_decide_eq_false h
      omega
    subst hjT
    subst hn
    exact lv_i (hK p c w4 hx4 hr4)
end Go.Proofs.Ytamobmjfdiecbaa

/- GrL2: the law GridCells comes out true for every input. Conditions: those of the law's arguments as they are read. -/
namespace Go.Proofs.Ytamobmjfdiecbaa
open Go Go.Sx Go.Fp
attribute [local irreducible] jn lv ld st nw asI asB asP asS asY asM asF asA asT lp rn ru rq cl dw dr bnd bn2 nz nn hd hr so eqW
attribute [local irreducible] callOk

/-- a pair as a number -/
theorem lcell_k {p : Int × Int} {w : World} {K : Value → World → Prop} (hK : ∀ w', Ext no w w' → K (cv p) w') : cl Try.prog 27 #[.agg #[.int .i64 p.1, .int .i64 p.2]] w K := by
  apply F27_calls
  unfold F27
  have hS := St.start w
  (refine St.nw hS ?_; clear hS; intro r1 _ hS)
  repeat (first | (refine asI_i rfl ?_) | (refine asB_i rfl ?_) | (refine asP_i rfl ?_) | (refine asS_i rfl ?_) | (refine asY_i rfl ?_) | (refine asM_i rfl ?_) | (refine asA_i rfl rfl ?_) | (refine asT_i rfl rfl ?_) | (refine lv_i ?_) | (refine St.nw hS ?_; clear hS; intro _ _ hS) | (refine St.dw hS ?_; clear hS; intro _ hS _) | (refine hS.ld0 0 rfl rfl ?_) | (refine hS.ld 0 rfl rfl ?_) | (refine hS.ld0 1 rfl rfl ?_) | (refine hS.ld 1 rfl rfl ?_) | (refine hS.ld0 2 rfl rfl ?_) | (refine hS.ld 2 rfl rfl ?_) | (refine hS.ld0 3 rfl rfl ?_) | (refine hS.ld 3 rfl rfl ?_) | (refine hS.ld0 4 rfl rfl ?_) | (refine hS.ld 4 rfl rfl ?_) | (refine hS.ld0 5 rfl rfl ?_) | (refine hS.ld 5 rfl rfl ?_) | (refine hS.ld0 6 rfl rfl ?_) | (refine hS.ld 6 rfl rfl ?_) | (refine hS.ld0 7 rfl rfl ?_) | (refine hS.ld 7 rfl rfl ?_) | (refine hS.hd0 0 rfl rfl ?_) | (refine hS.hd 0 rfl rfl ?_) | (refine hS.hd0 1 rfl rfl ?_) | (refine hS.hd 1 rfl rfl ?_) | (refine hS.hd0 2 rfl rfl ?_) | (refine hS.hd 2 rfl rfl ?_) | (refine hS.hd0 3 rfl rfl ?_) | (refine hS.hd 3 rfl rfl ?_) | (refine hS.hd0 4 rfl rfl ?_) | (refine hS.hd 4 rfl rfl ?_) | (refine hS.hd0 5 rfl rfl ?_) | (refine hS.hd 5 rfl rfl ?_) | (refine hS.hd0 6 rfl rfl ?_) | (refine hS.hd 6 rfl rfl ?_) | (refine hS.hd0 7 rfl rfl ?_) | (refine hS.hd 7 rfl rfl ?_) | (refine hS.st0 0 rfl rfl rfl ?_; clear hS; intro _ hS) | (refine hS.st 0 rfl rfl rfl ?_; clear hS; intro _ hS) | (refine hS.st0 1 rfl rfl rfl ?_; clear hS; intro _ hS) | (refine hS.st 1 rfl rfl rfl ?_; clear hS; intro _ hS) | (refine hS.st0 2 rfl rfl rfl ?_; clear hS; intro _ hS) | (refine hS.st 2 rfl rfl rfl ?_; clear hS; intro _ hS) | (refine hS.st0 3 rfl rfl rfl ?_; clear hS; intro _ hS) | (refine hS.st 3 rfl rfl rfl ?_; clear hS; intro _ hS) | (refine hS.st0 4 rfl rfl rfl ?_; clear hS; intro _ hS) | (refine hS.st 4 rfl rfl rfl ?_; clear hS; intro _ hS) | (refine hS.st0 5 rfl rfl rfl ?_; clear hS; intro _ hS) | (refine hS.st 5 rfl rfl rfl ?_; clear hS; intro _ hS) | (refine hS.st0 6 rfl rfl rfl ?_; clear hS; intro _ hS) | (refine hS.st 6 rfl rfl rfl ?_; clear hS; intro _ hS) | (refine hS.st0 7 rfl rfl rfl ?_; clear hS; intro _ hS) | (refine hS.st 7 rfl rfl rfl ?_; clear hS; intro _ hS) | (refine bnd_mk (by decide) (by decide) ?_) | (refine so_i rfl ?_))
  exact hK _ hS.ext

theorem gcellP_small (s x y : Int) : (gcellP s x y).1.natAbs < 2 ^ 53 ∧ (gcellP s x y).2.natAbs < 2 ^ 53 := by
  unfold gcellP
  split
  · rename_i h
    obtain ⟨_, h1, h2⟩ := gcellE_zero h
    simp only
    omega
  · decide

theorem same_cell {p : Int × Int} (h : p.1.natAbs < 2 ^ 53 ∧ p.2.natAbs < 2 ^ 53) : (!((FloatKind.format .f64).order (F p.1) (F p.1) == some .eq && (FloatKind.format .f64).order (F p.2) (F p.2) == some .eq)) = false := by
  rw [order_self h.1, order_self h.2]
  rfl

theorem _root_.Go.Sx.Reads.at1 {w : World} {p : Option Addr} {vs : List Value} (h : Reads w p vs) {i n : Nat} (hn : vs.length = n) {v : Value} (hv : vs[i]? = some v) {K : Addr → Prop} (hK : ∀ a, p = some a → w.cell? (Addr.add a (i * 1)) = some v → K a) : dr p fun a => bnd (i : Int) n (K a) := by
  have e : vs = vs.flatMap fun x => [x] := by
    clear h hn hv hK
    induction vs with
    | nil => rfl
    | cons x l ih => rw [List.flatMap_cons, ← ih]; rfl
  rw [e] at h
  refine Reads.atN (f := fun x => [x]) (s := 1) (fun _ => rfl) h hn hv (by decide) fun a ha hc => hK a ha ?_
  have := hc 0 (by decide)
  rw [Sx.add_zero'] at this
  exact this
theorem _root_.Go.Sx.Reads.cell1 {w : World} {a : Addr} {vs : List Value} (h : Reads w (some a) vs) {i : Nat} {v : Value} (hv : vs[i]? = some v) : w.cell? (Addr.add a (i * 1)) = some v := by
  have := h.at1 rfl hv (K := fun a => w.cell? (Addr.add a (i * 1)) = some v) fun _ _ h => h
  unfold dr bnd at this
  exact this.2

/-- a pair out of a list, as a number -/
theorem pair_at {w : World} {r : Option Addr} {lst : List (Int × Int)} {n i : Nat} {p : Int × Int} (h : Reads w r (lst.flatMap pv)) (hn : lst.length = n) (hp : lst[i]? = some p) {K : Value → World → Prop} (hK : ∀ w', Ext no w w' → K (cv p) w') :
    dr r fun a => bnd (i : Int) n (ld w (Addr.add a (i * 2)) fun v1 => asI .i64 v1 fun x1 => ld w (Addr.add (Addr.add a (i * 2)) 1) fun v2 => asI .i64 v2 fun x2 => cl Try.prog 27 #[.agg #[.int .i64 x1, .int .i64 x2]] w K) := by
  refine Reads.atN (f := pv) (s := 2) (fun _ => rfl) h hn hp (by decide) fun a _ hc => ?_
  have h0 := hc 0 (by decide)
  rw [Sx.add_zero'] at h0
  exact ld_mk h0 (asI_i rfl (ld_mk (hc 1 (by decide)) (asI_i rfl (lcell_k hK))))

set_option maxHeartbeats 2000000 in
theorem gridCells_law (W : World) (s : Int) (_hs : (Lit.int .i64 s).wf = true) (z1 : List Value) (F1 : FitsAll [.int .i64, .int .i64] z1) (z2 : List Value) (F2 : FitsAll [.int .i64, .int .i64, .int .i64] z2) :
    cl Try.prog 6 #[.int .i64 s, .agg z1.toArray, .agg z2.toArray] W fun v w' => v = .bool true ∧ Ext no W w' := by
  obtain ⟨x, y, rfl, hx, hy⟩ := vec_of F1
  obtain ⟨b, rfl, _⟩ := bx_of' F2
  apply F6_calls
  unfold F6
  have hS := St.start W
  (refine St.nw hS ?_; clear hS; intro r1 _ hS)
  (refine St.nw hS ?_; clear hS; intro r3 _ hS)
  refine gawake_k fun w2 hx2 => asB_i rfl ?_
  replace hS := hS.to hx2
  refine hS.ld0 1 rfl rfl (asI_i rfl (hS.ld 1 rfl rfl (asI_i rfl ?_)))
  refine gCell_k hx hy fun w3 hx3 => ?_
  replace hS := hS.to hx3
  refine asT_i (l := [cv (gcellP s x y), .int .i64 (gcellE s x y)]) rfl rfl (asC_i rfl (asI_i rfl (lv_i ?_)))
  refine hS.ld0 0 rfl rfl (asI_i rfl (hS.ld 0 rfl rfl (asI_i rfl (hS.ld 0 rfl rfl (asI_i rfl ?_)))))
  have hb3 := hS.ext.size
  refine cells_k (b := b) fun p c w4 hx4 hr => ?_
  replace hS := hS.to hx4
  refine asT_i rfl rfl (asS_i rfl (asI_i rfl (lv_i ?_)))
  refine hS.ld0 0 rfl rfl (asI_i rfl (hS.ld 0 rfl rfl (asI_i rfl (hS.ld 0 rfl rfl (asI_i rfl ?_)))))
  have hlp : ∀ a, p = some a → W.heap.size ≤ a.block ∧ a.block < w4.heap.size := fun a h => ⟨by have := (hr.at h).1; omega, (hr.at h).2⟩
  refine cells_k (b := b) fun q c' w5 hx5 hq => ?_
  replace hS := hS.to hx5
  replace hr := hr.ext hx5 fun _ _ h => h
  have ap1 : Apart q p := fun a1 a2 h1 h2 e => by
    have := (hq.at h1).1
    have := hlp a2 h2
    omega
  have h45 := hx5.size
  refine asT_i rfl rfl (asS_i rfl (asI_i rfl (lv_i ?_)))
  refine hS.ld0 1 rfl rfl (asI_i rfl (hS.ld 1 rfl rfl (asI_i rfl ?_)))
  refine rcell_k hx hy fun w6 hx6 => ?_
  replace hS := hS.to hx6
  replace hr := hr.ext hx6 fun _ _ h => h
  replace hq := hq.ext hx6 fun _ _ h => h
  have h56 := hx6.size
  refine asT_i (l := [.agg (pv (gcellP s x y)).toArray, .int .i64 (gcellE s x y)]) rfl rfl (asA_i (l := pv (gcellP s x y)) rfl rfl (asI_i rfl (asI_i rfl (asI_i rfl ?_))))
  have hS6 := St.start w6
  refine hS6.nw (cs := [.int .i64 0, .int .i64 0]) fun r58 w7 hS6 => ?_
  refine hS6.st0 0 rfl rfl rfl fun w8 hS6 => hS6.st 0 rfl rfl rfl fun w9 hS6 => lv_i ?_
  have hx9 := hS6.ext
  replace hS := hS.to hx9
  replace hr := hr.ext hx9 fun _ _ h => h
  replace hq := hq.ext hx9 fun _ _ h => h
  have h69 := hx9.size
  refine hS.ld0 0 rfl rfl (asI_i rfl (hS.ld 0 rfl rfl (asI_i rfl (hS.ld 0 rfl rfl (asI_i rfl ?_)))))
  refine rcells_k (b := b) fun r c'' w10 hx10 hw => ?_
  replace hS := hS.to hx10
  replace hS6 := hS6.to hx10
  replace hr := hr.ext hx10 fun _ _ h => h
  replace hq := hq.ext hx10 fun _ _ h => h
  have ap2 : Apart r p := fun a1 a2 h1 h2 e => by
    have := (hw.at h1).1
    have := hlp a2 h2
    omega
  refine asT_i rfl rfl (asS_i rfl (asI_i rfl (lv_i ?_)))
  have hok := cells_okc (s := s) (b := b)
  have hll := cells_len (s := s) (b := b)
  have hsm := gcellP_small s x y
  generalize cellsL' s b = lst at *
  generalize gcellP s x y = gp at *
  have hX := hS.ext
  have hsml : ∀ i (h : i < lst.length), lst[i].1.natAbs < 2 ^ 53 ∧ lst[i].2.natAbs < 2 ^ 53 := fun i h => by
    have := hok _ (List.getElem_mem h)
    unfold okc at this
    omega
  refine jn_of (fun t w' => t = [.bool false] ∧ Ext no w10 w') ?_ ?_
  rotate_left
  · intro J hJ
    refine cond_f rfl ?_
    refine hS6.ld0 0 rfl rfl (asI_i rfl (hS6.ld 0 rfl rfl (asI_i rfl ?_)))
    refine lcell_k (p := gp) fun w11 hx11 => asC_i rfl (cond_f (same_cell hsm) (cond_f (by simp) (cond_f (by simp) (cond_f (by simp) (hJ _ _ ⟨?_, hx11⟩)))))
    simp
  rintro _ w11 ⟨rfl, hx11⟩
  replace hr := hr.ext hx11 fun _ _ h => h
  replace hq := hq.ext hx11 fun _ _ h => h
  replace hw := hw.ext hx11 fun _ _ h => h
  replace hX := hX.trans hx11
  clear hS hS6 hx11
  refine asB_i rfl (cond_f rfl (lv_i ?_))
  refine lp_mk (fun i : Nat => [.int .i64 (i : Int)])
    (fun m i w' => m = lst.length - i ∧ i ≤ lst.length ∧ Ext no W w' ∧ (∃ vs, Row w' w3.heap.size 49 p c vs ∧ vs.length = lst.length ∧ ∀ j, i ≤ j → vs[j]? = (lst.map cv)[j]?) ∧ Row w' w4.heap.size 49 q c' (lst.map cv) ∧ RowN w' w9.heap.size 55 2 r c'' lst.length (lst.flatMap pv)) lst.length 0 rfl
    ⟨rfl, Nat.zero_le _, hX, ⟨_, hr, by simp, fun _ _ => rfl⟩, hq, hw⟩ ?_
  clear hr hq hw hX
  rintro _ i w12 ⟨rfl, hi, hX, ⟨vs, hr, hvl, hvs⟩, hq, hw⟩ J hJ
  refine asI_i rfl (cond_split (fun hc => ?_) (fun hc => ?_))
  · have hil : i < lst.length := by
      have := of_decide_eq_true hc
      omega
    have ei : IntKind.wrap .i64 ((i : Int) + 1) = ((i + 1 : Nat) : Int) := by rw [wr64 (by omega) (by omega)]; omega
    have hxd := Ext.drew w12
    have hvi : vs[i]? = some (cv lst[i]) := by rw [hvs i (Nat.le_refl _)]; simp [hil]
    have hli : lst[i]? = some lst[i] := List.getElem?_eq_getElem hil
    have hsi := hsml i hil
    generalize lst[i] = lp at *
    refine dw_mk ?_
    have hrd := hr.ext hxd fun _ _ h => h
    rw [ei, Int.toNat_natCast]
    refine hrd.reads.at1 hvl hvi fun a ha hca => ld_mk hca (asC_i rfl ?_)
    refine pair_at (hw.ext hxd fun _ _ h => h).reads rfl hli fun w13 hx13 => asC_i rfl ?_
    have hr13 := hrd.ext hx13 fun _ _ h => h
    have hca13 : w13.cell? (Addr.add a (i * 1)) = some (cv lp) := by
      have := hr13.reads
      rw [ha] at this
      exact this.cell1 hvi
    refine hd_i hca13 (cond_f (same_cell hsi) ?_)
    have hx0 : Ext no w12 w13 := hxd.trans hx13
    refine hr13.st (i := (i : Int)) (n := lst.length) (u := .complex .f64 4636666922610458624 0) (by omega) (by simp; omega) (by omega) rfl ?_
    intro w14 hr14 hx14 _
    have hXp : Ext no W w14 := (hX.trans hx0).then hx14 fun k _ ⟨a2, ha2, hk⟩ => by
      have := (hlp a2 ha2).1
      omega
    refine lv_i (hJ (lst.length - (i + 1)) (i + 1) w14 (by omega) ⟨rfl, hil, hXp, ⟨_, hr14, by simpa using hvl, fun j hj => ?_⟩, (hq.ext hx0 fun _ _ h => h).keep hx14 ap1, (hw.ext hx0 fun _ _ h => h).keep hx14 ap2⟩)
    rw [List.getElem?_set_ne (by simp; omega)]
    exact hvs j (by omega)
  · refine lv_i ?_
    clear hJ hr hvl hvs hc vs
    refine lp_mk (fun i : Nat => [.int .i64 (i : Int)])
      (fun m i w' => m = lst.length - i ∧ i ≤ lst.length ∧ Ext no W w' ∧ Row w' w4.heap.size 49 q c' (lst.map cv) ∧ RowN w' w9.heap.size 55 2 r c'' lst.length (lst.flatMap pv)) lst.length 0 rfl
      ⟨rfl, Nat.zero_le _, hX, hq, hw⟩ ?_
    clear hX hq hw
    rintro _ j w13 ⟨rfl, hj, hX, hq, hw⟩ J hJ
    refine asI_i rfl (cond_split (fun hc => ?_) (fun _ => ⟨rfl, hX⟩))
    have hjl : j < lst.length := by
      have := of_decide_eq_true hc
      omega
    have ej : IntKind.wrap .i64 ((j : Int) + 1) = ((j + 1 : Nat) : Int) := by rw [wr64 (by omega) (by omega)]; omega
    have hxd := Ext.drew w13
    have hvi : (lst.map cv)[j]? = some (cv lst[j]) := by simp [hjl]
    have hli : lst[j]? = some lst[j] := List.getElem?_eq_getElem hjl
    have hsi := hsml j hjl
    generalize lst[j] = lp at *
    refine dw_mk ?_
    have hrd := hq.ext hxd fun _ _ h => h
    rw [ej, Int.toNat_natCast]
    refine hrd.reads.at1 (by simp) hvi fun a ha hca => ld_mk hca (asC_i rfl ?_)
    refine pair_at (hw.ext hxd fun _ _ h => h).reads rfl hli fun w14 hx14 => asC_i rfl ?_
    have hr14 := hrd.ext hx14 fun _ _ h => h
    have hca14 : w14.cell? (Addr.add a (j * 1)) = some (cv lp) := by
      have := hr14.reads
      rw [ha] at this
      exact this.cell1 hvi
    have hx0 : Ext no w13 w14 := hxd.trans hx14
    exact hd_i hca14 (cond_f (same_cell hsi) (lv_i (hJ (lst.length - (j + 1)) (j + 1) w14 (by omega) ⟨rfl, hjl, hX.trans hx0, hq.ext hx0 fun _ _ h => h, hw.ext hx0 fun _ _ h => h⟩)))
end Go.Proofs.Ytamobmjfdiecbaa

/- GrL3: the law GridMeets comes out true for every input. Conditions: those of the law's arguments as they are read. -/
namespace Go.Proofs.Ytamobmjfdiecbaa
open Go Go.Sx Go.Fp
attribute [local irreducible] jn lv ld st nw asI asB asP asS asY asM asF asA asT lp rn ru rq cl dw dr bnd bn2 nz nn hd hr so eqW
attribute [local irreducible] callOk

theorem _root_.Go.Sx.St.drop {w0 w : World} {L : List (Nat × List Value × TypeId)} : ∀ {LL : List (Nat × List Value × TypeId)}, St w0 w (LL ++ L) → St w0 w L
  | [], h => h
  | _ :: LL, h => by
    have key : ∀ {LL : List (Nat × List Value × TypeId)}, St w0 w (LL ++ L) → St w0 w L := by
      intro LL
      induction LL with
      | nil => exact fun h => h
      | cons x LL ih => exact fun h => ih h.tail
    exact key (LL := LL) h.tail

theorem nodup_one {l : List Int} (hn : l.Nodup) {z : Int} (h : ∀ x ∈ l, x = z) : l.length ≤ 1 := by
  match l, hn, h with
  | [], _, _ => simp
  | [_], _, _ => simp
  | a :: b :: l, hn, h =>
    have h1 := h a (by simp)
    have h2 := h b (by simp)
    simp only [List.nodup_cons, List.mem_cons] at hn
    exact absurd (.inl (h1.trans h2.symm)) hn.1

/-- one box in a grid, and who is near -/
theorem one_near {s : Int} {a b : Bx} : (∀ x ∈ metL (gputB s [] 4 a) (gputD s [] [] 4 a) b (cellsL' s b), x.1 = 4) ∧ (metL (gputB s [] 4 a) (gputD s [] [] 4 a) b (cellsL' s b)).length ≤ 1 ∧
    (gputE s [] 4 a = 0 → cellsE s b = 0 → ((metL (gputB s [] 4 a) (gputD s [] [] 4 a) b (cellsL' s b)).length = 1 ↔ (meetV a b).1 = true)) := by
  have hC := (Cons.nil s).put 4 a
  have hB : ∀ x b', aget (gputB s [] 4 a) x = some b' → x = 4 ∧ b' = a := fun x b' h => by
    unfold gputB at h
    split at h
    · rw [aget_aset] at h
      split at h
      · rename_i he
        cases h
        exact ⟨he, rfl⟩
      · simp [aget, afind] at h
    · simp [aget, afind] at h
  have hnd := nodup_metL (B := gputB s [] 4 a) (D := gputD s [] [] 4 a) (b := b) (cellsL' s b)
  have hk : ∀ x ∈ (metL (gputB s [] 4 a) (gputD s [] [] 4 a) b (cellsL' s b)).map (·.1), x = 4 := fun x hx => by
    obtain ⟨⟨c, _, h2⟩, _⟩ := mem_metL.1 hx
    obtain ⟨b', h3, _⟩ := (hC.cell c x).1 h2
    exact (hB x b' h3).1
  have hl := nodup_one hnd hk
  rw [List.length_map] at hl
  refine ⟨fun x hx => hk x.1 (List.mem_map.2 ⟨x, hx, rfl⟩), hl, fun hp hb => ?_⟩
  have hnr := hC.near hb 4
  constructor
  · intro h1
    have : ∃ x, x ∈ (metL (gputB s [] 4 a) (gputD s [] [] 4 a) b (cellsL' s b)).map (·.1) := by
      cases hm : metL (gputB s [] 4 a) (gputD s [] [] 4 a) b (cellsL' s b) with
      | nil => rw [hm] at h1; cases h1
      | cons y l => exact ⟨y.1, by simp⟩
    obtain ⟨x, hx⟩ := this
    have := hk x hx
    subst this
    obtain ⟨a', h3, h4⟩ := hnr.1 hx
    rwa [(hB _ _ h3).2] at h4
  · intro hm
    have h4 : (4 : Int) ∈ (metL (gputB s [] 4 a) (gputD s [] [] 4 a) b (cellsL' s b)).map (·.1) := hnr.2 ⟨a, by unfold gputB; rw [if_pos hp, aget_aset, if_pos rfl], hm⟩
    have : 0 < (metL (gputB s [] 4 a) (gputD s [] [] 4 a) b (cellsL' s b)).length := by
      have := List.length_pos_of_mem h4
      simpa using this
    omega

set_option maxHeartbeats 2000000 in
theorem gridMeets_law (W : World) (z1 : List Value) (F1 : FitsAll [.int .i64, .int .i64, .int .i64] z1) (z2 : List Value) (F2 : FitsAll [.int .i64, .int .i64, .int .i64] z2) (s : Int) (_hs : (Lit.int .i64 s).wf = true) (o : Int) (_ho : (Lit.int .i64 o).wf = true) :
    cl Try.prog 7 #[.agg z1.toArray, .agg z2.toArray, .int .i64 s, .int .i64 o] W fun v w' => v = .bool true ∧ Ext no W w' := by
  obtain ⟨a, rfl, _⟩ := bx_of' F1
  obtain ⟨b, rfl, _⟩ := bx_of' F2
  apply F7_calls
  unfold F7
  have hS := St.start W
  (refine St.nw hS ?_; clear hS; intro r1 _ hS)
  (refine St.nw hS ?_; clear hS; intro r3 _ hS)
  refine gawake_k fun w2 hx2 => asB_i rfl ?_
  replace hS := hS.to hx2
  refine hS.ld0 1 rfl rfl (asI_i rfl (hS.ld 1 rfl rfl (asI_i rfl (hS.ld 1 rfl rfl (asI_i rfl ?_)))))
  refine cells_k (b := a) fun p c w4 hx4 hr => ?_
  replace hS := hS.to hx4
  refine asT_i rfl rfl (asS_i rfl (asI_i rfl (lv_i ?_)))
  refine hS.ld0 0 rfl rfl (asI_i rfl (hS.ld 0 rfl rfl (asI_i rfl (hS.ld 0 rfl rfl (asI_i rfl ?_)))))
  refine cells_k (b := b) fun q c' w5 hx5 hq => ?_
  replace hS := hS.to hx5
  replace hr := hr.reads.ext hx5 fun _ _ h => h
  replace hq := hq.reads
  refine asT_i rfl rfl (asS_i rfl (asI_i rfl (lv_i ?_)))
  refine hS.ld0 1 rfl rfl (asI_i rfl (hS.ld 1 rfl rfl (asI_i rfl (hS.ld 1 rfl rfl (asI_i rfl ?_)))))
  refine hS.ld0 0 rfl rfl (asI_i rfl (hS.ld 0 rfl rfl (asI_i rfl (hS.ld 0 rfl rfl (asI_i rfl ?_)))))
  refine meet_k (a := a) (b := b) fun w6 hx6 => asT_i rfl rfl (asB_i rfl (asI_i rfl (lv_i ?_)))
  replace hS := hS.to hx6
  replace hr := hr.ext hx6 fun _ _ h => h
  replace hq := hq.ext hx6 fun _ _ h => h
  refine jn_of (fun t w' => ∃ v, t = [.bool v] ∧ w' = w6 ∧ (v = false → cellsE s a = 0 ∧ cellsE s b = 0)) ?_ ?_
  rotate_left
  · intro J hJ
    refine cond_f rfl (cond_split (fun h => hJ _ _ ⟨_, rfl, rfl, fun h => by cases h⟩) (fun h => hJ _ _ ⟨_, rfl, rfl, fun h2 => ⟨by simpa using h, by simpa using h2⟩⟩))
  rintro _ w6 ⟨v, rfl, rfl, hv⟩
  refine asB_i rfl (cond_split (fun _ => ⟨rfl, hS.ext⟩) (fun h => lv_i ?_))
  obtain ⟨ha0, hb0⟩ := hv h
  clear hv h
  have hcm : ∃ i0 k0 : Nat, (meetV a b).1 = true → i0 < (cellsL' s a).length ∧ k0 < (cellsL' s b).length ∧ (cellsL' s a)[i0]? = (cellsL' s b)[k0]? := by
    by_cases hm : (meetV a b).1 = true
    · obtain ⟨c0, h1, h2⟩ := meet_common ha0 hb0 hm
      obtain ⟨i0, h3, e3⟩ := List.getElem_of_mem h1
      obtain ⟨k0, h4, e4⟩ := List.getElem_of_mem h2
      exact ⟨i0, k0, fun _ => ⟨h3, h4, by rw [List.getElem?_eq_getElem h3, List.getElem?_eq_getElem h4, e3, e4]⟩⟩
    · exact ⟨0, 0, fun h => absurd h hm⟩
  obtain ⟨i0, k0, hcm⟩ := hcm
  have hokb := cells_okc (s := s) (b := b)
  have hoka := cells_okc (s := s) (b := a)
  have hla := cells_len (s := s) (b := a)
  have hlb := cells_len (s := s) (b := b)
  have hgap : (meetV a b).2 = 0 := by
    obtain ⟨_, h1, _⟩ := cellsE_zero ha0
    obtain ⟨_, h2, _⟩ := cellsE_zero hb0
    unfold meetV gapV
    rw [if_pos ⟨h1, h2⟩]
  have hso : sideOk s = true := (cellsE_zero ha0).1
  generalize hA : cellsL' s a = la at *
  generalize hB : cellsL' s b = lb at *
  refine lp_mk (fun t : Bool × Nat => [.bool t.1, .int .i64 (t.2 : Int)]) (fun m t w' => m = la.length - t.2 ∧ t.2 ≤ la.length ∧ Ext no w6 w' ∧ ((meetV a b).1 = true → i0 < t.2 → t.1 = true)) la.length (false, 0) rfl
    ⟨rfl, Nat.zero_le _, Ext.refl _ _, fun _ h => absurd h (by omega)⟩ ?_
  rintro _ ⟨cm, i⟩ w7 ⟨rfl, hi, hx7, hci⟩ J hJ
  simp only at hi hci hJ ⊢
  refine asB_i rfl (asI_i rfl (cond_split (fun hc => ?_) (fun hc => ?_)))
  · have hil : i < la.length := by
      have := of_decide_eq_true hc
      omega
    have ei : IntKind.wrap .i64 ((i : Int) + 1) = ((i + 1 : Nat) : Int) := by rw [wr64 (by omega) (by omega)]; omega
    refine lv_i ?_
    refine lp_mk (fun t : Bool × Nat => [.bool t.1, .int .i64 (t.2 : Int)]) (fun m t w' => m = lb.length - t.2 ∧ t.2 ≤ lb.length ∧ Ext no w6 w' ∧ ((meetV a b).1 = true → (i0 < i ∨ (i0 = i ∧ k0 < t.2)) → t.1 = true)) lb.length (cm, 0) rfl
      ⟨rfl, Nat.zero_le _, hx7, fun hm h => hci hm (by omega)⟩ ?_
    rintro _ ⟨cm, k⟩ w8 ⟨rfl, hk, hx8, hck⟩ J2 hJ2
    simp only at hk hck hJ2 ⊢
    refine asB_i rfl (asI_i rfl (cond_split (fun hc => ?_) (fun hc => ?_)))
    · have hkl : k < lb.length := by
        have := of_decide_eq_true hc
        omega
      have ek : IntKind.wrap .i64 ((k : Int) + 1) = ((k + 1 : Nat) : Int) := by rw [wr64 (by omega) (by omega)]; omega
      rw [ek]
      refine jn_of (fun t w' => ∃ v, t = [.bool v] ∧ Ext no w6 w' ∧ (cm = true → v = true) ∧ ((meetV a b).1 = true → i0 = i → k0 = k → v = true)) ?_ ?_
      · rintro _ w9 ⟨v, rfl, hx9, hv1, hv2⟩
        refine asB_i rfl (lv_i (hJ2 (lb.length - (k + 1)) (v, k + 1) w9 (by omega) ⟨rfl, hkl, hx9, fun hm h => ?_⟩))
        simp only at h ⊢
        rcases h with h | ⟨h1, h2⟩
        · exact hv1 (hck hm (.inl h))
        · by_cases hk0 : k0 = k
          · exact hv2 hm h1 hk0
          · exact hv1 (hck hm (.inr ⟨h1, by omega⟩))
      · intro J3 hJ3
        refine dw_mk ?_
        have hx9 : Ext no w6 w8.drew := hx8.trans (Ext.drew w8)
        refine cond_split (fun _ => hJ3 _ _ ⟨true, rfl, hx9, fun _ => rfl, fun _ _ _ => rfl⟩) (fun hf => ?_)
        refine (hr.ext hx9 fun _ _ h => h).at (i := (i : Int)) (v := cv la[i]) (by omega) (by simp [hil]) (asC_i rfl ?_) (by simp)
        refine (hq.ext hx9 fun _ _ h => h).at (i := (k : Int)) (v := cv lb[k]) (by omega) (by simp [hkl]) (asC_i rfl ?_) (by simp)
        refine hJ3 _ _ ⟨_, rfl, hx9, fun h => (by rw [hf] at h; cases h), fun hm h1 h2 => ?_⟩
        obtain ⟨_, _, he⟩ := hcm hm
        subst h1
        subst h2
        rw [List.getElem?_eq_getElem hil, List.getElem?_eq_getElem hkl] at he
        have he' : la[i0] = lb[k0] := by simpa using he
        have hsm := hoka _ (List.getElem_mem hil)
        unfold okc at hsm
        rw [← he', order_self (by omega), order_self (by omega)]
        rfl
    · have hkl : k = lb.length := by
        have := of_decide_eq_false hc
        omega
      rw [ei]
      refine lv_i (hJ (la.length - (i + 1)) (cm, i + 1) w8 (by omega) ⟨rfl, hil, hx8, fun hm h => hck hm ?_⟩)
      have := (hcm hm).2.1
      simp only at h
      omega
  · have hil : i = la.length := by
      have := of_decide_eq_false hc
      omega
    have hcm' : (meetV a b).1 = true → cm = true := fun hm => hci hm (by have := (hcm hm).1; omega)
    clear hJ hc hci
    refine jn_of (fun t w' => t = [.bool false] ∧ w' = w7) ?_ ?_
    rotate_left
    · intro J2 hJ2
      refine cond_f ?_ (cond_split (fun h => hJ2 _ _ ⟨?_, rfl⟩) (fun _ => hJ2 _ _ ⟨rfl, rfl⟩))
      · show ((meetV a b).2 != 0) = false
        rw [hgap]; rfl
      · rw [hcm' h]; rfl
    rintro _ w7 ⟨rfl, rfl⟩
    replace hS := hS.to hx7
    refine asB_i rfl (cond_f rfl ?_)
    refine hS.nw (cs := [.int .i64 s, .int .i64 o]) fun r89 w8 hS => lv_i ?_
    refine lp_mk (fun i : Nat => [.int .i64 (i : Int)]) (fun m i w' => m = 2 - i ∧ i ≤ 2 ∧ St W w' [(r89, [.int .i64 s, .int .i64 o], 3), (r3, b.cells, 25), (r1, a.cells, 25)]) 2 0 rfl ⟨rfl, Nat.zero_le _, hS⟩ ?_
    clear hS
    rintro _ i w9 ⟨rfl, hi, hS⟩ J hJ
    refine asI_i rfl (cond_split (fun hc => ?_) (fun _ => ⟨by first | trivial | rfl, hS.ext⟩))
    have hi2 : i < 2 := by
      have := of_decide_eq_true hc
      omega
    have ei : IntKind.wrap .i64 ((i : Int) + 1) = ((i + 1 : Nat) : Int) := by rw [wr64 (by omega) (by omega)]; omega
    rw [ei, Int.toNat_natCast]
    obtain ⟨u, hu, hu0⟩ : ∃ u : Int, [Value.int .i64 s, .int .i64 o][i]? = some (.int .i64 u) ∧ (i = 0 → sideOk u = true) := by
      match i, hi2 with
      | 0, _ => exact ⟨s, rfl, fun _ => hso⟩
      | 1, _ => exact ⟨o, rfl, fun h => by cases h⟩
    refine bnd_mk (by omega) (by omega) ?_
    have hcell : w9.cell? (Addr.add ⟨r89, 0, none⟩ (i * 1)) = some (.int .i64 u) := by
      rw [add_mk, blk_cell (hS.kn _ List.mem_cons_self).1]
      simpa using hu
    refine ld_mk hcell (asI_i rfl (gnew_k (fun hbad => ?_) (fun w10 Fr g mb mc _ hg hx10 hF => ?_)))
    · refine asT_i rfl rfl (asP_i rfl (asI_i rfl (lv_i ?_)))
      refine jn_of (fun t w' => t = [.bool true] ∧ w' = w9) ?_ ?_
      · rintro _ w9 ⟨rfl, rfl⟩
        refine asB_i rfl (cond_t rfl ⟨?_, hS.ext⟩)
        have : i = 1 := by
          by_cases h0 : i = 0
          · rw [hu0 h0] at hbad; cases hbad
          · omega
        subst this
        rfl
      · intro J2 hJ2
        exact cond_t rfl (hJ2 _ _ ⟨rfl, rfl⟩)
    · have hG := Gw.start hS hg hx10 hF
      refine asT_i rfl rfl (asP_i rfl (asI_i rfl (lv_i ?_)))
      refine jn_of (fun t w' => t = [.bool false] ∧ w' = w10) ?_ ?_
      rotate_left
      · intro J2 hJ2
        exact cond_f rfl (hJ2 _ _ ⟨rfl, rfl⟩)
      rintro _ w10 ⟨rfl, rfl⟩
      refine asB_i rfl (cond_f rfl ?_)
      refine hG.st.ld0 2 rfl rfl (asI_i rfl (hG.st.ld 2 rfl rfl (asI_i rfl (hG.st.ld 2 rfl rfl (asI_i rfl ?_)))))
      refine hG.put (by decide) (b := a) fun w11 hG => asI_i rfl (lv_i ?_)
      refine hG.st.ld0 1 rfl rfl (asI_i rfl (hG.st.ld 1 rfl rfl (asI_i rfl (hG.st.ld 1 rfl rfl (asI_i rfl ?_)))))
      obtain ⟨n1, n2, n3⟩ := one_near (s := u) (a := a) (b := b)
      refine hG.near (by decide) (b := b) (fun x hx => by rw [n1 x hx]; unfold I64; omega) (by omega) fun p5 c5 w12 LL hG _ _ => ?_
      refine asT_i rfl rfl (asS_i rfl (asI_i rfl (lv_i ?_)))
      refine jn_of (fun t w' => t = [.bool false] ∧ w' = w12) ?_ ?_
      · rintro _ w12 ⟨rfl, rfl⟩
        exact asB_i rfl (cond_f rfl (lv_i (hJ (2 - (i + 1)) (i + 1) w12 (by omega) ⟨rfl, by omega, hG.st.drop⟩)))
      · intro J2 hJ2
        refine cond_split (fun h1 => cond_split (fun h2 => hJ2 _ _ ⟨?_, rfl⟩) (fun _ => hJ2 _ _ ⟨rfl, rfl⟩)) (fun _ => hJ2 _ _ ⟨rfl, rfl⟩)
        have h1' : gputE u [] 4 a = 0 := by simpa using h1
        have h2' : cellsE u b = 0 := by simpa using h2
        have hn := n3 h1' h2'
        have hl : (gnearV u (gputB u [] 4 a) (gputD u [] [] 4 a) b).length = (metL (gputB u [] 4 a) (gputD u [] [] 4 a) b (cellsL' u b)).length := by
          unfold gnearV
          rw [List.length_mergeSort, List.length_map]
        rw [hl]
        have : (((metL (gputB u [] 4 a) (gputD u [] [] 4 a) b (cellsL' u b)).length : Int) == (1 : Int)) = (meetV a b).1 := by
          rw [Bool.eq_iff_iff, ← hn]
          simp only [beq_iff_eq]
          omega
        rw [this]
        show [Value.bool (!((meetV a b).1 == (meetV a b).1))] = _
        simp
end Go.Proofs.Ytamobmjfdiecbaa

/- GrT: two grids beside blocks of one's own. Conditions: those of each theorem, on its arguments. -/
namespace Go.Proofs.Ytamobmjfdiecbaa
open Go Go.Sx Go.Fp
attribute [local irreducible] jn lv ld st nw asI asB asP asS asY asM asF asA asT lp rn ru rq cl dw dr bnd bn2 nz nn hd hr so eqW
attribute [local irreducible] callOk

theorem gdropD_len {s : Int} {B : List (Int × Bx)} {D : List ((Int × Int) × List Int)} (hD : (D.map (·.1)).Nodup) {id : Int} (x : Int × Int) : ((aget (gdropD s B D id) x).getD []).length ≤ ((aget D x).getD []).length := by
  unfold gdropD
  split
  · exact dropL_len hD x
  · exact Nat.le_refl _
theorem gmoveD_len {s : Int} {B : List (Int × Bx)} {D : List ((Int × Int) × List Int)} (hD : (D.map (·.1)).Nodup) {id : Int} {b : Bx} (x : Int × Int) : ((aget (gmoveD s B D id b) x).getD []).length ≤ ((aget D x).getD []).length + 1024 := by
  unfold gmoveD
  split
  · have := putL_len' (D := dropL D (cellsL' s (boxAt B id)) id) (l := cellsL' s b) (id := id) x
    have := dropL_len (l := cellsL' s (boxAt B id)) (id := id) hD x
    have := cells_len (s := s) (b := b)
    omega
  · omega

/-- a grid that lies in its own blocks -/
def G1 (w : World) (F : Nat → Prop) (g : Nat) (s : Int) (B : List (Int × Bx)) (D : List ((Int × Int) × List Int)) (N : Nat) : Prop :=
  ∃ mb mc C bb kb bc kc, Gr w F g mb mc s B C bb kb bc kc ∧ pl C = D ∧ (∀ x, ((aget D x).getD []).length ≤ N) ∧ (B.map (·.1)).Nodup

structure G2 (W w : World) (L : List (Nat × List Value × TypeId)) (s : Int) (g : Nat) (B : List (Int × Bx)) (D : List ((Int × Int) × List Int)) (N : Nat) (g' : Nat) (B' : List (Int × Bx)) (D' : List ((Int × Int) × List Int)) (N' : Nat) : Prop where
  st : St W w L
  gr : ∃ F F', G1 w F g s B D N ∧ G1 w F' g' s B' D' N' ∧ (∀ k, F k → ¬ F' k) ∧ ∀ k, (F k ∨ F' k) → W.heap.size ≤ k ∧ ∀ b ∈ L, b.1 ≠ k

section
variable {W w : World} {L : List (Nat × List Value × TypeId)} {s : Int} {g g' : Nat} {B B' : List (Int × Bx)} {D D' : List ((Int × Int) × List Int)} {N N' : Nat}

theorem G1.ext {F M : Nat → Prop} (h : G1 w F g s B D N) {w' : World} (hx : Ext M w w') (hm : ∀ k, F k → ¬ M k) : G1 w' F g s B D N := by
  obtain ⟨mb, mc, C, bb, kb, bc, kc, h1, h2⟩ := h
  exact ⟨mb, mc, C, bb, kb, bc, kc, h1.ext hx hm, h2⟩
theorem G1.lt {F : Nat → Prop} (h : G1 w F g s B D N) : ∀ k, F k → k < w.heap.size := by
  obtain ⟨mb, mc, C, bb, kb, bc, kc, h1, h2⟩ := h
  exact h1.lt

theorem G2.swap (h : G2 W w L s g B D N g' B' D' N') : G2 W w L s g' B' D' N' g B D N := by
  obtain ⟨F, F', h1, h2, h3, h4⟩ := h.gr
  exact ⟨h.st, F', F, h2, h1, fun k hk hk' => h3 k hk' hk, fun k hk => h4 k hk.symm⟩
theorem G2.to (h : G2 W w L s g B D N g' B' D' N') {w' : World} (hx : Ext no w w') : G2 W w' L s g B D N g' B' D' N' := by
  obtain ⟨F, F', h1, h2, h3, h4⟩ := h.gr
  exact ⟨h.st.to hx, F, F', h1.ext hx fun _ _ h => h, h2.ext hx fun _ _ h => h, h3, h4⟩
theorem G2.nd (h : G2 W w L s g B D N g' B' D' N') : (B.map (·.1)).Nodup ∧ (D.map (·.1)).Nodup ∧ (B'.map (·.1)).Nodup ∧ (D'.map (·.1)).Nodup := by
  obtain ⟨F, F', ⟨mb, mc, C, bb, kb, bc, kc, h1, rfl, _, h2⟩, ⟨mb', mc', C', bb', kb', bc', kc', h1', rfl, _, h2'⟩, _, _⟩ := h.gr
  exact ⟨h2, pl_nd h1.nd, h2', pl_nd h1'.nd⟩
theorem G2.len (h : G2 W w L s g B D N g' B' D' N') : (∀ x, ((aget D x).getD []).length ≤ N) ∧ ∀ x, ((aget D' x).getD []).length ≤ N' := by
  obtain ⟨F, F', ⟨mb, mc, C, bb, kb, bc, kc, h1, rfl, h3, h2⟩, ⟨mb', mc', C', bb', kb', bc', kc', h1', rfl, h3', h2'⟩, _, _⟩ := h.gr
  exact ⟨h3, h3'⟩
theorem G2.mono (h : G2 W w L s g B D N g' B' D' N') {M M' : Nat} (hM : N ≤ M) (hM' : N' ≤ M') : G2 W w L s g B D M g' B' D' M' := by
  obtain ⟨F, F', ⟨mb, mc, C, bb, kb, bc, kc, h1, h2, h3, h4⟩, ⟨mb', mc', C', bb', kb', bc', kc', h1', h2', h3', h4'⟩, h5, h6⟩ := h.gr
  exact ⟨h.st, F, F', ⟨mb, mc, C, bb, kb, bc, kc, h1, h2, fun x => Nat.le_trans (h3 x) hM, h4⟩, ⟨mb', mc', C', bb', kb', bc', kc', h1', h2', fun x => Nat.le_trans (h3' x) hM', h4'⟩, h5, h6⟩

theorem G2.step {F F' : Nat → Prop} (hs : St W w L) (h1 : G1 w F g s B D N) (h2 : G1 w F' g' s B' D' N') (h3 : ∀ k, F k → ¬ F' k) (h4 : ∀ k, (F k ∨ F' k) → W.heap.size ≤ k ∧ ∀ b ∈ L, b.1 ≠ k)
    {w' : World} {F2 : Nat → Prop} {B2 : List (Int × Bx)} {D2 : List ((Int × Int) × List Int)} {N2 : Nat} (hg : G1 w' F2 g s B2 D2 N2) (hx : Ext F w w') (hF : ∀ k, F2 k → F k ∨ w.heap.size ≤ k) : G2 W w' L s g B2 D2 N2 g' B' D' N' := by
  refine ⟨hs.toX hx (fun k hk => (h4 k (.inl hk)).1) (fun b hb hk => (h4 _ (.inl hk)).2 b hb rfl), F2, F', hg, h2.ext hx fun k hk hk' => h3 k hk' hk, fun k hk hk' => ?_, fun k hk => ?_⟩
  · rcases hF k hk with hk2 | hk2
    · exact h3 k hk2 hk'
    · have := h2.lt k hk'
      omega
  · rcases hk with hk | hk
    · rcases hF k hk with hk2 | hk2
      · exact h4 k (.inl hk2)
      · have := hs.ext.size
        refine ⟨by omega, fun b hb => ?_⟩
        have := blk_lt (hs.kn b hb).1
        omega
    · exact h4 k (.inr hk)

theorem G2.put (h : G2 W w L s g B D N g' B' D' N') (hN : N ≤ 549755813888) {id : Int} {b : Bx} {K : Value → World → Prop}
    (hK : ∀ w', G2 W w' L s g (gputB s B id b) (gputD s B D id b) (N + 1024) g' B' D' N' → K (.int .i64 (gputE s B id b)) w') :
    cl Try.prog 30 #[.pointer (some ⟨g, 0, none⟩), .int .i64 id, b.v] w K := by
  obtain ⟨F, F', h1, h2, h3, h4⟩ := h.gr
  have h1' := h1
  obtain ⟨mb, mc, C, bb, kb, bc, kc, hg, rfl, hl, hn⟩ := h1
  refine gPut_k hg (fun x => by have := hl x; omega) fun w' F2 C' bb' kb' bc' kc' hg' hp hx hF _ => hK w' ?_
  exact G2.step h.st h1' h2 h3 h4 ⟨mb, mc, C', bb', kb', bc', kc', hg', hp, fun x => Nat.le_trans (gputD_len x) (by have := hl x; omega), nd_put hn⟩ hx hF

theorem G2.move (h : G2 W w L s g B D N g' B' D' N') (hN : N ≤ 549755813888) {id : Int} {b : Bx} {K : Value → World → Prop}
    (hK : ∀ w', G2 W w' L s g (gmoveB s B id b) (gmoveD s B D id b) (N + 1024) g' B' D' N' → K (.int .i64 (gmoveE s B id b)) w') :
    cl Try.prog 35 #[.pointer (some ⟨g, 0, none⟩), .int .i64 id, b.v] w K := by
  obtain ⟨F, F', h1, h2, h3, h4⟩ := h.gr
  have h1' := h1
  obtain ⟨mb, mc, C, bb, kb, bc, kc, hg, rfl, hl, hn⟩ := h1
  refine gMove_k hg (fun x => by have := hl x; omega) fun w' F2 C' bb' kb' bc' kc' hg' hp hx hF _ => hK w' ?_
  exact G2.step h.st h1' h2 h3 h4 ⟨mb, mc, C', bb', kb', bc', kc', hg', hp, fun x => Nat.le_trans (gmoveD_len (pl_nd hg.nd) x) (by have := hl x; omega), nd_move hn⟩ hx hF

theorem G2.drop (h : G2 W w L s g B D N g' B' D' N') (hN : N ≤ 549755813888) {id : Int} {K : Value → World → Prop}
    (hK : ∀ w', G2 W w' L s g (gdropB B id) (gdropD s B D id) N g' B' D' N' → K (.int .i64 (gdropE B id)) w') :
    cl Try.prog 36 #[.pointer (some ⟨g, 0, none⟩), .int .i64 id] w K := by
  obtain ⟨F, F', h1, h2, h3, h4⟩ := h.gr
  have h1' := h1
  obtain ⟨mb, mc, C, bb, kb, bc, kc, hg, rfl, hl, hn⟩ := h1
  refine gDrop_k hg (fun x => by have := hl x; omega) fun w' C' bb' kb' bc' kc' hg' hp hx => hK w' ?_
  exact G2.step h.st h1' h2 h3 h4 ⟨mb, mc, C', bb', kb', bc', kc', hg', hp, fun x => Nat.le_trans (gdropD_len (pl_nd hg.nd) x) (hl x), nd_drop hn⟩ hx fun k hk => .inl hk

theorem G2.count (h : G2 W w L s g B D N g' B' D' N') {K : Value → World → Prop} (hK : K (.int .i64 (B.length : Int)) w) :
    cl Try.prog 34 #[.pointer (some ⟨g, 0, none⟩)] w K := by
  obtain ⟨F, F', h1, h2, h3, h4⟩ := h.gr
  obtain ⟨mb, mc, C, bb, kb, bc, kc, hg, rfl, hl, hn⟩ := h1
  apply F34_calls
  unfold F34
  refine lv_i (dr_i (ld_mk hg.ld1 (asM_i rfl (rq_mk (hg.bm.len_run und_mb) (asI_i rfl (lv_i hK))))))

/-- a block laid since -/
theorem G2.add (h : G2 W w L s g B D N g' B' D' N') {w' : World} (hx : Ext no w w') {q : Nat} {cs : List Value} {t : TypeId} (hq : w.heap.size ≤ q) (hb : w'.heap[q]? = some (.cells cs.toArray t (0, 0))) : G2 W w' ((q, cs, t) :: L) s g B D N g' B' D' N' := by
  obtain ⟨F, F', h1, h2, h3, h4⟩ := h.gr
  have hs' := h.st.to hx
  have := h.st.ext.size
  refine ⟨⟨hs'.ext, fun b hb' => ?_, List.Pairwise.cons (fun b hb' => ?_) hs'.nd⟩, F, F', h1.ext hx fun _ _ h => h, h2.ext hx fun _ _ h => h, h3, fun k hk => ⟨(h4 k hk).1, fun b hb' => ?_⟩⟩
  · rcases List.mem_cons.1 hb' with rfl | hb'
    · exact ⟨hb, by simp only; omega⟩
    · exact hs'.kn b hb'
  · have := blk_lt (h.st.kn b hb').1
    simp only
    omega
  · rcases List.mem_cons.1 hb' with rfl | hb'
    · have : k < w.heap.size := by
        rcases hk with hk | hk
        · exact h1.lt k hk
        · exact h2.lt k hk
      simp only
      omega
    · exact (h4 k hk).2 b hb'

theorem G2.near (h : G2 W w L s g B D N g' B' D' N') (hN : N ≤ 1000000000) {b : Bx} (hI : ∀ x ∈ metL B D b (cellsL' s b), I64 x.1) {K : Value → World → Prop}
    (hK : ∀ p c w' LL, G2 W w' (LL ++ L) s g B D N g' B' D' N' → HoldsV LL p (iv .i64 (gnearV s B D b)) → K (.tuple #[.slice p (gnearV s B D b).length c, .int .i64 (cellsE s b)]) w') :
    cl Try.prog 31 #[.pointer (some ⟨g, 0, none⟩), b.v] w K := by
  obtain ⟨F, F', h1, h2, h3, h4⟩ := h.gr
  obtain ⟨mb, mc, C, bb, kb, bc, kc, hg, hD, hl, hn⟩ := h1
  subst hD
  have hml := metL_len (B := B) (b := b) hl (cellsL' s b)
  have hcl := cells_len (s := s) (b := b)
  have hmul : (cellsL' s b).length * N ≤ 1024 * 1000000000 := Nat.mul_le_mul hcl hN
  refine gNear_k hg hI (by omega) (fun x => by have := hl x; omega) fun p c w' hx hr => ?_
  rcases hr.cases with ⟨rfl, _, h0⟩ | ⟨q, cur, rfl, hq, hb, _, _, _, ht⟩
  · exact hK none c w' [] (h.to hx) (fun _ _ => .inl h0)
  · refine hK _ c w' [(q, cur.toList, _)] (h.add hx hq (by simpa using hb)) (fun w1 hw1 => .inr ⟨q, 0, rfl, fun i v hv => ?_⟩)
    have hb1 := hw1 _ List.mem_cons_self
    rw [blk_cell hb1, Nat.zero_add]
    rw [← ht, List.getElem?_take] at hv
    split at hv
    · simpa using hv
    · cases hv
theorem G2.reads {LL : List (Nat × List Value × TypeId)} {p : Option Addr} {vs : List Value} (h : G2 W w L s g B D N g' B' D' N') (hH : HoldsV LL p vs) (hs : ∀ b ∈ LL, b ∈ L) : Reads w p vs := hH w fun b hb => (h.st.kn b (hs b hb)).1

theorem G2.start {w0 w1 : World} (hs : St W w0 L) {F : Nat → Prop} {mb mc : Nat} (h : Gr w1 F g mb mc s [] [] [] 0 [] 0) (hx : Ext no w0 w1) (hF : ∀ k, F k → w0.heap.size ≤ k)
    {F' : Nat → Prop} {mb' mc' : Nat} (h' : Gr w F' g' mb' mc' s [] [] [] 0 [] 0) (hx' : Ext no w1 w) (hF' : ∀ k, F' k → w1.heap.size ≤ k) : G2 W w L s g [] [] 0 g' [] [] 0 := by
  have h0 := hs.ext.size
  have h1 := hx.size
  refine ⟨(hs.to hx).to hx', F, F', ⟨mb, mc, [], [], 0, [], 0, h.ext hx' fun _ _ h => h, rfl, fun _ => Nat.zero_le _, by simp⟩, ⟨mb', mc', [], [], 0, [], 0, h', rfl, fun _ => Nat.zero_le _, by simp⟩, fun k hk hk' => ?_, fun k hk => ?_⟩
  · have := h.lt k hk
    have := hF' k hk'
    omega
  · have : w0.heap.size ≤ k := by
      rcases hk with hk | hk
      · exact hF k hk
      · have := hF' k hk; omega
    refine ⟨by omega, fun b hb => ?_⟩
    have := blk_lt (hs.kn b hb).1
    omega
end
end Go.Proofs.Ytamobmjfdiecbaa

/- GrP: the document's own grid as a thing in memory: a list of numbers and boxes; where a number stands. Conditions: those of each theorem, on its arguments. -/
namespace Go.Proofs.Ytamobmjfdiecbaa
open Go Go.Sx Go.Fp
attribute [local irreducible] jn lv ld st nw asI asB asP asS asY asM asF asA asT lp rn ru rq cl dw dr bnd bn2 nz nn hd hr so eqW
attribute [local irreducible] callOk

def bcs (A : List (Int × Bx)) : List Value := A.flatMap fun y => y.2.cells
def ids (A : List (Int × Bx)) : List Value := iv .i64 (A.map (·.1))
theorem ids_length (A : List (Int × Bx)) : (ids A).length = A.length := by simp [ids, iv]
theorem ids_get {A : List (Int × Bx)} {i : Nat} {y : Int × Bx} (h : A[i]? = some y) : (ids A)[i]? = some (.int .i64 y.1) := by simp [ids, iv, h]

structure R1 (w : World) (F : Nat → Prop) (x : Nat) (s : Int) (A : List (Int × Bx)) (p : Option Addr) (c : Nat) (q : Option Addr) (c' : Nat) : Prop where
  hd : w.heap[x]? = some (.cells #[.int .i64 s, .slice p A.length c, .slice q A.length c'] 84 (0, 0))
  ri : Row w 0 3 p c (ids A)
  rb : RowN w 0 25 3 q c' A.length (bcs A)
  ap : Apart p q
  xp : ∀ a, p = some a → a.block ≠ x
  xq : ∀ a, q = some a → a.block ≠ x
  fp : F x ∧ (∀ a, p = some a → F a.block) ∧ ∀ a, q = some a → F a.block
  lt : ∀ k, F k → k < w.heap.size

section
variable {w : World} {F : Nat → Prop} {x : Nat} {s : Int} {A : List (Int × Bx)} {p : Option Addr} {c : Nat} {q : Option Addr} {c' : Nat}

theorem R1.ext {M : Nat → Prop} (h : R1 w F x s A p c q c') {w' : World} (hx : Ext M w w') (hm : ∀ k, F k → ¬ M k) : R1 w' F x s A p c q c' :=
  ⟨hx.blk h.hd (hm _ h.fp.1), h.ri.ext hx fun a ha => hm _ (h.fp.2.1 a ha), h.rb.ext hx fun a ha => hm _ (h.fp.2.2 a ha), h.ap, h.xp, h.xq, h.fp, fun k hk => Nat.lt_of_lt_of_le (h.lt k hk) hx.size⟩
theorem R1.no (h : R1 w F x s A p c q c') {w' : World} (hx : Ext no w w') : R1 w' F x s A p c q c' := h.ext hx fun _ _ h => h
theorem R1.ld0 (h : R1 w F x s A p c q c') : w.cell? ⟨x, 0, none⟩ = some (.int .i64 s) := by rw [blk_cell h.hd]; rfl
theorem R1.ld1 (h : R1 w F x s A p c q c') : w.cell? (Addr.add ⟨x, 0, none⟩ 1) = some (.slice p A.length c) := by rw [add_mk, blk_cell h.hd]; rfl
theorem R1.ld2 (h : R1 w F x s A p c q c') : w.cell? (Addr.add ⟨x, 0, none⟩ 2) = some (.slice q A.length c') := by rw [add_mk, blk_cell h.hd]; rfl
end

/-! ### where a number stands -/
def pos (A : List (Int × Bx)) (id : Int) : Nat := (A.takeWhile fun y => decide (y.1 < id)).length
def isAt (A : List (Int × Bx)) (id : Int) : Bool := match A[pos A id]? with
  | some y => y.1 == id
  | none => false

theorem pos_le (A : List (Int × Bx)) (id : Int) : pos A id ≤ A.length := (List.takeWhile_sublist _).length_le
theorem pos_lt {id : Int} : ∀ {A : List (Int × Bx)} {i : Nat} {y : Int × Bx}, A[i]? = some y → i < pos A id → y.1 < id
  | [], i, y, h, _ => by simp at h
  | z :: A, i, y, h, hi => by
    unfold pos at hi
    rw [List.takeWhile_cons] at hi
    split at hi
    · rename_i hz
      cases i with
      | zero =>
        have : z = y := by simpa using h
        subst this
        exact of_decide_eq_true hz
      | succ i => exact pos_lt (A := A) (by simpa using h) (by unfold pos; simpa using hi)
    · simp at hi
theorem pos_at {id : Int} : ∀ {A : List (Int × Bx)} {y : Int × Bx}, A[pos A id]? = some y → ¬ y.1 < id
  | [], y, h => by simp at h
  | z :: A, y, h => by
    unfold pos at h
    rw [List.takeWhile_cons] at h
    split at h
    · exact pos_at (A := A) (by unfold pos; simpa using h)
    · rename_i hz
      have : z = y := by simpa using h
      subst this
      simpa using hz

theorem place_k {w : World} {F : Nat → Prop} {x : Nat} {s : Int} {A : List (Int × Bx)} {p : Option Addr} {c : Nat} {q : Option Addr} {c' : Nat} (h : R1 w F x s A p c q c') (hm : A.length ≤ 1000000) {id : Int} {K : Value → World → Prop}
    (hK : ∀ w', Ext no w w' → K (.tuple #[.int .i64 (pos A id : Int), .bool (isAt A id)]) w') : cl Try.prog 76 #[.pointer (some ⟨x, 0, none⟩), .int .i64 id] w K := by
  have hpl := pos_le A id
  apply F76_calls
  unfold F76
  refine lv_i (lv_i ?_)
  refine lp_mk (fun i : Nat => [.int .i64 (i : Int)]) (fun m i w' => m = A.length - i ∧ i ≤ pos A id ∧ Ext no w w') A.length 0 rfl ⟨rfl, Nat.zero_le _, Ext.refl _ _⟩ ?_
  rintro _ i w1 ⟨rfl, hi, hx1⟩ J hJ
  have h1 := h.no hx1
  have ei : IntKind.wrap .i64 ((i : Int) + 1) = ((i + 1 : Nat) : Int) := by rw [wr64 (by omega) (by omega)]; omega
  refine asI_i rfl ?_
  rw [ei]
  refine jn_of (fun t w' => t = [.bool (decide (i < pos A id))] ∧ w' = w1) ?_ ?_
  rotate_left
  · intro J2 hJ2
    refine dr_i (ld_mk h1.ld1 (asS_i rfl (cond_split (fun hc => ?_) (fun hc => hJ2 _ _ ⟨?_, rfl⟩))))
    · have hil : i < A.length := by
        have := of_decide_eq_true hc
        omega
      have hAi : A[i]? = some A[i] := List.getElem?_eq_getElem hil
      refine dr_i (ld_mk h1.ld1 (asS_i rfl (h1.ri.reads.at (i := (i : Int)) (v := .int .i64 A[i].1) (by omega) (ids_get hAi) (asI_i rfl (hJ2 _ _ ⟨?_, rfl⟩)) (by rw [ids_length]; exact Nat.le_refl _))))
      congr 2
      by_cases hip : i < pos A id
      · rw [decide_eq_true hip, decide_eq_true (pos_lt hAi hip)]
      · have : i = pos A id := by omega
        rw [decide_eq_false hip, decide_eq_false]
        refine pos_at (A := A) (id := id) (y := A[i]) ?_
        rw [← this]
        exact hAi
    · have := of_decide_eq_false hc
      rw [decide_eq_false (by omega)]
  rintro _ w1 ⟨rfl, rfl⟩
  refine asB_i rfl (cond_split (fun hc => ?_) (fun hc => ?_))
  · have := of_decide_eq_true hc
    exact lv_i (hJ (A.length - (i + 1)) (i + 1) w1 (by omega) ⟨rfl, by omega, hx1⟩)
  · have hip : i = pos A id := by
      have := of_decide_eq_false hc
      omega
    refine jn_of (fun t w' => t = [.int .i64 (pos A id : Int), .bool (isAt A id)] ∧ Ext no w w') ?_ ?_
    · rintro _ w2 ⟨rfl, hx2⟩
      exact asI_i rfl (asB_i rfl (hK w2 hx2))
    · intro J2 hJ2
      refine dw_mk ?_
      have hxd := hx1.trans (Ext.drew w1)
      have hd := h.no hxd
      refine dr_i (ld_mk hd.ld1 (asS_i rfl (cond_split (fun hc => ?_) (fun hc => lv_i (hJ2 _ _ ⟨?_, hxd⟩)))))
      · have hil : i < A.length := by
          have := of_decide_eq_true hc
          omega
        have hAi : A[i]? = some A[i] := List.getElem?_eq_getElem hil
        refine dr_i (ld_mk hd.ld1 (asS_i rfl (hd.ri.reads.at (i := (i : Int)) (v := .int .i64 A[i].1) (by omega) (ids_get hAi) (asI_i rfl (lv_i (hJ2 _ _ ⟨?_, hxd⟩))) (by rw [ids_length]; exact Nat.le_refl _))))
        have : isAt A id = (A[i].1 == id) := by unfold isAt; rw [← hip, hAi]
        rw [this, ← hip]
      · have hil : ¬ i < A.length := by
          have := of_decide_eq_false hc
          omega
        have : isAt A id = false := by unfold isAt; rw [← hip, List.getElem?_eq_none (by omega)]
        rw [this, hip]
end Go.Proofs.Ytamobmjfdiecbaa
