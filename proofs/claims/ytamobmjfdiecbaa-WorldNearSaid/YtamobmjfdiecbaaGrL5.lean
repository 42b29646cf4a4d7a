/- GrL5: the law WorldNear comes out true for every input. Conditions: those of the law's arguments as they are read. -/
import Derived.Test.YtamobmjfdiecbaaGrW
import Derived.Test.YtamobmjfdiecbaaGrO
import Derived.Test.YtamobmjfdiecbaaWoL2
import Derived.Test.YtamobmjfdiecbaaGrL1
namespace Go.Proofs.Ytamobmjfdiecbaa
open Go Go.Sx Go.Fp
attribute [local irreducible] jn lv ld st nw asI asB asP asS asY asM asF asA asT lp rn ru rq cl dw dr bnd bn2 nz nn hd hr so eqW
attribute [local irreducible] callOk

theorem right_of {e : Ent} (h : e.rightE = 0) : (-4398046511104 ≤ e.x ∧ e.x ≤ 4398046511104) ∧ (-4398046511104 ≤ e.y ∧ e.y ≤ 4398046511104) ∧ 1 ≤ e.r ∧ e.r ≤ 17179869184 := by
  unfold Ent.rightE at h
  split at h
  · rename_i hb
    simp only [Ent.boxOk, inn, Bool.and_eq_true, decide_eq_true_eq] at hb
    exact ⟨hb.1.1.1, hb.1.1.2, hb.1.2, hb.2⟩
  · cases h
theorem box_right {e : Ent} (h : e.rightE = 0) : e.box.right = true := by
  obtain ⟨h1, h2, h3, h4⟩ := right_of h
  refine right_iff.2 ⟨?_, ?_, ?_⟩ <;> simp only [Ent.box] <;> omega
theorem box_cells {e : Ent} (h : e.rightE = 0) : cellsE wside e.box = 0 := by
  obtain ⟨h1, h2, h3, h4⟩ := right_of h
  have hw : wside = 34359738368 := rfl
  unfold cellsE
  rw [if_pos (by decide), if_pos (box_right h)]
  have hlx : -1048576 ≤ (e.x - e.r) / 34359738368 ∧ (e.x + e.r - 1) / 34359738368 ≤ 1048576 ∧ (e.x - e.r) / 34359738368 ≤ (e.x + e.r - 1) / 34359738368 ∧ (e.x + e.r - 1) / 34359738368 ≤ (e.x - e.r) / 34359738368 + 1 := by omega
  have hly : -1048576 ≤ (e.y - e.r) / 34359738368 ∧ (e.y + e.r - 1) / 34359738368 ≤ 1048576 ∧ (e.y - e.r) / 34359738368 ≤ (e.y + e.r - 1) / 34359738368 ∧ (e.y + e.r - 1) / 34359738368 ≤ (e.y - e.r) / 34359738368 + 1 := by omega
  have hok : (spanOf wside e.box).ok = true := by
    simp only [Span.ok, spanOf, Ent.box, hw, Bool.and_eq_true, isCell_iff]
    omega
  have hwt : ¬ (spanOf wside e.box).wide * (spanOf wside e.box).tall > 1024 := by
    have a1 : 1 ≤ (spanOf wside e.box).wide ∧ (spanOf wside e.box).wide ≤ 2 := by
      simp only [Span.wide, spanOf, Ent.box, hw]
      omega
    have a2 : 1 ≤ (spanOf wside e.box).tall ∧ (spanOf wside e.box).tall ≤ 2 := by
      simp only [Span.tall, spanOf, Ent.box, hw]
      omega
    have : (spanOf wside e.box).wide * (spanOf wside e.box).tall ≤ 2 * 2 := Int.mul_le_mul a1.2 a2.2 (by omega) (by decide)
    omega
  rw [if_pos hok, if_neg hwt]

/-- the grid has just the boxes of those who are there -/
structure Lies (S : List Spot) (B : List (Int × Bx)) (D : List ((Int × Int) × List Int)) : Prop where
  cons : Cons wside B D
  to : ∀ (j : Nat) s, S[j]? = some s → s.there = true → aget B (j : Int) = some s.e.box
  of : ∀ x b, aget B x = some b → ∃ (j : Nat) (s : Spot), x = (j : Int) ∧ S[j]? = some s ∧ s.there = true ∧ s.e.box = b

theorem Lies.zero : Lies (List.replicate 64 Spot.zero) [] [] := by
  refine ⟨Cons.nil _, fun j s h ht => ?_, fun x b h => by simp [aget, afind] at h⟩
  rw [List.getElem?_replicate] at h
  split at h
  · cases h
    cases ht
  · cases h

theorem Lies.spawn {S : List Spot} {B : List (Int × Bx)} {D : List ((Int × Int) × List Int)} (h : Lies S B D) {i : Nat} {s : Spot} (hf : IsFree S i s) {e : Ent} (he : e.rightE = 0) : Lies (S.set i (spn s i e)) (gputB wside B (i : Int) e.box) (gputD wside B D (i : Int) e.box) := by
  have hil := (List.getElem?_eq_some_iff.1 hf.1).1
  have hth : s.there = false := by
    have := hf.2.1
    unfold free at this
    revert this
    cases s.there <;> simp
  have hE : gputE wside B (i : Int) e.box = 0 := by
    unfold gputE
    rw [if_neg (by omega), if_neg, box_cells he]
    intro hsome
    obtain ⟨b, hb⟩ := Option.isSome_iff_exists.1 hsome
    obtain ⟨j, t, h1, h2, h3, _⟩ := h.of _ b hb
    have : j = i := by omega
    subst this
    rw [hf.1] at h2
    cases h2
    rw [hth] at h3
    cases h3
  refine ⟨h.cons.put _ _, fun j t ht hthere => ?_, fun x b hx => ?_⟩
  · rw [get_put]
    by_cases hj : j = i
    · subst hj
      rw [List.getElem?_set_self hil] at ht
      cases ht
      rw [if_pos ⟨hE, rfl⟩]
      rfl
    · rw [List.getElem?_set_ne (fun e => hj e.symm)] at ht
      rw [if_neg (fun hh => hj (by have := hh.2; omega))]
      exact h.to j t ht hthere
  · rw [get_put] at hx
    split at hx
    · rename_i hh
      cases hx
      exact ⟨i, spn s i e, hh.2, List.getElem?_set_self hil, rfl, rfl⟩
    · rename_i hh
      obtain ⟨j, t, h1, h2, h3, h4⟩ := h.of x b hx
      have hj : ¬ i = j := fun e => hh ⟨hE, by omega⟩
      exact ⟨j, t, h1, by rw [List.getElem?_set_ne hj]; exact h2, h3, h4⟩

theorem Lies.keys {S : List Spot} {B : List (Int × Bx)} {D : List ((Int × Int) × List Int)} (h : Lies S B D) (hl : S.length = 64) {b : Bx} (hb : cellsE wside b = 0) (x : Int) : x ∈ (metL B D b (cellsL' wside b)).map (·.1) ↔ ∃ i : Nat, x = (i : Int) ∧ i < 64 ∧ pT S b i = true := by
  rw [h.cons.near hb]
  constructor
  · rintro ⟨a, h1, h2⟩
    obtain ⟨j, s, h3, h4, h5, h6⟩ := h.of x a h1
    have hj := (List.getElem?_eq_some_iff.1 h4).1
    refine ⟨j, h3, by omega, ?_⟩
    have : S.getD j Spot.zero = s := by rw [List.getD_eq_getElem?_getD, h4]; rfl
    unfold pT
    rw [this, h5, h6, h2]
    rfl
  · rintro ⟨j, rfl, hj, hp⟩
    have hs : S[j]? = some (S.getD j Spot.zero) := by
      rw [List.getD_eq_getElem?_getD, List.getElem?_eq_getElem (by omega)]
      rfl
    unfold pT at hp
    simp only [Bool.and_eq_true] at hp
    exact ⟨_, h.to j _ hs hp.2, hp.1⟩

theorem Lies.key_lt {S : List Spot} {B : List (Int × Bx)} {D : List ((Int × Int) × List Int)} (h : Lies S B D) (hl : S.length = 64) {b : Bx} : ∀ x ∈ metL B D b (cellsL' wside b), I64 x.1 := by
  intro x hx
  obtain ⟨⟨c, _, h2⟩, _⟩ := mem_metL.1 (List.mem_map.2 ⟨x, hx, rfl⟩)
  obtain ⟨a, h3, _⟩ := (h.cons.cell c x.1).1 h2
  obtain ⟨j, s, h4, h5, _⟩ := h.of _ a h3
  have hj := (List.getElem?_eq_some_iff.1 h5).1
  unfold I64
  omega

def qM (b : Bx) (e : Ent) : Bool := (meetV e.box b).1
theorem outW_eq {S : List Spot} (hl : S.length = 64) {b : Bx} (hr : b.right = true) : outW S b = ((listS S).filter (qM b)).map (·.h) := by
  have hS : S = (List.range 64).map fun i => S.getD i Spot.zero := by
    apply List.ext_getElem?
    intro j
    rw [List.getElem?_map]
    by_cases hj : j < 64
    · rw [List.getElem?_range hj, Option.map_some, List.getD_eq_getElem?_getD, List.getElem?_eq_getElem (by omega)]
      rfl
    · rw [List.getElem?_eq_none (by omega), List.getElem?_eq_none (by simp; omega)]
      rfl
  unfold outW listS
  rw [if_pos hr, List.filter_map, List.filter_filter, List.map_map]
  generalize hp : (fun s : Spot => (qM b ∘ fun s => s.e) s && s.there) = p
  have e1 : (S.filter p).map ((fun x => x.h) ∘ fun s => s.e) = (((List.range 64).map fun i => S.getD i Spot.zero).filter p).map ((fun x => x.h) ∘ fun s => s.e) := by rw [← hS]
  rw [e1, List.filter_map, List.map_map]
  subst hp
  rfl

theorem filter_at {α : Type} {q : α → Bool} : ∀ {L : List α} {i : Nat} {e : α}, L[i]? = some e → q e = true → (L.filter q)[((L.take i).filter q).length]? = some e
  | [], i, e, h, _ => by simp at h
  | x :: L, 0, e, h, hq => by
    have : x = e := by simpa using h
    subst this
    simp [List.filter_cons, hq]
  | x :: L, i + 1, e, h, hq => by
    have ih := filter_at (L := L) (i := i) (by simpa using h) hq
    rw [List.take_succ_cons, List.filter_cons, List.filter_cons]
    split
    · simpa using ih
    · exact ih

set_option maxHeartbeats 2000000 in
theorem worldNear_law (W : World) (a : Option Addr) (len cap : Nat) (z : List (List Value)) (R : Reads W a z.flatten) (hL : z.length = len)
    (F0 : ∀ c ∈ z, FitsAll [.int .i64, .int .i64, .int .i64, .int .i64, .int .i64, .int .i64, .int .i64, .int .i64] c) (Y : len * 64 ≤ 140737488351232) (z2 : List Value) (F2 : FitsAll [.int .i64, .int .i64, .int .i64] z2) :
    cl Try.prog 11 #[.slice a len cap, .agg z2.toArray] W fun v w' => v = .bool true ∧ Ext no W w' := by
  obtain ⟨es, hz, hl, hI⟩ := ents_of rfl F0
  rw [hz] at R
  rw [hL] at hl
  clear hz hL F0
  obtain ⟨b, rfl, _⟩ := bx_of' F2
  apply F11_calls
  unfold F11
  have hS := St.start W
  (refine St.nw hS ?_; clear hS; intro r1 _ hS)
  refine wawake_k fun w2 hx2 => asB_i rfl ?_
  refine wnew_k fun w3 F r g hw hx3 hF hr => asP_i rfl ?_
  have hP := Pw.start (hS.to hx2) hx3 hw hF hr
  refine jn_mk (cond_f rfl (asB_i rfl (cond_f rfl (lv_i ?_))))
  refine lp_mk (fun i : Nat => [.int .i64 (i : Int)]) (fun m i w' => m = len - i ∧ i ≤ len ∧ i ≤ 80 ∧ ∃ F S B D, Pw W w' [(r1, b.cells, 25)] F r g S B D (1024 * i) ∧ Good i S ∧ Lies S B D) len 0 rfl ⟨rfl, Nat.zero_le _, Nat.zero_le _, F, _, _, _, hP, Good.zero, Lies.zero⟩ ?_
  clear hP hw hF hr hx2 hx3 F w3
  rintro _ i w1 ⟨rfl, hi, hi8, F, S, B, D, hP, hG, hLi⟩ J hJ
  refine asI_i rfl ?_
  refine jn_of (fun s w' => ∃ b, s = [.bool b] ∧ w' = w1 ∧ (b = true → i < len ∧ i < 80)) ?_ ?_
  rotate_left
  · intro J2 hJ2
    refine cond_split (fun h1 => hJ2 _ _ ⟨_, rfl, rfl, fun h2 => ?_⟩) (fun _ => hJ2 _ _ ⟨_, rfl, rfl, fun h => by cases h⟩)
    have := of_decide_eq_true h1
    have := of_decide_eq_true h2
    omega
  rintro _ _ ⟨b0, rfl, rfl, hb⟩
  refine asB_i rfl (cond_split (fun h => ?_) (fun _ => ?_))
  · obtain ⟨hl1, hl2⟩ := hb h
    have he : es[i]? = some es[i] := List.getElem?_eq_getElem (by omega)
    have hIe := hI _ (List.getElem_mem (by omega : i < es.length))
    generalize es[i] = e at he hIe
    refine Reads.atN (f := Ent.cells) Ent.cells_length (Reads.no hP.st.ext R) hl he (by decide) fun a' _ hca => ?_
    rw [Int.toNat_natCast]
    have ei : IntKind.wrap .i64 ((i : Int) + 1) = ((i + 1 : Nat) : Int) := by rw [wr64 (by omega) (by omega)]; omega
    rw [ei]
    refine ld8c hca (hP.spawn (e := e) (by omega) (fun w4 hP _ => ?_) (fun w4 hP _ _ => ?_) (fun w4 F4 j s he0 hf hP => ?_))
    · exact asT_i rfl rfl (asI_i rfl (asI_i rfl (lv_i (hJ (len - (i + 1)) (i + 1) _ (by omega) ⟨rfl, by omega, by omega, F, S, B, D, ⟨hP.st, hP.wd.mono (by omega), hP.fr⟩, hG.mono (by omega), hLi⟩))))
    · exact asT_i rfl rfl (asI_i rfl (asI_i rfl (lv_i (hJ (len - (i + 1)) (i + 1) _ (by omega) ⟨rfl, by omega, by omega, F, S, B, D, ⟨hP.st, hP.wd.mono (by omega), hP.fr⟩, hG.mono (by omega), hLi⟩))))
    · exact asT_i rfl rfl (asI_i rfl (asI_i rfl (lv_i (hJ (len - (i + 1)) (i + 1) _ (by omega) ⟨rfl, by omega, by omega, F4, _, _, _, hP, hG.spawn (by omega) hf.1 he0 hIe, hLi.spawn hf he0⟩))))
  · have h64 := hP.wd.ws.len
    have hlen := listS_len S
    have hml := metL_len (B := B) (b := b) hP.wd.bd (cellsL' wside b)
    have hcl := cells_len (s := wside) (b := b)
    have hmul : (cellsL' wside b).length * (1024 * i) ≤ 1024 * (1024 * 80) := Nat.mul_le_mul hcl (by omega)
    refine hP.st.ld0 0 rfl rfl (asI_i rfl (hP.st.ld 0 rfl rfl (asI_i rfl (hP.st.ld 0 rfl rfl (asI_i rfl ?_)))))
    refine wnear_k hP.wd (by omega) (b := b) (hLi.key_lt h64) (fun hb0 => hLi.keys h64 hb0) (by omega) fun p c w5 hx5 hrow => ?_
    replace hP := hP.to hx5
    refine asT_i rfl rfl (asS_i rfl (asI_i rfl (lv_i (cond_split (fun he => ?_) (fun he => ?_)))))
    · have hnr : ¬ b.right = true := by
        intro hr
        unfold Bx.rightE at he
        rw [if_pos hr] at he
        cases he
      have h60 : b.rightE = 60 := by unfold Bx.rightE; rw [if_neg hnr]
      have e1 : outW S b = [] := by unfold outW; rw [if_neg hnr]
      rw [e1, h60]
      refine jn_of (fun t w' => t = [.bool true] ∧ Ext no W w') ?_ ?_
      · rintro _ w6 ⟨rfl, hx⟩
        exact asB_i rfl ⟨rfl, hx⟩
      · intro J2 hJ2
        refine cond_t rfl (hP.st.ld0 0 rfl rfl (asI_i rfl (hP.st.ld 0 rfl rfl (asI_i rfl (hP.st.ld 0 rfl rfl (asI_i rfl ?_))))))
        refine right_k (b := b) fun w6 hx6 => asI_i rfl ?_
        rw [h60]
        exact cond_t rfl (hJ2 _ _ ⟨rfl, hP.st.ext.trans hx6⟩)
    · have hr : b.right = true := by
        unfold Bx.rightE at he
        by_cases hr : b.right = true
        · exact hr
        · rw [if_neg hr] at he; cases he
      have eO := outW_eq h64 hr
      have hreads := hrow.reads
      rw [eO] at hreads ⊢
      refine list_k hP.wd.ws fun q c' w6 hx6 hrl => asS_i rfl (lv_i (lv_i ?_))
      replace hP := hP.to hx6
      have hRl := hrl.reads
      have hRn := hreads.ext hx6 fun _ _ h => h
      have hX := hP.st.ext
      have hb1 := (hP.st.kn _ List.mem_cons_self).1
      have hRi : ∀ e ∈ listS S, e.rightE = 0 := fun e he => by
        obtain ⟨m, s, hs, ht, rfl⟩ := listS_mem he
        exact ((hG m s hs).2.2.2 ht).1
      generalize listS S = L at *
      have add2 : ∀ (A : Addr) (n : Nat), Addr.add (Addr.add A 1) n = Addr.add A (1 + n) := fun A n => by simp [Addr.add, Nat.add_assoc]
      have hfl : ∀ j, ((L.take j).filter (qM b)).length ≤ 64 := fun j => by
        have h1 := List.length_filter_le (qM b) (L.take j)
        rw [List.length_take] at h1
        omega
      refine lp_mk (fun j : Nat => [.int .i64 (((L.take j).filter (qM b)).length : Int), .int .i64 (j : Int)]) (fun m j w' => m = L.length - j ∧ j ≤ L.length ∧ Ext no w6 w') L.length 0 rfl ⟨rfl, Nat.zero_le _, Ext.refl _ _⟩ ?_
      rintro _ j w7 ⟨rfl, hj, hx7⟩ J2 hJ2
      refine asI_i rfl (asI_i rfl (cond_split (fun hc => ?_) (fun hc => ?_)))
      · have hjl : j < L.length := by
          have := of_decide_eq_true hc
          omega
        have ej : IntKind.wrap .i64 ((j : Int) + 1) = ((j + 1 : Nat) : Int) := by rw [wr64 (by omega) (by omega)]; omega
        have hLj : L[j]? = some L[j] := List.getElem?_eq_getElem hjl
        have htk : L.take (j + 1) = L.take j ++ [L[j]] := by rw [List.take_add_one, List.getElem?_eq_getElem hjl]; rfl
        have hre := hRi _ (List.getElem_mem hjl)
        generalize L[j] = e at *
        have hfj := hfl j
        have hfe : ((L.take (j + 1)).filter (qM b)).length = ((L.take j).filter (qM b)).length + if qM b e = true then 1 else 0 := by
          rw [htk, List.filter_append, List.length_append, List.filter_cons]
          split <;> rfl
        rw [ej]
        refine jn_of (fun t w' => t = [.int .i64 (((L.take (j + 1)).filter (qM b)).length : Int)] ∧ Ext no w6 w') ?_ ?_
        · rintro _ w8 ⟨rfl, hx8⟩
          exact asI_i rfl (lv_i (hJ2 (L.length - (j + 1)) (j + 1) w8 (by omega) ⟨rfl, hjl, hx8⟩))
        · intro J3 hJ3
          refine dw_mk ?_
          have hxd : Ext no w6 w7.drew := hx7.trans (Ext.drew w7)
          refine Reads.atN (f := Ent.cells) Ent.cells_length (hRl.ext hxd fun _ _ h => h) rfl hLj (by decide) fun a1 _ hca => ?_
          rw [Int.toNat_natCast]
          refine ld_mk (hca 1 (by decide)) (asI_i rfl (ld_mk (by rw [add2]; exact hca 2 (by decide)) (asI_i rfl (ld_mk (by rw [add2]; exact hca 3 (by decide)) (asI_i rfl ?_)))))
          have hS7 := hP.st.to hxd
          refine hS7.ld0 0 rfl rfl (asI_i rfl (hS7.ld 0 rfl rfl (asI_i rfl (hS7.ld 0 rfl rfl (asI_i rfl ?_)))))
          refine meet_k (a := e.box) (b := b) fun w8 hx8 => asT_i rfl rfl (asB_i rfl (asI_i rfl (lv_i ?_)))
          have hx8' := hxd.trans hx8
          have hm2 : (meetV e.box b).2 = 0 := by
            unfold meetV gapV
            rw [if_pos ⟨box_right hre, hr⟩]
          refine cond_f (by show ((meetV e.box b).2 != 0) = false; rw [hm2]; rfl) (cond_split (fun hm => ?_) (fun hm => ?_))
          · have hq : qM b e = true := hm
            rw [hq, if_pos rfl] at hfe
            have hat := filter_at hLj hq
            have hkl := (List.getElem?_eq_some_iff.1 hat).1
            refine jn_of (fun t w' => t = [.bool false] ∧ Ext no w6 w') ?_ ?_
            · rintro _ w9 ⟨rfl, hx9⟩
              refine asB_i rfl (cond_f rfl (lv_i (hJ3 _ _ ⟨?_, hx9⟩)))
              rw [wr64 (by omega) (by omega), hfe]
              rfl
            · intro J4 hJ4
              refine dw_mk ?_
              have hx9 : Ext no w6 w8.drew := hx8'.trans (Ext.drew w8)
              refine cond_f (by simp only [List.length_map, decide_eq_false_iff_not]; omega) ?_
              refine (hRn.ext hx9 fun _ _ h => h).at (i := (((L.take j).filter (qM b)).length : Int)) (v := .int .i64 e.h) (by omega) (by simp [iv, hat]) (asI_i rfl ?_) (by simp [iv])
              refine Reads.atN (f := Ent.cells) Ent.cells_length (hRl.ext hx9 fun _ _ h => h) rfl hLj (by decide) fun a2 _ hca2 => ?_
              have h0 := hca2 0 (by decide)
              rw [Sx.add_zero'] at h0
              refine ld_mk h0 (asI_i rfl (hJ4 _ _ ⟨?_, hx9⟩))
              simp
          · have hq : ¬ qM b e = true := by rw [show qM b e = false from hm]; decide
            rw [if_neg hq] at hfe
            refine hJ3 _ _ ⟨?_, hx8'⟩
            rw [hfe]
            rfl
      · have hjl : j = L.length := by
          have := of_decide_eq_false hc
          omega
        subst hjl
        refine ⟨?_, hX.trans hx7⟩
        rw [List.take_length]
        simp
end Go.Proofs.Ytamobmjfdiecbaa
