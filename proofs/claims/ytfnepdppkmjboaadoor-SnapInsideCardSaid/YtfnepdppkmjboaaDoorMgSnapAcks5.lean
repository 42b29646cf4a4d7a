/- SnS: a change is laid into an entity. Conditions: those of each theorem, on its arguments. -/
import Derived.Test.YtfnepdppkmjboaaDoorMgSnapAcks4
import Derived.Test.YtfnepdppkmjboaaDoorMgSnapAcks3
import Derived.Test.YtfnepdppkmjboaaDoorProg
import Derived.Test.YtfnepdppkmjboaaDoorMgSnapAcks1
import Derived.KernelRfl
namespace Go.Proofs.YtfnepdppkmjboaaDoor
open Go Go.Sx Go.Fp
attribute [local irreducible] jn lv ld st nw asI asB asP asS asY asM asF asA asT lp rn ru rq cl dw dr bnd bn2 nz nn hd hr so eqW
attribute [local irreducible] callOk

def layE (E f : Ent) (m : Nat) (new : Bool) : Ent := if new then E else finE E f m

set_option maxHeartbeats 6400000 in
theorem lay_k {w00 : World} (hp0 : Pts w00) {w : World} (hw : Ext no w00 w) {E f : Ent} {m : Nat} {new : Bool} (hm : m < 64) {K : Value → World → Prop} (hK : ∀ w', Ext no w w' → K (layE E f m new).v w') :
    cl Tryd.prog 39 #[.agg (chC E m new).toArray, f.v] w K := by
  have hp := hp0.no hw
  clear hp0 hw
  apply F39_calls
  unfold F39
  have hS : Bn w no w w [] emp := Bn.fresh w
  refine hS.nw (cs := chC E m new) fun r1 w1 hS => ?_
  refine hS.nw (cs := f.cells) fun r3 w2 hS => ?_
  refine hS.nw (cs := Ent.zero.cells) fun r5 w3 hS => ?_
  refine hS.ld 2 rfl rfl (asB_i rfl ?_)
  cases new with
  | true =>
    refine cond_t rfl ?_
    refine hS.ld0 2 rfl rfl (asI_i rfl (hS.ld 2 rfl rfl (asI_i rfl (hS.ld 2 rfl rfl (asI_i rfl (hS.ld 2 rfl rfl (asI_i rfl (hS.ld 2 rfl rfl (asI_i rfl (hS.ld 2 rfl rfl (asI_i rfl (hS.ld 2 rfl rfl (asI_i rfl (hS.ld 2 rfl rfl (asI_i rfl ?_)))))))))))))))
    refine Bn.put8 hS rfl E fun w4 hS => Bn8 hS 0 rfl (hK _ hS.all)
  | false =>
  refine cond_f rfl ?_
  refine hp.load hS.all fun p0 n0 c0 p1 n1 c1 p2 n2 c2 p3 n3 c3 p4 n4 c4 harr => ?_
  refine lp_mk (fun k : Nat => [.int .i64 (k : Int)]) (fun z k w' => z = 5 - k ∧ k ≤ 5 ∧ Bn w no w w' [(r5, Ent.zero.cells, 59), (r3, (upE E f m k).cells, 59), (r1, chC E m false, 90)] emp) 5 0 rfl ⟨rfl, Nat.zero_le _, hS⟩ ?_
  clear hS
  rintro _ k w19 ⟨rfl, hk, hS⟩ J hJ
  refine asI_i rfl (cond_split (fun hc => ?_) (fun hc => ?_))
  · have hk5 : k < 5 := by
      have := of_decide_eq_true hc
      omega
    obtain ⟨pp, c, l', hA, hP, hR⟩ := harr k hk5
    obtain ⟨l2, hP2, hG, hl2, hmem⟩ := parT_get hk5
    obtain rfl : l' = l2 := Option.some.inj (hP.symm.trans hP2)
    refine jn_of (fun s w' => s = [] ∧ Bn w no w w' [(r5, Ent.zero.cells, 59), (r3, (upE E f m (k + 1)).cells, 59), (r1, chC E m false, 90)] emp) ?_ ?_
    · rintro _ w20 ⟨rfl, hS⟩
      have ek : IntKind.wrap .i64 ((k : Int) + 1) = ((k + 1 : Nat) : Int) := by rw [wr64 (by omega) (by omega)]; omega
      rw [ek]
      exact hJ (5 - (k + 1)) (k + 1) _ (by omega) ⟨rfl, by omega, hS⟩
    intro J2 hJ2
    refine bnd_mk (by omega) (by omega) (so_i hA (asS_i rfl (lv_i (hS.ld 2 rfl rfl (asI_i rfl (nn_mk ?_ ?_))))))
    · rw [wr64 (by omega) (by omega)]; omega
    rw [mbit hm hk5]
    refine cond_split (fun hb => hJ2 _ _ ⟨rfl, ?_⟩) (fun hb => ?_)
    · have hb' : m.testBit (5 - k) = false := by simpa using hb
      have e1 : ∀ b, upE E b m (k + 1) = upE E b m k := fun b => by simp [upE, partE, hb']
      rw [e1]
      exact hS
    have hb' : m.testBit (5 - k) = true := by simpa using hb
    have e1 : ∀ b, upE E b m (k + 1) = numsE E (upE E b m k) l' := fun b => by simp only [upE, partE, hb', if_true, hG]
    rw [e1] at hJ2
    generalize upE E f m k = T at hS hJ2
    refine lp_mk (fun j : Nat => [.int .i64 (j : Int)]) (fun z j w' => z = l'.length - j ∧ j ≤ l'.length ∧ Bn w no w w' [(r5, Ent.zero.cells, 59), (r3, (numsE E T (l'.take j)).cells, 59), (r1, chC E m false, 90)] emp) l'.length 0 rfl ⟨rfl, Nat.zero_le _, hS⟩ ?_
    clear hS
    rintro _ j w20 ⟨rfl, hj, hS⟩ J3 hJ3
    refine asI_i rfl (cond_split (fun hc2 => ?_) (fun hc2 => ?_))
    · have hjl : j < l'.length := by
        have := of_decide_eq_true hc2
        omega
      have hx : l'[j]? = some l'[j] := List.getElem?_eq_getElem hjl
      have hat := num_at hmem (List.getElem_mem hjl)
      have et : ∀ b, numsE E b (l'.take (j + 1)) = (numsE E b (l'.take j)).set l'[j].1 (E.at l'[j].1) := fun b => by
        rw [List.take_add_one, hx]
        unfold numsE
        rw [List.foldl_append]
        rfl
      generalize l'[j] = x at hx hat et
      refine Reads.atN (f := numC) numC_length (hR.ext hS.all fun _ _ h => h) rfl hx (by decide) fun a _ hca => ?_
      have hc0 := hca 0 (by decide)
      have hc1 := hca 1 (by decide)
      have hc2' := hca 2 (by decide)
      rw [Sx.add_zero'] at hc0
      rw [Int.toNat_natCast]
      refine ld_mk hc0 (asN_i rfl (ld_mk hc1 (asI_i rfl (ld_mk hc2' (asI_i rfl ?_)))))
      (refine hS.nw ?_; clear hS; intro r2 _ hS)
      refine hS.st0 0 rfl rfl rfl fun w3 hS => ?_
      refine hS.st 0 rfl rfl rfl fun w4 hS => ?_
      refine hS.st 0 rfl rfl rfl fun w5 hS => ?_
      refine hS.dw fun w8 hS _ => hS.ld0 0 rfl rfl (asN_i rfl (hS.ld0 0 rfl rfl (asN_i rfl (cond_t (numF_ok x.1) (numF_k hat.1 hat.2 (asP_i rfl (hS.hd0 0 rfl rfl (cond_t (numF_ok x.1) (numF_k hat.1 hat.2 (asP_i rfl (dr_i ?_)))))))))))
      have hcell : (chC E m false)[x.1]? = some (.int .i64 (E.at x.1)) := by
        unfold chC
        rw [List.getElem?_append_left (by rw [Ent.cells_length]; omega)]
        exact E.cells_at (by omega)
      refine ld_mk (hS.cell 3 rfl hcell) (asI_i rfl (dr_i ?_))
      refine hS.stj 2 rfl (by rw [Ent.cells_length]; omega) rfl fun w9 hS _ => ?_
      have ej : IntKind.wrap .i64 ((j : Int) + 1) = ((j + 1 : Nat) : Int) := by rw [wr64 (by omega) (by omega)]; omega
      rw [ej]
      refine hJ3 (l'.length - (j + 1)) (j + 1) _ (by omega) ⟨rfl, by omega, ?_⟩
      rw [et]
      have hS := hS.tail
      simp only [List.set_cons_succ, List.set_cons_zero] at hS
      rw [set_cells _ hat.1 (by omega)] at hS
      exact hS
    · have hjl : j = l'.length := by
        have := of_decide_eq_false hc2
        omega
      subst hjl
      rw [List.take_length] at hS
      exact hJ2 _ _ ⟨rfl, hS⟩
  · have hk5 : k = 5 := by
      have := of_decide_eq_false hc
      omega
    subst hk5
    clear hJ J
    refine jn_of (fun s w' => s = [] ∧ Bn w no w w' [(r5, Ent.zero.cells, 59), (r3, (finE E f m).cells, 59), (r1, chC E m false, 90)] emp) ?_ ?_
    rotate_left
    · intro J hJ
      refine hS.ld 2 rfl rfl (asI_i rfl ?_)
      rw [mbit0 hm]
      refine cond_split (fun hb => ?_) (fun hb => hJ _ _ ⟨rfl, ?_⟩)
      · refine hS.ld 2 rfl rfl (asI_i rfl (hS.st 1 rfl rfl rfl fun w5 hS => hJ _ _ ⟨rfl, ?_⟩))
        have ef : finE E f m = (upE E f m 5).set 7 E.t := by unfold finE; rw [if_pos hb]
        rw [ef]
        exact hS
      · have ef : finE E f m = upE E f m 5 := by unfold finE; rw [if_neg (by simp [hb])]
        rw [ef]
        exact hS
    clear hS
    rintro _ w20 ⟨rfl, hS⟩
    refine Bn8 hS 1 rfl (Bn.put8 hS rfl (finE E f m) fun w4 hS => Bn8 hS 0 rfl (hK _ hS.all))
end Go.Proofs.YtfnepdppkmjboaaDoor

/- SnU: a change that was written lays what was meant: plain Lean. No condition. -/
namespace Go.Proofs.YtfnepdppkmjboaaDoor
open Go Go.Sx Go.Fp

theorem finE_eq (e b : Ent) (m : Nat) : finE e b m = ⟨b.h, if m.testBit 5 then e.x else b.x, if m.testBit 4 then e.y else b.y, if m.testBit 3 then e.r else b.r, if m.testBit 2 then e.vx else b.vx, if m.testBit 2 then e.vy else b.vy, if m.testBit 1 then e.o else b.o, if m.testBit 0 then e.t else b.t⟩ := by
  simp only [finE, upE, partE, numsE, parT, List.getD_cons_zero, List.getD_cons_succ, List.foldl_cons, List.foldl_nil, Nat.sub_zero, show 5 - 1 = 4 from rfl, show 5 - 2 = 3 from rfl, show 5 - 3 = 2 from rfl, show 5 - 4 = 1 from rfl]
  cases m.testBit 5 <;> cases m.testBit 4 <;> cases m.testBit 3 <;> cases m.testBit 2 <;> cases m.testBit 1 <;> cases m.testBit 0 <;> rfl

theorem new_all (e : Ent) : finE e { Ent.zero with h := e.h } 63 = e := by
  rw [finE_eq]
  rfl

theorem mask_bits (e f : Ent) : (∀ k, k < 5 → (maskN e f).testBit (5 - k) = diffs e f k) ∧ (maskN e f).testBit 0 = (e.t != f.t) := by
  simp only [maskN, mUp]
  generalize hd : diffs e f = d
  generalize (e.t != f.t) = t
  have key : ∀ a b c x y z : Bool, ((0 ||| (if a then 2 ^ (5 - 0) else 0)) ||| (if b then 2 ^ (5 - 1) else 0) ||| (if c then 2 ^ (5 - 2) else 0) ||| (if x then 2 ^ (5 - 3) else 0) ||| (if y then 2 ^ (5 - 4) else 0) ||| (if z then 1 else 0) : Nat).testBit 5 = a ∧
    ((0 ||| (if a then 2 ^ (5 - 0) else 0)) ||| (if b then 2 ^ (5 - 1) else 0) ||| (if c then 2 ^ (5 - 2) else 0) ||| (if x then 2 ^ (5 - 3) else 0) ||| (if y then 2 ^ (5 - 4) else 0) ||| (if z then 1 else 0) : Nat).testBit 4 = b ∧
    ((0 ||| (if a then 2 ^ (5 - 0) else 0)) ||| (if b then 2 ^ (5 - 1) else 0) ||| (if c then 2 ^ (5 - 2) else 0) ||| (if x then 2 ^ (5 - 3) else 0) ||| (if y then 2 ^ (5 - 4) else 0) ||| (if z then 1 else 0) : Nat).testBit 3 = c ∧
    ((0 ||| (if a then 2 ^ (5 - 0) else 0)) ||| (if b then 2 ^ (5 - 1) else 0) ||| (if c then 2 ^ (5 - 2) else 0) ||| (if x then 2 ^ (5 - 3) else 0) ||| (if y then 2 ^ (5 - 4) else 0) ||| (if z then 1 else 0) : Nat).testBit 2 = x ∧
    ((0 ||| (if a then 2 ^ (5 - 0) else 0)) ||| (if b then 2 ^ (5 - 1) else 0) ||| (if c then 2 ^ (5 - 2) else 0) ||| (if x then 2 ^ (5 - 3) else 0) ||| (if y then 2 ^ (5 - 4) else 0) ||| (if z then 1 else 0) : Nat).testBit 1 = y ∧
    ((0 ||| (if a then 2 ^ (5 - 0) else 0)) ||| (if b then 2 ^ (5 - 1) else 0) ||| (if c then 2 ^ (5 - 2) else 0) ||| (if x then 2 ^ (5 - 3) else 0) ||| (if y then 2 ^ (5 - 4) else 0) ||| (if z then 1 else 0) : Nat).testBit 0 = z := by decide
  obtain ⟨k5, k4, k3, k2, k1, k0⟩ := key (d 0) (d 1) (d 2) (d 3) (d 4) t
  refine ⟨fun k hk => ?_, k0⟩
  match k, hk with
  | 0, _ => exact k5
  | 1, _ => exact k4
  | 2, _ => exact k3
  | 3, _ => exact k2
  | 4, _ => exact k1

/-- what was told of the parts that differ, laid into the old one, gives the new one -/
theorem lay_mask {e f : Ent} (hh : e.h = f.h) (z : Ent) : finE (finE e z (maskN e f)) f (maskN e f) = e := by
  obtain ⟨hb, h0⟩ := mask_bits e f
  have b5 := hb 0 (by decide)
  have b4 := hb 1 (by decide)
  have b3 := hb 2 (by decide)
  have b2 := hb 3 (by decide)
  have b1 := hb 4 (by decide)
  simp only [diffs, parT, diff1, List.getD_cons_zero, List.getD_cons_succ, List.any_cons, List.any_nil, Bool.or_false, Ent.at, Nat.sub_zero] at b5 b4 b3 b2 b1
  rw [finE_eq, finE_eq]
  simp only [b5, show (maskN e f).testBit 4 = _ from b4, show (maskN e f).testBit 3 = _ from b3, show (maskN e f).testBit 2 = _ from b2, show (maskN e f).testBit 1 = _ from b1, h0]
  obtain ⟨eh, ex, ey, er, evx, evy, eo, et⟩ := e
  obtain ⟨fh, fx, fy, fr, fvx, fvy, fo, ft⟩ := f
  simp only at hh ⊢
  subst hh
  simp only [Ent.mk.injEq, true_and]
  refine ⟨?_, ?_, ?_, ?_, ?_, ?_, ?_⟩
  all_goals (split <;> first | rfl | (rename_i h; simp at h; simp_all))
end Go.Proofs.YtfnepdppkmjboaaDoor

/- SnV: the view of a table: plain Lean. No condition. -/
namespace Go.Proofs.YtfnepdppkmjboaaDoor
open Go Go.Sx Go.Fp

theorem mask_pos {e f : Ent} (hh : e.h = f.h) (hne : e ≠ f) : 0 < maskN e f := by
  rcases Nat.eq_zero_or_pos (maskN e f) with h0 | h
  · exfalso
    have := lay_mask hh Ent.zero
    rw [h0, finE_eq] at this
    simp only [Nat.zero_testBit, Bool.false_eq_true, if_false] at this
    exact hne this.symm
  · exact h

def nzE (e : Ent) : Bool := e.h != 0
def viewT (T : List Ent) : List Ent := T.filter nzE

theorem filter_zero {T : List Ent} (h : ∀ e ∈ T, e.h = 0) : T.filter nzE = [] := by
  rw [List.filter_eq_nil_iff]
  intro e he
  simp [nzE, h e he]

theorem view_fold : ∀ (es : List Ent) (n : Nat) (T : List Ent), T.length = 64 → n ≤ 64 → (∀ e ∈ T.drop n, e.h = 0) → okV ((n : Int) - 1) es = true → (es.foldl tabF T).filter nzE = (T.take n).filter nzE ++ es
  | [], n, T, _, _, hz, _ => by
    have h1 : T = T.take n ++ T.drop n := (List.take_append_drop _ _).symm
    rw [List.foldl_nil, List.append_nil]
    conv => lhs; rw [h1]
    rw [List.filter_append, filter_zero hz, List.append_nil]
  | e :: es, n, T, hl, hn, hz, hok => by
    have hm := okV_mem hok e List.mem_cons_self
    simp only [okV, Bool.and_eq_true] at hok
    obtain ⟨hp1, hp2⟩ := place_of (e := e) (by omega)
    have hpn : n ≤ placeN e := by omega
    have hT' : (tabF T e).length = 64 := by rw [tabF_len, hl]
    have hd : ∀ x ∈ (tabF T e).drop (placeN e + 1), x.h = 0 := by
      intro x hx
      unfold tabF at hx
      rw [List.drop_set_of_lt (by omega)] at hx
      refine hz x ?_
      have : T.drop (placeN e + 1) = (T.drop n).drop (placeN e + 1 - n) := by rw [List.drop_drop]; congr 1; omega
      rw [this] at hx
      exact List.mem_of_mem_drop hx
    have hok' : okV (((placeN e + 1 : Nat) : Int) - 1) es = true := by
      rw [hp1] at hok
      have e1 : ((placeN e + 1 : Nat) : Int) - 1 = (placeN e : Int) := by omega
      rw [e1]
      exact hok.2
    rw [List.foldl_cons, view_fold es (placeN e + 1) (tabF T e) hT' (by omega) hd hok']
    have h1 : (tabF T e).take (placeN e + 1) = T.take (placeN e) ++ [e] := by
      unfold tabF
      rw [List.take_add_one, List.getElem?_set_self (by omega), List.take_set_of_le (Nat.le_refl _)]
      rfl
    have h2 : (T.take (placeN e)).filter nzE = (T.take n).filter nzE := by
      have h3 : T.take (placeN e) = T.take n ++ (T.drop n).take (placeN e - n) := by
        rw [← List.take_add]
        congr 1
        omega
      rw [h3, List.filter_append, filter_zero (fun x hx => hz x (List.mem_of_mem_take hx)), List.append_nil]
    have h4 : nzE e = true := by
      have : e.h ≠ 0 := by omega
      simp [nzE, this]
    rw [h1, List.filter_append, h2, List.append_assoc]
    simp [h4]

theorem view_tab {es : List Ent} (h : okV (-1) es = true) : viewT (tab es) = es := by
  have := view_fold es 0 (List.replicate 64 Ent.zero) (by simp) (by omega) (fun e he => by
    have := List.eq_of_mem_replicate (List.mem_of_mem_drop he)
    rw [this]; rfl) h
  unfold viewT tab
  rw [this]
  simp
end Go.Proofs.YtfnepdppkmjboaaDoor

/- SnW: what an applier makes of what was told: plain Lean. No condition. -/
namespace Go.Proofs.YtfnepdppkmjboaaDoor
open Go Go.Sx Go.Fp

/-- the table after the changes at the places ps -/
def laidT (T : List Ent) (T0 : List Ent) (ps : List Nat) : List Ent := ps.foldl (fun t p => t.set p (T.getD p Ent.zero)) T0
theorem laidT_len (T : List Ent) : ∀ (ps : List Nat) (T0 : List Ent), (laidT T T0 ps).length = T0.length
  | [], _ => rfl
  | p :: ps, T0 => by
    show (laidT T (T0.set p _) ps).length = _
    rw [laidT_len T ps, List.length_set]
theorem laidT_get (T : List Ent) : ∀ (ps : List Nat) (T0 : List Ent) (i : Nat), i < T0.length → (laidT T T0 ps).getD i Ent.zero = if i ∈ ps then T.getD i Ent.zero else T0.getD i Ent.zero
  | [], _, _, _ => by simp [laidT]
  | p :: ps, T0, i, hi => by
    have ih := laidT_get T ps (T0.set p (T.getD p Ent.zero)) i (by rw [List.length_set]; exact hi)
    have e : laidT T T0 (p :: ps) = laidT T (T0.set p (T.getD p Ent.zero)) ps := rfl
    rw [e, ih]
    by_cases h1 : i ∈ ps
    · rw [if_pos h1, if_pos (List.mem_cons_of_mem _ h1)]
    · rw [if_neg h1]
      by_cases h2 : i = p
      · subst h2
        rw [if_pos List.mem_cons_self, List.getD_eq_getElem?_getD, List.getElem?_set_self hi]
        rfl
      · rw [if_neg (by simp [h1, h2]), List.getD_eq_getElem?_getD, List.getElem?_set_ne (fun e => h2 e.symm), ← List.getD_eq_getElem?_getD]

/-- the view that is taken out of a table, place by place, without those who are gone -/
def outV (T1 : List Ent) (gone : Nat → Bool) (k : Nat) : List Ent := ((List.range k).filter fun p => (T1.getD p Ent.zero).h != 0 && !gone p).map fun p => T1.getD p Ent.zero

theorem outV_succ (T1 : List Ent) (gone : Nat → Bool) (k : Nat) : outV T1 gone (k + 1) = outV T1 gone k ++ if (T1.getD k Ent.zero).h != 0 && !gone k then [T1.getD k Ent.zero] else [] := by
  unfold outV
  rw [List.range_succ, List.filter_append, List.map_append]
  congr 1
  simp only [List.filter_cons, List.filter_nil]
  split <;> simp

theorem outV_eq {T0 T : List Ent} (h0 : T0.length = 64) (h1 : T.length = 64) : ∀ k, k ≤ 64 → outV (laidT T T0 (othL T0 T 64)) (fun p => decide (p ∈ goneL T0 T 64)) k = viewT (T.take k)
  | 0, _ => by simp [outV, viewT]
  | k + 1, hk => by
    have ih := outV_eq h0 h1 k (by omega)
    rw [outV_succ, ih]
    have hget := tget h1 (show k < 64 by omega)
    have ht : viewT (T.take (k + 1)) = viewT (T.take k) ++ if nzE (T.getD k Ent.zero) then [T.getD k Ent.zero] else [] := by
      unfold viewT
      rw [List.take_add_one, hget, List.filter_append]
      congr 1
      simp only [Option.toList_some, List.filter_cons, List.filter_nil]
    rw [ht]
    congr 1
    rw [laidT_get T _ T0 k (by omega)]
    have hg : decide (k ∈ goneL T0 T 64) = goneB T0 T k := by
      unfold goneL
      rw [Bool.eq_iff_iff]
      simp [List.mem_filter]
      omega
    have ho : (k ∈ othL T0 T 64) ↔ othB T0 T k = true := by
      unfold othL
      simp [List.mem_filter]
      omega
    by_cases hoth : k ∈ othL T0 T 64
    · have hb := ho.1 hoth
      have hgone : goneB T0 T k = false := by
        simp only [othB, Bool.and_eq_true, Bool.not_eq_true'] at hb
        exact hb.1
      rw [if_pos hoth, hg, hgone]
      simp [nzE]
    · rw [if_neg hoth, hg]
      have hb : ¬ othB T0 T k = true := fun h => hoth (ho.2 h)
      cases hgone : goneB T0 T k with
      | true =>
        have : (T.getD k Ent.zero).h = 0 := by
          simp only [goneB, Bool.and_eq_true, beq_iff_eq] at hgone
          exact hgone.1
        simp only [nzE, this]
        simp
      | false =>
        have : T.getD k Ent.zero = T0.getD k Ent.zero := by
          simp only [othB, hgone] at hb
          simpa using hb
        rw [← this]
        simp [nzE]

theorem outV_view {es0 es : List Ent} (h : okV (-1) es = true) : outV (laidT (tab es) (tab es0) (othL (tab es0) (tab es) 64)) (fun p => decide (p ∈ goneL (tab es0) (tab es) 64)) 64 = es := by
  rw [outV_eq (tab_len _) (tab_len _) 64 (Nat.le_refl _), List.take_of_length_le (by rw [tab_len]; exact Nat.le_refl _), view_tab h]
end Go.Proofs.YtfnepdppkmjboaaDoor

/- SnX: the loops of Applier.Apply. Conditions: those of each theorem, on its arguments. -/
namespace Go.Proofs.YtfnepdppkmjboaaDoor
open Go Go.Sx Go.Fp
attribute [local irreducible] jn lv ld st nw asI asB asP asS asY asM asF asA asT lp rn ru rq cl dw dr bnd bn2 nz nn hd hr so eqW
attribute [local irreducible] callOk

def gV (gone : Nat → Bool) : List Value := (List.range 64).map fun p => Value.bool (gone p)
theorem gV_get {gone : Nat → Bool} {p : Nat} (h : p < 64) : (gV gone)[p]? = some (.bool (gone p)) := by simp [gV, h]

/-- all who are told gone are there -/
theorem gone_k {w : World} {r3 r5 : Nat} {T : List Ent} {gone : Nat → Bool} {N : Value → World → Prop} (hb3 : w.heap[r3]? = some (.cells (gV gone).toArray 81 (0, 0))) (hb5 : w.heap[r5]? = some (.cells (T.flatMap Ent.cells).toArray 75 (0, 0))) (hl : T.length = 64)
    (hg : ∀ p, p < 64 → gone p = true → (T.getD p Ent.zero).h ≠ 0) {Q : World → Prop} (hQ : Q w) :
    (lp [(.int .i64 (0 : Int))] w fun J252 s250 w251 => asI .i64 (s250.getD 0 undef) fun x253 => 
(cond (decide (x253 < (64 : Int))) 
(lv x253 fun p_254 => 
(jn (fun s255 w256 => asB (s255.getD 0 undef) fun b262 => (cond b262 (lp [] w256 fun J265 s263 w264 => (lv (0 : Int) fun y266 => (lv (220 : Int) fun y267 => 
(N (.tuple #[(.int .i64 y266), (.int .i64 y267)]) w264)))) 
(J252 [(.int .i64 (IntKind.wrap .i64 (x253 + (1 : Int))))] w256)))
 (fun J257 => (bnd p_254 64 (ld w251 (Addr.add (⟨r3, 0, none⟩ : Addr) (Int.toNat p_254 * 1)) fun v258 => asB v258 fun b259 => (cond b259 (bnd p_254 64 (ld w251 (Addr.add (⟨r5, 0, none⟩ : Addr) (Int.toNat p_254 * 8)) fun v260 => asI .i64 v260 fun x261 => (J257 [(.bool (x261 == (0 : Int)))] w251))) (J257 [(.bool false)] w251))))))) (Q w251))) := by
  refine lp_mk (fun k : Nat => [.int .i64 (k : Int)]) (fun z k w' => z = 64 - k ∧ k ≤ 64 ∧ w' = w) 64 0 rfl ⟨rfl, Nat.zero_le _, rfl⟩ ?_
  rintro _ k w ⟨rfl, hk, rfl⟩ J hJ
  refine asI_i rfl (cond_split (fun hc => lv_i ?_) (fun hc => hQ))
  have hk64 : k < 64 := by
    have := of_decide_eq_true hc
    omega
  have ek : IntKind.wrap .i64 ((k : Int) + 1) = ((k + 1 : Nat) : Int) := by rw [wr64 (by omega) (by omega)]; omega
  refine jn_of (fun s w' => s = [.bool false] ∧ w' = w) ?_ ?_
  · rintro _ w1 ⟨rfl, hw⟩
    refine asB_i rfl (cond_f rfl ?_)
    rw [ek]
    exact hJ (64 - (k + 1)) (k + 1) _ (by omega) ⟨rfl, by omega, hw⟩
  intro J2 hJ2
  refine bnd_mk (by omega) (by omega) ?_
  rw [Int.toNat_natCast]
  have hc3 : w.cell? (Addr.add ⟨r3, 0, none⟩ (k * 1)) = some (.bool (gone k)) := by
    rw [add_mk, Nat.zero_add, Nat.mul_one, blk_cell hb3]
    simpa using gV_get (gone := gone) hk64
  refine ld_mk hc3 (asB_i rfl (cond_split (fun h => bnd_mk (by omega) (by omega) (ld_mk (bcell0 hb5 (tget hl hk64)) (asI_i rfl (hJ2 _ _ ⟨?_, rfl⟩)))) (fun h => hJ2 _ _ ⟨rfl, rfl⟩)))
  have h2 : ((T.getD k Ent.zero).h == 0) = false := by
    have := hg k hk64 h
    exact beq_eq_false_iff_ne.2 this
  rw [h2]

theorem extract_ent {T : List Ent} {i : Nat} {e : Ent} (hi : T[i]? = some e) : ((T.flatMap Ent.cells).toArray.extract (i * 8) (i * 8 + 8)) = e.cells.toArray := by
  apply Array.ext_getElem?
  intro j
  have hl := fl_lenN (f := Ent.cells) Ent.cells_length T
  have hil := (List.getElem?_eq_some_iff.1 hi).1
  by_cases hj : j < 8
  · have := fl_getN (f := Ent.cells) Ent.cells_length hi j hj
    rw [Array.getElem?_extract]
    simp only [List.size_toArray, hl]
    rw [if_pos (by omega)]
    simpa using this
  · rw [Array.getElem?_extract]
    simp only [List.size_toArray, hl]
    rw [if_neg (by omega)]
    have : e.cells.length ≤ j := by rw [Ent.cells_length]; omega
    simp [this]

/-- the view that is taken out of the table -/
theorem out_k {w : World} {r3 : Nat} {T : List Ent} {gone : Nat → Bool} (hb3 : w.heap[r3]? = some (.cells (gV gone).toArray 81 (0, 0))) (hl : T.length = 64) {Q : Option Addr → Nat → Nat → World → Prop}
    (hQ : ∀ p c w', Ext no w w' → RowN w' w.heap.size 59 8 p c (outV T gone 64).length ((outV T gone 64).flatMap Ent.cells) → Q p (outV T gone 64).length c w') :
    (lp [(.slice none 0 0), (.int .i64 (0 : Int))] w fun J406 s404 w405 => asS (s404.getD 0 undef) fun p407 n408 c409 => asI .i64 (s404.getD 1 undef) fun x410 => 
(cond (decide (x410 < (64 : Int))) 
(jn (fun s411 w412 => asS (s411.getD 0 undef) fun p465 n466 c467 => (J406 [(.slice p465 n466 c467), (.int .i64 (IntKind.wrap .i64 (x410 + (1 : Int))))] w412))
 (fun J413 => (bnd x410 64 (asA 8 (.agg (Array.extract ((List.toArray (T.flatMap Ent.cells)) : Array Value) (Int.toNat x410 * 8) (Int.toNat x410 * 8 + 8))) fun a414 => asI .i64 (a414 0) fun x415 => asI .i64 (a414 1) fun x416 => asI .i64 (a414 2) fun x417 => asI .i64 (a414 3) fun x418 => asI .i64 (a414 4) fun x419 => asI .i64 (a414 5) fun x420 => asI .i64 (a414 6) fun x421 => asI .i64 (a414 7) fun x422 => (nw w405 (.cells #[(.int .i64 (0 : Int)), (.int .i64 (0 : Int)), (.int .i64 (0 : Int)), (.int .i64 (0 : Int)), (.int .i64 (0 : Int)), (.int .i64 (0 : Int)), (.int .i64 (0 : Int)), (.int .i64 (0 : Int))] 59) fun r423 w424 => (lv x410 fun p_425 => (st w424 (⟨r423, 0, none⟩ : Addr) (.int .i64 x415) fun w426 => (st w426 (Addr.add (⟨r423, 0, none⟩ : Addr) 1) (.int .i64 x416) fun w427 => (st w427 (Addr.add (⟨r423, 0, none⟩ : Addr) 2) (.int .i64 x417) fun w428 => (st w428 (Addr.add (⟨r423, 0, none⟩ : Addr) 3) (.int .i64 x418) fun w429 => (st w429 (Addr.add (⟨r423, 0, none⟩ : Addr) 4) (.int .i64 x419) fun w430 => (st w430 (Addr.add (⟨r423, 0, none⟩ : Addr) 5) (.int .i64 x420) fun w431 => (st w431 (Addr.add (⟨r423, 0, none⟩ : Addr) 6) (.int .i64 x421) fun w432 => (st w432 (Addr.add (⟨r423, 0, none⟩ : Addr) 7) (.int .i64 x422) fun w433 => 
(jn (fun s434 w435 => asB (s434.getD 0 undef) fun b441 => (cond b441 (ld w435 (⟨r423, 0, none⟩ : Addr) fun v442 => asI .i64 v442 fun x443 => (ld w435 (Addr.add (⟨r423, 0, none⟩ : Addr) 1) fun v444 => asI .i64 v444 fun x445 => (ld w435 (Addr.add (⟨r423, 0, none⟩ : Addr) 2) fun v446 => asI .i64 v446 fun x447 => (ld w435 (Addr.add (⟨r423, 0, none⟩ : Addr) 3) fun v448 => asI .i64 v448 fun x449 => (ld w435 (Addr.add (⟨r423, 0, none⟩ : Addr) 4) fun v450 => asI .i64 v450 fun x451 => (ld w435 (Addr.add (⟨r423, 0, none⟩ : Addr) 5) fun v452 => asI .i64 v452 fun x453 => (ld w435 (Addr.add (⟨r423, 0, none⟩ : Addr) 6) fun v454 => asI .i64 v454 fun x455 => (ld w435 (Addr.add (⟨r423, 0, none⟩ : Addr) 7) fun v456 => asI .i64 v456 fun x457 => (nw w435 (.cells #[(.int .i64 x443), (.int .i64 x445), (.int .i64 x447), (.int .i64 x449), (.int .i64 x451), (.int .i64 x453), (.int .i64 x455), (.int .i64 x457)] 59) fun r458 w459 => (rn Tryd.prog (Builtin.append_ #[30, 30] 30 #[(.slice p407 n408 c409), (.slice (some (⟨r458, 0, none⟩ : Addr)) 1 1)]) w459 fun v460 w461 => asS v460 fun p462 n463 c464 => (J413 [(.slice p462 n463 c464)] w461))))))))))) (J413 [(.slice p407 n408 c409)] w435)))
 (fun J436 => (ld w433 (⟨r423, 0, none⟩ : Addr) fun v437 => asI .i64 v437 fun x438 => (cond (x438 != (0 : Int)) (bnd p_425 64 (ld w433 (Addr.add (⟨r3, 0, none⟩ : Addr) (Int.toNat p_425 * 1)) fun v439 => asB v439 fun b440 => (J436 [(.bool (!b440))] w433))) (J436 [(.bool false)] w433))))))))))))))))))) (Q p407 n408 c409 w405))) := by
  refine lp_mk (fun t : (Option Addr × Nat) × Nat => [.slice t.1.1 (outV T gone t.2).length t.1.2, .int .i64 (t.2 : Int)]) (fun z t w' => z = 64 - t.2 ∧ t.2 ≤ 64 ∧ Ext no w w' ∧ RowN w' w.heap.size 59 8 t.1.1 t.1.2 (outV T gone t.2).length ((outV T gone t.2).flatMap Ent.cells)) 64 ((none, 0), 0) rfl
    ⟨rfl, Nat.zero_le _, Ext.refl _ _, RowN.nil _ _ _ _⟩ ?_
  rintro _ ⟨⟨p, c⟩, k⟩ w1 ⟨rfl, hk, hx1, hr1⟩ J hJ
  simp only at hk hr1 hJ ⊢
  refine asS_i rfl (asI_i rfl (cond_split (fun hc => ?_) (fun hc => ?_)))
  · have hk64 : k < 64 := by
      have := of_decide_eq_true hc
      omega
    have ek : IntKind.wrap .i64 ((k : Int) + 1) = ((k + 1 : Nat) : Int) := by rw [wr64 (by omega) (by omega)]; omega
    have hs := tget hl hk64
    have hlen : (outV T gone k).length ≤ k := by
      unfold outV
      rw [List.length_map]
      have := List.length_filter_le (fun p => (T.getD p Ent.zero).h != 0 && !gone p) (List.range k)
      rwa [List.length_range] at this
    refine jn_of (fun t w' => ∃ p' c', t = [.slice p' (outV T gone (k + 1)).length c'] ∧ Ext no w w' ∧ RowN w' w.heap.size 59 8 p' c' (outV T gone (k + 1)).length ((outV T gone (k + 1)).flatMap Ent.cells)) ?_ ?_
    · rintro _ w2 ⟨p', c', rfl, hx2, hr2⟩
      refine asS_i rfl ?_
      rw [ek]
      exact hJ (64 - (k + 1)) ((p', c'), k + 1) w2 (by omega) ⟨rfl, by simp only; omega, hx2, hr2⟩
    intro J2 hJ2
    rw [outV_succ] at hJ2
    generalize hE : T.getD k Ent.zero = e at hs hJ2
    refine bnd_mk (by omega) (by omega) ?_
    rw [Int.toNat_natCast, extract_ent hs]
    refine asA_i (l := e.cells) rfl rfl (asI_i rfl (asI_i rfl (asI_i rfl (asI_i rfl (asI_i rfl (asI_i rfl (asI_i rfl (asI_i rfl ?_))))))))
    have hS := St.start w1
    (refine hS.nw ?_; clear hS; intro r2 _ hS)
    refine lv_i (St.put8 hS rfl e fun w2 hS => ?_)
    have hb3' := hS.ext.blk (hx1.blk hb3 (fun h => h)) (fun h => h)
    refine jn_of (fun s w' => s = [.bool (e.h != 0 && !gone k)] ∧ w' = w2) ?_ ?_
    rotate_left
    · intro J3 hJ3
      refine hS.ld0 0 rfl rfl (asI_i rfl (cond_split (fun h => bnd_mk (by omega) (by omega) (ld_mk (v := .bool (gone k)) ?_ (asB_i rfl (hJ3 _ _ ⟨?_, rfl⟩)))) (fun h => hJ3 _ _ ⟨?_, rfl⟩)))
      · rw [Int.toNat_natCast, add_mk, Nat.zero_add, Nat.mul_one, blk_cell hb3']
        simpa using gV_get (gone := gone) hk64
      · rw [h, Bool.true_and]
      · rw [h, Bool.false_and]
    rintro _ w2 ⟨rfl, rfl⟩
    refine asB_i rfl (cond_split (fun hb => ?_) (fun hb => hJ2 _ _ ⟨p, c, ?_, hx1.trans hS.ext, ?_⟩))
    · refine St.ld8 hS 0 rfl ?_
      have hxx := hx1.trans hS.ext
      refine sE.app1 (vs := e.cells) (hr1.ext hS.ext fun _ _ h => h) hxx.size rfl e.one (le_maxLen (by omega)) (by omega) ?_
      intro p' c' w12 hr12 hE12 hM12
      have hx12 : Ext no w w12 := hxx.then hE12 fun k hk ⟨a, ha, hab⟩ => by
        have := (hr1.at ha).1
        omega
      refine asS_i rfl (hJ2 _ _ ⟨p', c', by rw [if_pos hb, List.length_append]; rfl, hx12, ?_⟩)
      rw [if_pos hb, List.length_append, List.flatMap_append]
      simpa using hr12
    · rw [if_neg (by simp [hb]), List.append_nil]
    · rw [if_neg (by simp [hb]), List.append_nil]
      exact hr1.ext hS.ext fun _ _ h => h
  · have hk64 : k = 64 := by
      have := of_decide_eq_false hc
      omega
    subst hk64
    exact hQ p c w1 hx1 hr1
end Go.Proofs.YtfnepdppkmjboaaDoor

/- SnE2: two things in memory side by side, in the frame of SnE; rows as things. Conditions: those of each theorem, on its arguments. -/
namespace Go.Sx
open Go Go.RowKit

/-- two things in blocks of their own -/
def Pj (J1 J2 : (Nat → Prop) → World → Prop) (B : Nat → Prop) (w : World) : Prop :=
  ∃ B1 B2 : Nat → Prop, (∀ k, B k ↔ B1 k ∨ B2 k) ∧ (∀ k, B1 k → ¬ B2 k) ∧ J1 B1 w ∧ J2 B2 w
theorem Pj.kp {J1 J2 : (Nat → Prop) → World → Prop} (h1 : Kp J1) (h2 : Kp J2) : Kp (Pj J1 J2) := by
  rintro B w w' hx ⟨B1, B2, hB, hd, j1, j2⟩
  exact ⟨B1, B2, hB, hd, h1 B1 w w' (hx.mono fun k _ hk h => hk ((hB k).2 (.inl h))) j1, h2 B2 w w' (hx.mono fun k _ hk h => hk ((hB k).2 (.inr h))) j2⟩

section
variable {w00 : World} {M : Nat → Prop} {wa w : World} {L : List (Nat × List Value × TypeId)} {J J1 J2 J3 : (Nat → Prop) → World → Prop}

theorem Bn.map (h : Bn w00 M wa w L J) {J' : (Nat → Prop) → World → Prop} (hk : Kp J') (hm : ∀ B, J B w → J' B w) : Bn w00 M wa w L J' := by
  obtain ⟨B, hj, hb, ha, hm', ho⟩ := h.ex
  exact ⟨h.old, h.lo, h.ext, h.kn, h.nd, hk, B, hm B hj, hb, ha, hm', ho⟩

theorem Bn.swap (h : Bn w00 M wa w L (Pj J1 J2)) (k1 : Kp J1) (k2 : Kp J2) : Bn w00 M wa w L (Pj J2 J1) :=
  h.map (Pj.kp k2 k1) fun B ⟨B1, B2, hB, hd, j1, j2⟩ => ⟨B2, B1, fun k => (hB k).trans or_comm, fun k h2 h1 => hd k h1 h2, j2, j1⟩
theorem Bn.assoc (h : Bn w00 M wa w L (Pj (Pj J1 J2) J3)) (k1 : Kp J1) (k2 : Kp J2) (k3 : Kp J3) : Bn w00 M wa w L (Pj J1 (Pj J2 J3)) :=
  h.map (Pj.kp k1 (Pj.kp k2 k3)) fun B ⟨B12, B3, hB, hd, ⟨B1, B2, hB', hd', j1, j2⟩, j3⟩ =>
    ⟨B1, fun k => B2 k ∨ B3 k, fun k => by rw [hB, hB', or_assoc], fun k h1 h2 => h2.elim (hd' k h1) (hd k ((hB' k).2 (.inl h1))), j1, B2, B3, fun _ => Iff.rfl, fun k h2 => hd k ((hB' k).2 (.inr h2)), j2, j3⟩
theorem Bn.assoc' (h : Bn w00 M wa w L (Pj J1 (Pj J2 J3))) (k1 : Kp J1) (k2 : Kp J2) (k3 : Kp J3) : Bn w00 M wa w L (Pj (Pj J1 J2) J3) :=
  h.map (Pj.kp (Pj.kp k1 k2) k3) fun B ⟨B1, B23, hB, hd, j1, B2, B3, hB', hd', j2, j3⟩ =>
    ⟨fun k => B1 k ∨ B2 k, B3, fun k => by rw [hB, hB', or_assoc], fun k h12 h3 => h12.elim (fun h1 => hd k h1 ((hB' k).2 (.inr h3))) fun h2 => hd' k h2 h3, ⟨B1, B2, fun _ => Iff.rfl, fun k h1 h2 => hd k h1 ((hB' k).2 (.inl h2)), j1, j2⟩, j3⟩

/-- the one on the right is handled by a contract of its own -/
theorem Bn.actR (h : Bn w00 M wa w L (Pj J1 J2)) (k1 : Kp J1) : ∃ B2, J2 B2 w ∧ (∀ k, B2 k → k < w.heap.size) ∧ (∀ b ∈ L, ¬ B2 b.1) ∧ (∀ k, B2 k → w00.heap.size ≤ k) ∧
    ∀ {w' : World} {J' : (Nat → Prop) → World → Prop} {B' : Nat → Prop}, Kp J' → J' B' w' → Ext B2 w w' → (∀ k, B' k → k < w'.heap.size) → (∀ k, k < w.heap.size → B' k → B2 k) → Bn w00 M wa w' L (Pj J1 J') := by
  obtain ⟨B, ⟨B1, B2, hB, hd, j1, j2⟩, hb, ha, hm, ho⟩ := h.ex
  refine ⟨B2, j2, fun k hk => hb k ((hB k).2 (.inr hk)), fun b hb' hk => ha b hb' ((hB _).2 (.inr hk)), fun k hk => ho k ((hB k).2 (.inr hk)), fun {w' J' B'} k' j' hx hlt hs => ?_⟩
  refine h.act hb ha hm ho (B' := fun k => B1 k ∨ B' k) (Pj.kp k1 k') ⟨B1, B', fun _ => Iff.rfl, fun k h1 h' => hd k h1 (hs k (hb k ((hB k).2 (.inl h1))) h'), k1 B1 w w' (hx.mono fun k _ h2 h1 => hd k h1 h2) j1, j'⟩ (hx.mono fun k _ h2 => (hB k).2 (.inr h2))
    (fun k hk => ?_) fun k hk hk' => ?_
  · exact hk.elim (fun h1 => Nat.lt_of_lt_of_le (hb k ((hB k).2 (.inl h1))) hx.size) (hlt k)
  · exact hk'.elim (fun h1 => (hB k).2 (.inl h1)) fun h' => (hB k).2 (.inr (hs k hk h'))

/-- a call that knows of the right one alone -/
theorem Bn.liftR (h : Bn w00 M wa w L (Pj J1 J2)) (k1 : Kp J1) (k2 : Kp J2) : ∃ B, Bn w00 B w w [] J2 ∧ (∀ b ∈ L, ¬ B b.1) ∧
    ∀ {w' : World} {L' : List (Nat × List Value × TypeId)} {J' : (Nat → Prop) → World → Prop}, Bn w00 B w w' L' J' → Bn w00 M wa w' (L' ++ L) (Pj J1 J') := by
  obtain ⟨B, ⟨B1, B2, hB, hd, j1, j2⟩, hb, ha, hm, ho⟩ := h.ex
  refine ⟨B2, Bn.start h.all j2 k2 (fun k hk => hb k ((hB k).2 (.inr hk))) (fun k hk => ho k ((hB k).2 (.inr hk))), fun b hb' hk => ha b hb' ((hB _).2 (.inr hk)), fun {w' L' J'} h' => ?_⟩
  have hx := h'.ext
  have hsz := h.ext.size
  obtain ⟨B', j', hb', ha', hm', ho'⟩ := h'.ex
  have hd1 : ∀ k, B1 k → k < w.heap.size := fun k h1 => hb k ((hB k).2 (.inl h1))
  refine ⟨h.old, h.lo, h.ext.then hx fun k hk h2 => hm k hk ((hB k).2 (.inr h2)), fun b hb1 => ?_, ?_, Pj.kp k1 h'.kp, fun k => B1 k ∨ B' k, ⟨B1, B', fun _ => Iff.rfl, fun k h1 h2 => hd k h1 (hm' k (hd1 k h1) h2), k1 B1 w w' (hx.mono fun k _ h2 h1 => hd k h1 h2) j1, j'⟩, fun k hk => ?_, fun b hb1 hk => ?_, fun k hk hk' => ?_, fun k hk => ?_⟩
  · rcases List.mem_append.1 hb1 with hb1 | hb1
    · exact ⟨(h'.kn b hb1).1, Nat.le_trans hsz (h'.kn b hb1).2⟩
    · exact ⟨hx.blk (h.kn b hb1).1 fun h2 => ha b hb1 ((hB _).2 (.inr h2)), (h.kn b hb1).2⟩
  · refine List.pairwise_append.2 ⟨h'.nd, h.nd, fun a ha1 b hb1 => ?_⟩
    have h1 := (h'.kn a ha1).2
    have h2 := blk_lt (h.kn b hb1).1
    omega
  · exact hk.elim (fun h1 => Nat.lt_of_lt_of_le (hd1 k h1) hx.size) (hb' k)
  · rcases List.mem_append.1 hb1 with hb1 | hb1
    · rcases hk with h1 | h2
      · have := hd1 _ h1
        have := (h'.kn b hb1).2
        omega
      · exact ha' b hb1 h2
    · rcases hk with h1 | h2
      · exact ha b hb1 ((hB _).2 (.inl h1))
      · exact ha b hb1 ((hB _).2 (.inr (hm' _ (blk_lt (h.kn b hb1).1) h2)))
  · rcases hk' with h1 | h2
    · exact hm k hk ((hB k).2 (.inl h1))
    · exact hm k hk ((hB k).2 (.inr (hm' k (Nat.lt_of_lt_of_le hk hsz) h2)))
  · exact hk.elim (fun h1 => ho k ((hB k).2 (.inl h1))) (ho' k)
theorem Bn.liftL (h : Bn w00 M wa w L (Pj J1 J2)) (k1 : Kp J1) (k2 : Kp J2) : ∃ B, Bn w00 B w w [] J1 ∧ (∀ b ∈ L, ¬ B b.1) ∧
    ∀ {w' : World} {L' : List (Nat × List Value × TypeId)} {J' : (Nat → Prop) → World → Prop}, Bn w00 B w w' L' J' → Bn w00 M wa w' (L' ++ L) (Pj J' J2) := by
  obtain ⟨B, h1, h2, h3⟩ := (h.swap k1 k2).liftR k2 k1
  exact ⟨B, h1, h2, fun h' => (h3 h').swap k2 h'.kp⟩

/-- a new thing comes into being -/
theorem Bn.born (h : Bn w00 M wa w L J) {w' : World} {J' : (Nat → Prop) → World → Prop} {B' : Nat → Prop} (hx : Ext no w w') (hk : Kp J') (hj : J' B' w') (hlt : ∀ k, B' k → w.heap.size ≤ k ∧ k < w'.heap.size) : Bn w00 M wa w' L (Pj J J') := by
  have h' := h.to hx
  obtain ⟨B, j, hb, ha, hm, ho⟩ := h.ex
  have h1 := h.ext.size
  have h0 := h.all.size
  refine ⟨h'.old, h'.lo, h'.ext, h'.kn, h'.nd, Pj.kp h.kp hk, fun k => B k ∨ B' k, ⟨B, B', fun _ => Iff.rfl, fun k hB hB' => ?_, h.kp B w w' (Ext.of_no hx) j, hj⟩, fun k hk => ?_, fun b hb' hk => ?_, fun k hk hk' => ?_, fun k hk => ?_⟩
  · have := hb k hB
    have := (hlt k hB').1
    omega
  · rcases hk with hk | hk
    · exact Nat.lt_of_lt_of_le (hb k hk) hx.size
    · exact (hlt k hk).2
  · rcases hk with hk | hk
    · exact ha b hb' hk
    · have := (hlt _ hk).1
      have := blk_lt (h.kn b hb').1
      omega
  · rcases hk' with hk' | hk'
    · exact hm k hk hk'
    · have := (hlt k hk').1
      omega
  · rcases hk with hk | hk
    · exact ho k hk
    · have := (hlt k hk).1
      omega

/-- what is right is let go -/
theorem Bn.fstJ (h : Bn w00 M wa w L (Pj J1 J2)) (k1 : Kp J1) : Bn w00 M wa w L J1 := by
  obtain ⟨B, ⟨B1, B2, hB, hd, j1, j2⟩, hb, ha, hm, ho⟩ := h.ex
  exact ⟨h.old, h.lo, h.ext, h.kn, h.nd, k1, B1, j1, fun k hk => hb k ((hB k).2 (.inl hk)), fun b hb' hk => ha b hb' ((hB _).2 (.inl hk)), fun k hk hk' => hm k hk ((hB k).2 (.inl hk')), fun k hk => ho k ((hB k).2 (.inl hk))⟩
theorem Bn.sndJ (h : Bn w00 M wa w L (Pj J1 J2)) (k1 : Kp J1) (k2 : Kp J2) : Bn w00 M wa w L J2 := (h.swap k1 k2).fstJ k2

/-- a row as a thing -/
def RwJ (e : TypeId) (s : Nat) (p : Option Addr) (c n : Nat) (xs : List Value) (B : Nat → Prop) (w : World) : Prop := (∀ k, B k ↔ blocks p k) ∧ RowN w 0 e s p c n xs
theorem RwJ.kp {e : TypeId} {s : Nat} {p : Option Addr} {c n : Nat} {xs : List Value} : Kp (RwJ e s p c n xs) := by
  rintro B w w' hx ⟨hB, h⟩
  exact ⟨hB, h.ext hx fun a ha hk => hk ((hB _).2 ⟨a, ha, rfl⟩)⟩

theorem Bn.row0 (h : Bn w00 M wa w L J) {e : TypeId} {s : Nat} : Bn w00 M wa w L (Pj J (RwJ e s none 0 0 [])) :=
  h.born (B' := blocks none) (Ext.refl _ _) RwJ.kp ⟨fun _ => Iff.rfl, RowN.nil _ _ _ _⟩ fun k ⟨a, ha, _⟩ => by cases ha
theorem Bn.bornRow (h : Bn w00 M wa w L J) {e : TypeId} {s : Nat} {w' : World} (hx : Ext no w w') {p : Option Addr} {c n : Nat} {xs : List Value} (hr : RowN w' w.heap.size e s p c n xs) : Bn w00 M wa w' L (Pj J (RwJ e s p c n xs)) :=
  h.born (B' := blocks p) hx RwJ.kp ⟨fun _ => Iff.rfl, hr.mono (Nat.zero_le _)⟩ fun k ⟨a, ha, e⟩ => e ▸ ⟨(hr.at ha).1, (hr.at ha).2⟩
theorem Bn.rrow {e : TypeId} {s : Nat} {p : Option Addr} {c n : Nat} {xs : List Value} (h : Bn w00 M wa w L (Pj J (RwJ e s p c n xs))) : RowN w 0 e s p c n xs := by
  obtain ⟨B, ⟨B1, B2, hB, hd, j1, hB2, j2⟩, hb, ha, hm, ho⟩ := h.ex
  exact j2
theorem Bn.app1 {P : Program} {t ty e : TypeId} {s b : Nat} (ht : SlN P t e s b) {p : Option Addr} {n c : Nat} {xs : List Value} (h : Bn w00 M wa w L (Pj J (RwJ e s p c n xs))) (kJ : Kp J) {vs : List Value} {t' : TypeId} (hv : vs.length = s) (h1 : ∀ u ∈ vs, one u = true)
    (h63 : n + 1 ≤ maxLen) (hbytes : (n + 1) * b ≤ 140737488355328) {K : Value → World → Prop} (hK : ∀ p' c' w', Bn w00 M wa w' L (Pj J (RwJ e s p' c' (n + 1) (xs ++ vs))) → K (.slice p' (n + 1) c') w') :
    Sx.nw w (.cells vs.toArray t') fun r w1 => rn P (Builtin.append_ #[t, t] ty #[.slice p n c, .slice (some ⟨r, 0, none⟩) 1 1]) w1 K := by
  obtain ⟨B2, ⟨hB2, j2⟩, hlt, _, _, hact⟩ := h.actR kJ
  refine ht.app1 j2 (Nat.zero_le _) hv h1 h63 hbytes fun p' c' w' hr hE hmv => hK p' c' w' ?_
  refine hact (B' := blocks p') RwJ.kp ⟨fun _ => Iff.rfl, hr⟩ (hE.mono fun k _ hk => (hB2 k).2 hk) (fun k ⟨a, ha, e⟩ => e ▸ (hr.at ha).2) ?_
  rintro k hk ⟨a, ha, rfl⟩
  rcases hmv with rfl | hmv
  · exact (hB2 _).2 ⟨a, ha, rfl⟩
  · have := hmv a ha
    omega

/-- a block that the frame knows becomes part of the thing -/
theorem Bn.intoJ {q : Nat} {cs : List Value} {t : TypeId} (h : Bn w00 M wa w ((q, cs, t) :: L) J) {J' : (Nat → Prop) → World → Prop} (hk : Kp J') (hj : ∀ B, J B w → ¬ B q → J' (fun k => k = q ∨ B k) w) : Bn w00 M wa w L J' := by
  obtain ⟨B, j, hb, ha, hm, ho⟩ := h.ex
  have hq := h.kn _ List.mem_cons_self
  have h0 := h.old.size
  have hBq : ¬ B q := ha _ List.mem_cons_self
  have ht := h.tail
  have hq2 : wa.heap.size ≤ q := hq.2
  refine ⟨ht.old, ht.lo, ht.ext, ht.kn, ht.nd, hk, fun k => k = q ∨ B k, hj B j hBq, fun k hk => ?_, fun b hb' hk => ?_, fun k hk hk' => ?_, fun k hk => ?_⟩
  · rcases hk with rfl | hk
    · exact blk_lt hq.1
    · exact hb k hk
  · rcases hk with e | hk
    · exact (List.pairwise_cons.1 h.nd).1 b hb' e.symm
    · exact ha b (List.mem_cons_of_mem _ hb') hk
  · rcases hk' with rfl | hk'
    · omega
    · exact hm k hk hk'
  · rcases hk with rfl | hk
    · omega
    · exact ho k hk
end
end Go.Sx

/- SnY: the loops of Applier.Apply that read and lay: the places gone, the changes read, the changes laid. Conditions: those of each theorem, on its arguments. -/
namespace Go.Proofs.YtfnepdppkmjboaaDoor
open Go Go.Sx Go.Fp
attribute [local irreducible] jn lv ld st nw asI asB asP asS asY asM asF asA asT lp rn ru rq cl dw dr bnd bn2 nz nn hd hr so eqW
attribute [local irreducible] callOk

theorem _root_.Go.Sx.Bn.behind {w00 : World} {M : Nat → Prop} {wa w : World} {L L' : List (Nat × List Value × TypeId)} {J : (Nat → Prop) → World → Prop} (h : Bn w00 M wa w (L' ++ L) J) : Bn w00 M wa w L J := by
  have := h.drop L'.length
  rwa [List.drop_left] at this

/-- a change that is told: its place, is it new, its generation, its mask, and whom it tells of -/
structure Chg where
  p : Nat
  new : Bool
  g : Nat
  m : Nat
  e : Ent
def Chg.E (c : Chg) : Ent := finE c.e { Ent.zero with h := hE c.p c.new c.g } c.m
def Chg.bits (c : Chg) : List Bool := preB c.p c.new c.g c.m ++ wB c.e c.m
def Chg.cells (c : Chg) : List Value := chC c.E c.m c.new
structure Chg.ok (c : Chg) : Prop where
  p : c.p < 64
  m : c.m < 64
  m0 : 0 < c.m
  g1 : 1 ≤ c.g
  g2 : c.g ≤ 1099511627776
  nw : c.new = true → c.m = 63
  e : c.e.rightE = 0
  t : I64 c.e.t
theorem Chg.cells_length (c : Chg) : c.cells.length = 10 := rfl
theorem Chg.one (c : Chg) : ∀ u ∈ c.cells, Sx.one u = true := by
  intro u hu
  rcases List.mem_append.1 hu with hu | hu
  · exact c.E.one u hu
  · simp only [List.mem_cons, List.not_mem_nil, or_false] at hu
    rcases hu with rfl | rfl <;> rfl
theorem Chg.h_eq (c : Chg) : c.E.h = hE c.p c.new c.g := by unfold Chg.E; rw [finE_eq]
theorem Chg.place {c : Chg} (h : c.ok) : Int.tmod c.E.h 64 = (c.p : Int) := by
  have h1 := h.p
  rw [c.h_eq]
  unfold hE
  split
  · have : Int.tmod ((c.g * 64 + c.p : Nat) : Int) 64 = ((c.g * 64 + c.p : Nat) : Int) % 64 := Int.tmod_eq_emod_of_nonneg (by omega)
    rw [this]
    omega
  · have : Int.tmod ((c.p : Nat) : Int) 64 = ((c.p : Nat) : Int) % 64 := Int.tmod_eq_emod_of_nonneg (by omega)
    rw [this]
    omega

set_option maxRecDepth 100000 in
theorem sCh : SlN Tryd.prog 82 90 10 80 := ⟨rfl, ⟨_, _, rfl, rfl, rfl, rfl, rfl⟩, by decide⟩

theorem gV_set {gone : Nat → Bool} {p : Nat} (h : p < 64) : (gV gone).set p (.bool true) = gV (fun k => gone k || k == p) := by
  apply List.ext_getElem?
  intro k
  by_cases hk : k < 64
  · by_cases hkp : k = p
    · subst hkp
      rw [List.getElem?_set_self (by simp [gV]; exact h), gV_get h]
      simp
    · rw [List.getElem?_set_ne (fun e => hkp e.symm), gV_get hk, gV_get hk]
      simp [hkp]
  · rw [List.getElem?_eq_none (by simp [gV]; omega), List.getElem?_eq_none (by simp [gV]; omega)]
theorem gV_len (gone : Nat → Bool) : (gV gone).length = 64 := by simp [gV]

section
variable {w00 : World} {M : Nat → Prop} {wa w : World} {L : List (Nat × List Value × TypeId)}

/-- the places that are told gone -/
theorem gones_k {r3 r5 r10 : Nat} {cs5 : List Value} {g : List Nat} {rest : List Bool} {N : Value → World → Prop} (hS : Bn w00 M wa w [(r5, cs5, 75), (r3, gV (fun _ => false), 81)] (DJ r10 (g.flatMap (fun p => numBits p 6) ++ rest)))
    (hg : g.Pairwise (· < ·)) (h64 : ∀ p ∈ g, p < 64) (hlen : g.length ≤ 64) {Q : World → Prop} (hQ : ∀ w', Bn w00 M wa w' [(r5, cs5, 75), (r3, gV (fun p => decide (p ∈ g)), 81)] (DJ r10 rest) → Q w') :
    (lp [(.int .i64 ((g.length : Nat) : Int)), (.int .i64 (-1 : Int))] w fun J40 s38 w39 => asI .i64 (s38.getD 0 undef) fun x41 => asI .i64 (s38.getD 1 undef) fun x42 => 
(cond (decide (x41 > (0 : Int))) 
(cl Tryd.prog 35 #[(.pointer (some (⟨r10, 0, none⟩ : Addr))), (.int .i64 (6 : Int))] w39 fun v43 w44 => asI .i64 v43 fun x45 => (lv x45 fun p_46 => 
(jn (fun s47 w48 => asB (s47.getD 0 undef) fun b52 => (cond b52 (lp [] w48 fun J55 s53 w54 => (lv (0 : Int) fun y56 => (lv (220 : Int) fun y57 => 
(N (.tuple #[(.int .i64 y56), (.int .i64 y57)]) w54)))) 
(lv p_46 fun last_58 => (bnd p_46 64 (st w48 (Addr.add (⟨r3, 0, none⟩ : Addr) (Int.toNat p_46 * 1)) (.bool true) fun w59 => 
(lv (IntKind.wrap .i64 (x41 - (1 : Int))) fun n_60 => (J40 [(.int .i64 n_60), (.int .i64 last_58)] w59)))))))
 (fun J49 => (ld w44 (Addr.add (⟨r10, 0, none⟩ : Addr) 1) fun v50 => asB v50 fun b51 => (cond b51 (J49 [(.bool true)] w44) (J49 [(.bool (decide (p_46 ≤ x42)))] w44))))))) (Q w39))) := by
  refine lp_mk (fun t : Int × Nat => [.int .i64 ((g.length - t.2 : Nat) : Int), .int .i64 t.1]) (fun z t w' => z = g.length - t.2 ∧ t.2 ≤ g.length ∧ (∀ p ∈ g.drop t.2, t.1 < (p : Int)) ∧ Bn w00 M wa w' [(r5, cs5, 75), (r3, gV (fun p => decide (p ∈ g.take t.2)), 81)] (DJ r10 ((g.drop t.2).flatMap (fun p => numBits p 6) ++ rest))) g.length ((-1 : Int), 0) rfl
    ⟨rfl, Nat.zero_le _, fun p _ => by simp only; omega, by simpa using hS⟩ ?_
  clear hS
  rintro _ ⟨last, i⟩ w1 ⟨rfl, hi, hlast, hS⟩ J hJ
  simp only at hi hlast hS hJ ⊢
  refine asI_i rfl (asI_i rfl (cond_split (fun hc => ?_) (fun hc => ?_)))
  · have hil : i < g.length := by
      have := of_decide_eq_true hc
      omega
    have hdrop : g.drop i = g[i] :: g.drop (i + 1) := List.drop_eq_getElem_cons hil
    have hget : g[i]? = some g[i] := List.getElem?_eq_getElem hil
    have hp64 := h64 _ (List.getElem_mem hil)
    have hpw : (g.drop i).Pairwise (· < ·) := hg.sublist (List.drop_sublist _ _)
    rw [hdrop] at hS hlast hpw
    generalize g[i] = p at hS hlast hget hp64 hpw
    rw [List.flatMap_cons, List.append_assoc] at hS
    have hlp := hlast p List.mem_cons_self
    refine hS.take (n := 6) (by omega) (by decide) fun w2 hS => asI_i rfl (lv_i ?_)
    refine jn_of (fun s w' => s = [.bool false] ∧ w' = w2) ?_ ?_
    rotate_left
    · intro J2 hJ2
      refine ld_mk (by rw [add_mk]; exact hS.wrong) (asB_i rfl (cond_f rfl (hJ2 _ _ ⟨?_, rfl⟩)))
      have : decide ((p : Int) ≤ last) = false := by simp; omega
      rw [this]
    rintro _ w2 ⟨rfl, rfl⟩
    refine asB_i rfl (cond_f rfl (lv_i (bnd_mk (by omega) (by omega) ?_)))
    rw [Int.toNat_natCast, add_mk, Nat.zero_add, Nat.mul_one]
    refine hS.stj 1 rfl (by rw [gV_len]; exact hp64) rfl fun w3 hS _ => lv_i ?_
    have ek : IntKind.wrap .i64 (((g.length - i : Nat) : Int) - 1) = ((g.length - (i + 1) : Nat) : Int) := by rw [wr64 (by omega) (by omega)]; omega
    rw [ek]
    refine hJ (g.length - (i + 1)) ((p : Int), i + 1) _ (by omega) ⟨rfl, by simp only; omega, fun q hq => ?_, ?_⟩
    · have := (List.pairwise_cons.1 hpw).1 q hq
      simp only
      omega
    · simp only [List.set_cons_succ, List.set_cons_zero] at hS ⊢
      rw [gV_set hp64] at hS
      have e : (fun k => decide (k ∈ g.take i) || k == p) = fun k => decide (k ∈ g.take (i + 1)) := by
        funext k
        rw [List.take_add_one, hget]
        simp [Bool.beq_eq_decide_eq]
      rw [e] at hS
      exact hS
  · have hil : i = g.length := by
      have := of_decide_eq_false hc
      omega
    subst hil
    rw [List.take_length, List.drop_length] at hS
    exact hQ _ hS

set_option maxHeartbeats 3200000 in
/-- the changes that are told -/
theorem reads_k (hp : Pts w00) {r10 : Nat} {cs : List Chg} {rest : List Bool} {N : Value → World → Prop} (hS : Bn w00 M wa w L (DJ r10 (cs.flatMap Chg.bits ++ rest)))
    (hg : cs.Pairwise fun a b => a.p < b.p) (hok : ∀ c ∈ cs, c.ok) (hlen : cs.length ≤ 64) {Q : Option Addr → Nat → Nat → World → Prop} (hQ : ∀ p c w', Bn w00 M wa w' L (Pj (DJ r10 rest) (RwJ 90 10 p c cs.length (cs.flatMap Chg.cells))) → Q p cs.length c w') :
    (lp [(.slice none 0 0), (.int .i64 ((cs.length : Nat) : Int)), (.int .i64 (-1 : Int))] w fun J73 s71 w72 => asS (s71.getD 0 undef) fun p74 n75 c76 => asI .i64 (s71.getD 1 undef) fun x77 => asI .i64 (s71.getD 2 undef) fun x78 => 
(cond (decide (x77 > (0 : Int))) 
(cl Tryd.prog 36 #[(.pointer (some (⟨r10, 0, none⟩ : Addr)))] w72 fun v79 w80 => asA 10 v79 fun a81 => asI .i64 (a81 0) fun x82 => asI .i64 (a81 1) fun x83 => asI .i64 (a81 2) fun x84 => asI .i64 (a81 3) fun x85 => asI .i64 (a81 4) fun x86 => asI .i64 (a81 5) fun x87 => asI .i64 (a81 6) fun x88 => asI .i64 (a81 7) fun x89 => asI .i64 (a81 8) fun x90 => asB (a81 9) fun b91 => (nw w80 (.cells #[(.int .i64 (0 : Int)), (.int .i64 (0 : Int)), (.int .i64 (0 : Int)), (.int .i64 (0 : Int)), (.int .i64 (0 : Int)), (.int .i64 (0 : Int)), (.int .i64 (0 : Int)), (.int .i64 (0 : Int)), (.int .i64 (0 : Int)), (.bool false)] 90) fun r92 w93 => (st w93 (⟨r92, 0, none⟩ : Addr) (.int .i64 x82) fun w94 => (st w94 (Addr.add (⟨r92, 0, none⟩ : Addr) 1) (.int .i64 x83) fun w95 => (st w95 (Addr.add (⟨r92, 0, none⟩ : Addr) 2) (.int .i64 x84) fun w96 => (st w96 (Addr.add (⟨r92, 0, none⟩ : Addr) 3) (.int .i64 x85) fun w97 => (st w97 (Addr.add (⟨r92, 0, none⟩ : Addr) 4) (.int .i64 x86) fun w98 => (st w98 (Addr.add (⟨r92, 0, none⟩ : Addr) 5) (.int .i64 x87) fun w99 => (st w99 (Addr.add (⟨r92, 0, none⟩ : Addr) 6) (.int .i64 x88) fun w100 => (st w100 (Addr.add (⟨r92, 0, none⟩ : Addr) 7) (.int .i64 x89) fun w101 => (st w101 (Addr.add (⟨r92, 0, none⟩ : Addr) 8) (.int .i64 x90) fun w102 => (st w102 (Addr.add (⟨r92, 0, none⟩ : Addr) 9) (.bool b91) fun w103 => 
(jn (fun s104 w105 => asB (s104.getD 0 undef) fun b128 => (cond b128 (lp [] w105 fun J131 s129 w130 => (lv (0 : Int) fun y132 => (lv (220 : Int) fun y133 => 
(N (.tuple #[(.int .i64 y132), (.int .i64 y133)]) w130)))) 
(ld w105 (⟨r92, 0, none⟩ : Addr) fun v134 => asI .i64 v134 fun x135 => (ld w105 (Addr.add (⟨r92, 0, none⟩ : Addr) 1) fun v136 => asI .i64 v136 fun x137 => (ld w105 (Addr.add (⟨r92, 0, none⟩ : Addr) 2) fun v138 => asI .i64 v138 fun x139 => (ld w105 (Addr.add (⟨r92, 0, none⟩ : Addr) 3) fun v140 => asI .i64 v140 fun x141 => (ld w105 (Addr.add (⟨r92, 0, none⟩ : Addr) 4) fun v142 => asI .i64 v142 fun x143 => (ld w105 (Addr.add (⟨r92, 0, none⟩ : Addr) 5) fun v144 => asI .i64 v144 fun x145 => (ld w105 (Addr.add (⟨r92, 0, none⟩ : Addr) 6) fun v146 => asI .i64 v146 fun x147 => (ld w105 (Addr.add (⟨r92, 0, none⟩ : Addr) 7) fun v148 => asI .i64 v148 fun x149 => (cl Tryd.prog 37 #[(.agg #[(.int .i64 x135), (.int .i64 x137), (.int .i64 x139), (.int .i64 x141), (.int .i64 x143), (.int .i64 x145), (.int .i64 x147), (.int .i64 x149)])] w105 fun v150 w151 => asI .i64 v150 fun x152 => (lv x152 fun last_153 => 
(ld w151 (⟨r92, 0, none⟩ : Addr) fun v154 => asI .i64 v154 fun x155 => (ld w151 (Addr.add (⟨r92, 0, none⟩ : Addr) 1) fun v156 => asI .i64 v156 fun x157 => (ld w151 (Addr.add (⟨r92, 0, none⟩ : Addr) 2) fun v158 => asI .i64 v158 fun x159 => (ld w151 (Addr.add (⟨r92, 0, none⟩ : Addr) 3) fun v160 => asI .i64 v160 fun x161 => (ld w151 (Addr.add (⟨r92, 0, none⟩ : Addr) 4) fun v162 => asI .i64 v162 fun x163 => (ld w151 (Addr.add (⟨r92, 0, none⟩ : Addr) 5) fun v164 => asI .i64 v164 fun x165 => (ld w151 (Addr.add (⟨r92, 0, none⟩ : Addr) 6) fun v166 => asI .i64 v166 fun x167 => (ld w151 (Addr.add (⟨r92, 0, none⟩ : Addr) 7) fun v168 => asI .i64 v168 fun x169 => (ld w151 (Addr.add (⟨r92, 0, none⟩ : Addr) 8) fun v170 => asI .i64 v170 fun x171 => (ld w151 (Addr.add (⟨r92, 0, none⟩ : Addr) 9) fun v172 => asB v172 fun b173 => (nw w151 (.cells #[(.int .i64 x155), (.int .i64 x157), (.int .i64 x159), (.int .i64 x161), (.int .i64 x163), (.int .i64 x165), (.int .i64 x167), (.int .i64 x169), (.int .i64 x171), (.bool b173)] 90) fun r174 w175 => (rn Tryd.prog (Builtin.append_ #[82, 82] 82 #[(.slice p74 n75 c76), (.slice (some (⟨r174, 0, none⟩ : Addr)) 1 1)]) w175 fun v176 w177 => asS v176 fun p178 n179 c180 => 
(lv (IntKind.wrap .i64 (x77 - (1 : Int))) fun n_181 => (J73 [(.slice p178 n179 c180), (.int .i64 n_181), (.int .i64 last_153)] w177))))))))))))))))))))))))))
 (fun J106 => (ld w103 (Addr.add (⟨r10, 0, none⟩ : Addr) 1) fun v107 => asB v107 fun b108 => (cond b108 (J106 [(.bool true)] w103) (ld w103 (⟨r92, 0, none⟩ : Addr) fun v109 => asI .i64 v109 fun x110 => (ld w103 (Addr.add (⟨r92, 0, none⟩ : Addr) 1) fun v111 => asI .i64 v111 fun x112 => (ld w103 (Addr.add (⟨r92, 0, none⟩ : Addr) 2) fun v113 => asI .i64 v113 fun x114 => (ld w103 (Addr.add (⟨r92, 0, none⟩ : Addr) 3) fun v115 => asI .i64 v115 fun x116 => (ld w103 (Addr.add (⟨r92, 0, none⟩ : Addr) 4) fun v117 => asI .i64 v117 fun x118 => (ld w103 (Addr.add (⟨r92, 0, none⟩ : Addr) 5) fun v119 => asI .i64 v119 fun x120 => (ld w103 (Addr.add (⟨r92, 0, none⟩ : Addr) 6) fun v121 => asI .i64 v121 fun x122 => (ld w103 (Addr.add (⟨r92, 0, none⟩ : Addr) 7) fun v123 => asI .i64 v123 fun x124 => (cl Tryd.prog 37 #[(.agg #[(.int .i64 x110), (.int .i64 x112), (.int .i64 x114), (.int .i64 x116), (.int .i64 x118), (.int .i64 x120), (.int .i64 x122), (.int .i64 x124)])] w103 fun v125 w126 => asI .i64 v125 fun x127 => (J106 [(.bool (decide (x127 ≤ x78)))] w126)))))))))))))))))))))))))) (Q p74 n75 c76 w72))) := by
  refine lp_mk (fun t : (Option Addr × Nat) × (Int × Nat) => [.slice t.1.1 t.2.2 t.1.2, .int .i64 ((cs.length - t.2.2 : Nat) : Int), .int .i64 t.2.1])
    (fun z t w' => z = cs.length - t.2.2 ∧ t.2.2 ≤ cs.length ∧ (∀ c ∈ cs.drop t.2.2, t.2.1 < (c.p : Int)) ∧ Bn w00 M wa w' L (Pj (DJ r10 ((cs.drop t.2.2).flatMap Chg.bits ++ rest)) (RwJ 90 10 t.1.1 t.1.2 t.2.2 ((cs.take t.2.2).flatMap Chg.cells)))) cs.length ((none, 0), ((-1 : Int), 0)) rfl
    ⟨rfl, Nat.zero_le _, fun p _ => by simp only; omega, hS.row0⟩ ?_
  clear hS
  rintro _ ⟨⟨pr, c⟩, last, i⟩ w1 ⟨rfl, hi, hlast, hS⟩ J hJ
  simp only at hi hlast hS hJ ⊢
  refine asS_i rfl (asI_i rfl (asI_i rfl (cond_split (fun hc => ?_) (fun hc => ?_))))
  · have hil : i < cs.length := by
      have := of_decide_eq_true hc
      omega
    have hdrop : cs.drop i = cs[i] :: cs.drop (i + 1) := List.drop_eq_getElem_cons hil
    have hget : cs[i]? = some cs[i] := List.getElem?_eq_getElem hil
    have ho := hok _ (List.getElem_mem hil)
    have hpw : (cs.drop i).Pairwise fun a b => a.p < b.p := hg.sublist (List.drop_sublist _ _)
    rw [hdrop] at hS hlast hpw
    generalize cs[i] = x at hS hlast hget ho hpw
    have hlp := hlast x List.mem_cons_self
    rw [List.flatMap_cons, List.append_assoc] at hS
    unfold Chg.bits at hS
    rw [List.append_assoc] at hS
    obtain ⟨B, hB, hna, hl⟩ := hS.liftL DJ.kp RwJ.kp
    refine read_b hp hB ho.p ho.m ho.m0 ho.g1 ho.g2 ho.nw ho.e ho.t fun w2 L2 hB => ?_
    have hS := (hl hB).behind
    clear hB hl hna
    have hE : finE x.e { Ent.zero with h := hE x.p x.new x.g } x.m = x.E := rfl
    rw [hE]
    refine asA_i (l := chC x.E x.m x.new) rfl rfl (asI_i rfl (asI_i rfl (asI_i rfl (asI_i rfl (asI_i rfl (asI_i rfl (asI_i rfl (asI_i rfl (asI_i rfl (asB_i rfl ?_))))))))))
    refine hS.nw (cs := chC Ent.zero 0 false) fun r92 w3 hS => ?_
    refine hS.st0 0 rfl rfl rfl fun w4 hS => hS.st 0 rfl rfl rfl fun w5 hS => hS.st 0 rfl rfl rfl fun w6 hS => hS.st 0 rfl rfl rfl fun w7 hS => hS.st 0 rfl rfl rfl fun w8 hS => hS.st 0 rfl rfl rfl fun w9 hS => hS.st 0 rfl rfl rfl fun w10 hS => hS.st 0 rfl rfl rfl fun w11 hS => hS.st 0 rfl rfl rfl fun w12 hS => hS.st 0 rfl rfl rfl fun w13 hS => ?_
    replace hS : Bn w00 M wa w13 ((r92, x.cells, 90) :: L) (Pj (DJ r10 ((cs.drop (i + 1)).flatMap Chg.bits ++ rest)) (RwJ 90 10 pr c i ((cs.take i).flatMap Chg.cells))) := hS
    have hpl := Chg.place ho
    refine jn_of (fun s w' => s = [.bool false] ∧ Ext no w13 w') ?_ ?_
    rotate_left
    · intro J2 hJ2
      refine ld_mk (by rw [add_mk]; exact (hS.fstJ DJ.kp).wrong) (asB_i rfl (cond_f rfl ?_))
      refine hS.ld0 0 rfl rfl (asI_i rfl (hS.ld 0 rfl rfl (asI_i rfl (hS.ld 0 rfl rfl (asI_i rfl (hS.ld 0 rfl rfl (asI_i rfl (hS.ld 0 rfl rfl (asI_i rfl (hS.ld 0 rfl rfl (asI_i rfl (hS.ld 0 rfl rfl (asI_i rfl (hS.ld 0 rfl rfl (asI_i rfl ?_)))))))))))))))
      refine place_k (e := x.E) fun w14 hx14 => asI_i rfl (hJ2 _ _ ⟨?_, hx14⟩)
      rw [hpl]
      have : decide ((x.p : Int) ≤ last) = false := by simp; omega
      rw [this]
    rintro _ w14 ⟨rfl, hx14⟩
    replace hS := hS.to hx14
    refine asB_i rfl (cond_f rfl ?_)
    refine hS.ld0 0 rfl rfl (asI_i rfl (hS.ld 0 rfl rfl (asI_i rfl (hS.ld 0 rfl rfl (asI_i rfl (hS.ld 0 rfl rfl (asI_i rfl (hS.ld 0 rfl rfl (asI_i rfl (hS.ld 0 rfl rfl (asI_i rfl (hS.ld 0 rfl rfl (asI_i rfl (hS.ld 0 rfl rfl (asI_i rfl ?_)))))))))))))))
    refine place_k (e := x.E) fun w15 hx15 => asI_i rfl (lv_i ?_)
    replace hS := hS.to hx15
    rw [hpl]
    refine hS.ld0 0 rfl rfl (asI_i rfl (hS.ld 0 rfl rfl (asI_i rfl (hS.ld 0 rfl rfl (asI_i rfl (hS.ld 0 rfl rfl (asI_i rfl (hS.ld 0 rfl rfl (asI_i rfl (hS.ld 0 rfl rfl (asI_i rfl (hS.ld 0 rfl rfl (asI_i rfl (hS.ld 0 rfl rfl (asI_i rfl (hS.ld 0 rfl rfl (asI_i rfl (hS.ld 0 rfl rfl (asB_i rfl ?_)))))))))))))))))))
    refine Bn.app1 sCh hS.tail DJ.kp (vs := x.cells) x.cells_length x.one (le_maxLen (by omega)) (by omega) fun p' c' w16 hS => asS_i rfl (lv_i ?_)
    have ek : IntKind.wrap .i64 (((cs.length - i : Nat) : Int) - 1) = ((cs.length - (i + 1) : Nat) : Int) := by rw [wr64 (by omega) (by omega)]; omega
    rw [ek]
    refine hJ (cs.length - (i + 1)) ((p', c'), ((x.p : Int), i + 1)) _ (by omega) ⟨rfl, by simp only; omega, fun q hq => ?_, ?_⟩
    · have := (List.pairwise_cons.1 hpw).1 q hq
      simp only
      omega
    · simp only
      have e : (cs.take (i + 1)).flatMap Chg.cells = (cs.take i).flatMap Chg.cells ++ x.cells := by
        rw [List.take_add_one, hget]
        simp
      rw [e]
      exact hS
  · have hil : i = cs.length := by
      have := of_decide_eq_false hc
      omega
    subst hil
    rw [List.take_length, List.drop_length] at hS
    exact hQ _ _ _ hS
end
end Go.Proofs.YtfnepdppkmjboaaDoor

/- SnY2: the loop of Applier.Apply that lays the changes. Conditions: those of each theorem, on its arguments. -/
namespace Go.Proofs.YtfnepdppkmjboaaDoor
open Go Go.Sx Go.Fp
attribute [local irreducible] jn lv ld st nw asI asB asP asS asY asM asF asA asT lp rn ru rq cl dw dr bnd bn2 nz nn hd hr so eqW
attribute [local irreducible] callOk

/-- a change that may be laid into the table T0, where T then stands -/
structure Chg.lays (T0 T : List Ent) (gone : Nat → Bool) (c : Chg) : Prop where
  ok : c.ok
  gone : gone c.p = false
  new : c.new = true → (T0.getD c.p Ent.zero).h ≠ c.E.h
  old : c.new = false → (T0.getD c.p Ent.zero).h ≠ 0
  lay : layE c.E (T0.getD c.p Ent.zero) c.m c.new = T.getD c.p Ent.zero

theorem laidT_snoc (T T0 : List Ent) (ps : List Nat) (p : Nat) : laidT T T0 (ps ++ [p]) = (laidT T T0 ps).set p (T.getD p Ent.zero) := by
  unfold laidT
  rw [List.foldl_append]
  rfl

section
variable {w00 : World} {M : Nat → Prop} {wa w : World} {J : (Nat → Prop) → World → Prop}

set_option maxHeartbeats 6400000 in
theorem laid_k (hp : Pts w00) {r3 r5 c : Nat} {pr : Option Addr} {cs : List Chg} {T0 T : List Ent} {gone : Nat → Bool} {N : Value → World → Prop} (kJ : Kp J)
    (hS : Bn w00 M wa w [(r5, T0.flatMap Ent.cells, 75), (r3, gV gone, 81)] (Pj J (RwJ 90 10 pr c cs.length (cs.flatMap Chg.cells))))
    (hl : T0.length = 64) (hg : cs.Pairwise fun a b => a.p < b.p) (hc : ∀ c ∈ cs, c.lays T0 T gone) (hlen : cs.length ≤ 64) {Q : World → Prop}
    (hQ : ∀ w', Bn w00 M wa w' [(r5, (laidT T T0 (cs.map (·.p))).flatMap Ent.cells, 75), (r3, gV gone, 81)] (Pj J (RwJ 90 10 pr c cs.length (cs.flatMap Chg.cells))) → Q w') :
    (lp [(.int .i64 (0 : Int))] w fun J270 s268 w269 => asI .i64 (s268.getD 0 undef) fun x271 => 
(cond (decide (x271 < (cs.length : Int))) 
(dr pr fun a272 => (bnd x271 cs.length (ld w269 (Addr.add a272 (Int.toNat x271 * 10)) fun v273 => asI .i64 v273 fun x274 => (ld w269 (Addr.add (Addr.add a272 (Int.toNat x271 * 10)) 1) fun v275 => asI .i64 v275 fun x276 => (ld w269 (Addr.add (Addr.add a272 (Int.toNat x271 * 10)) 2) fun v277 => asI .i64 v277 fun x278 => (ld w269 (Addr.add (Addr.add a272 (Int.toNat x271 * 10)) 3) fun v279 => asI .i64 v279 fun x280 => (ld w269 (Addr.add (Addr.add a272 (Int.toNat x271 * 10)) 4) fun v281 => asI .i64 v281 fun x282 => (ld w269 (Addr.add (Addr.add a272 (Int.toNat x271 * 10)) 5) fun v283 => asI .i64 v283 fun x284 => (ld w269 (Addr.add (Addr.add a272 (Int.toNat x271 * 10)) 6) fun v285 => asI .i64 v285 fun x286 => (ld w269 (Addr.add (Addr.add a272 (Int.toNat x271 * 10)) 7) fun v287 => asI .i64 v287 fun x288 => (ld w269 (Addr.add (Addr.add a272 (Int.toNat x271 * 10)) 8) fun v289 => asI .i64 v289 fun x290 => (ld w269 (Addr.add (Addr.add a272 (Int.toNat x271 * 10)) 9) fun v291 => asB v291 fun b292 => (nw w269 (.cells #[(.int .i64 (0 : Int)), (.int .i64 (0 : Int)), (.int .i64 (0 : Int)), (.int .i64 (0 : Int)), (.int .i64 (0 : Int)), (.int .i64 (0 : Int)), (.int .i64 (0 : Int)), (.int .i64 (0 : Int)), (.int .i64 (0 : Int)), (.bool false)] 90) fun r293 w294 => (st w294 (⟨r293, 0, none⟩ : Addr) (.int .i64 x274) fun w295 => (st w295 (Addr.add (⟨r293, 0, none⟩ : Addr) 1) (.int .i64 x276) fun w296 => (st w296 (Addr.add (⟨r293, 0, none⟩ : Addr) 2) (.int .i64 x278) fun w297 => (st w297 (Addr.add (⟨r293, 0, none⟩ : Addr) 3) (.int .i64 x280) fun w298 => (st w298 (Addr.add (⟨r293, 0, none⟩ : Addr) 4) (.int .i64 x282) fun w299 => (st w299 (Addr.add (⟨r293, 0, none⟩ : Addr) 5) (.int .i64 x284) fun w300 => (st w300 (Addr.add (⟨r293, 0, none⟩ : Addr) 6) (.int .i64 x286) fun w301 => (st w301 (Addr.add (⟨r293, 0, none⟩ : Addr) 7) (.int .i64 x288) fun w302 => (st w302 (Addr.add (⟨r293, 0, none⟩ : Addr) 8) (.int .i64 x290) fun w303 => (st w303 (Addr.add (⟨r293, 0, none⟩ : Addr) 9) (.bool b292) fun w304 => 
(ld w304 (⟨r293, 0, none⟩ : Addr) fun v305 => asI .i64 v305 fun x306 => (ld w304 (Addr.add (⟨r293, 0, none⟩ : Addr) 1) fun v307 => asI .i64 v307 fun x308 => (ld w304 (Addr.add (⟨r293, 0, none⟩ : Addr) 2) fun v309 => asI .i64 v309 fun x310 => (ld w304 (Addr.add (⟨r293, 0, none⟩ : Addr) 3) fun v311 => asI .i64 v311 fun x312 => (ld w304 (Addr.add (⟨r293, 0, none⟩ : Addr) 4) fun v313 => asI .i64 v313 fun x314 => (ld w304 (Addr.add (⟨r293, 0, none⟩ : Addr) 5) fun v315 => asI .i64 v315 fun x316 => (ld w304 (Addr.add (⟨r293, 0, none⟩ : Addr) 6) fun v317 => asI .i64 v317 fun x318 => (ld w304 (Addr.add (⟨r293, 0, none⟩ : Addr) 7) fun v319 => asI .i64 v319 fun x320 => (cl Tryd.prog 37 #[(.agg #[(.int .i64 x306), (.int .i64 x308), (.int .i64 x310), (.int .i64 x312), (.int .i64 x314), (.int .i64 x316), (.int .i64 x318), (.int .i64 x320)])] w304 fun v321 w322 => asI .i64 v321 fun x323 => (lv x323 fun p_324 => 
(bnd p_324 64 (ld w322 (Addr.add (⟨r5, 0, none⟩ : Addr) (Int.toNat p_324 * 8)) fun v325 => asI .i64 v325 fun x326 => (lv x326 fun old_327 => 
(jn (fun s328 w329 => asB (s328.getD 0 undef) fun b341 => (cond b341 (lp [] w329 fun J344 s342 w343 => (lv (0 : Int) fun y345 => (lv (220 : Int) fun y346 => 
(N (.tuple #[(.int .i64 y345), (.int .i64 y346)]) w343)))) 
(dw w329 fun w347 => (ld w347 (⟨r293, 0, none⟩ : Addr) fun v348 => asI .i64 v348 fun x349 => (ld w347 (Addr.add (⟨r293, 0, none⟩ : Addr) 1) fun v350 => asI .i64 v350 fun x351 => (ld w347 (Addr.add (⟨r293, 0, none⟩ : Addr) 2) fun v352 => asI .i64 v352 fun x353 => (ld w347 (Addr.add (⟨r293, 0, none⟩ : Addr) 3) fun v354 => asI .i64 v354 fun x355 => (ld w347 (Addr.add (⟨r293, 0, none⟩ : Addr) 4) fun v356 => asI .i64 v356 fun x357 => (ld w347 (Addr.add (⟨r293, 0, none⟩ : Addr) 5) fun v358 => asI .i64 v358 fun x359 => (ld w347 (Addr.add (⟨r293, 0, none⟩ : Addr) 6) fun v360 => asI .i64 v360 fun x361 => (ld w347 (Addr.add (⟨r293, 0, none⟩ : Addr) 7) fun v362 => asI .i64 v362 fun x363 => (ld w347 (Addr.add (⟨r293, 0, none⟩ : Addr) 8) fun v364 => asI .i64 v364 fun x365 => (ld w347 (Addr.add (⟨r293, 0, none⟩ : Addr) 9) fun v366 => asB v366 fun b367 => (bnd p_324 64 (ld w347 (Addr.add (⟨r5, 0, none⟩ : Addr) (Int.toNat p_324 * 8)) fun v368 => asI .i64 v368 fun x369 => (ld w347 (Addr.add (Addr.add (⟨r5, 0, none⟩ : Addr) (Int.toNat p_324 * 8)) 1) fun v370 => asI .i64 v370 fun x371 => (ld w347 (Addr.add (Addr.add (⟨r5, 0, none⟩ : Addr) (Int.toNat p_324 * 8)) 2) fun v372 => asI .i64 v372 fun x373 => (ld w347 (Addr.add (Addr.add (⟨r5, 0, none⟩ : Addr) (Int.toNat p_324 * 8)) 3) fun v374 => asI .i64 v374 fun x375 => (ld w347 (Addr.add (Addr.add (⟨r5, 0, none⟩ : Addr) (Int.toNat p_324 * 8)) 4) fun v376 => asI .i64 v376 fun x377 => (ld w347 (Addr.add (Addr.add (⟨r5, 0, none⟩ : Addr) (Int.toNat p_324 * 8)) 5) fun v378 => asI .i64 v378 fun x379 => (ld w347 (Addr.add (Addr.add (⟨r5, 0, none⟩ : Addr) (Int.toNat p_324 * 8)) 6) fun v380 => asI .i64 v380 fun x381 => (ld w347 (Addr.add (Addr.add (⟨r5, 0, none⟩ : Addr) (Int.toNat p_324 * 8)) 7) fun v382 => asI .i64 v382 fun x383 => (cl Tryd.prog 39 #[(.agg #[(.int .i64 x349), (.int .i64 x351), (.int .i64 x353), (.int .i64 x355), (.int .i64 x357), (.int .i64 x359), (.int .i64 x361), (.int .i64 x363), (.int .i64 x365), (.bool b367)]), (.agg #[(.int .i64 x369), (.int .i64 x371), (.int .i64 x373), (.int .i64 x375), (.int .i64 x377), (.int .i64 x379), (.int .i64 x381), (.int .i64 x383)])] w347 fun v384 w385 => asA 8 v384 fun a386 => asI .i64 (a386 0) fun x387 => asI .i64 (a386 1) fun x388 => asI .i64 (a386 2) fun x389 => asI .i64 (a386 3) fun x390 => asI .i64 (a386 4) fun x391 => asI .i64 (a386 5) fun x392 => asI .i64 (a386 6) fun x393 => asI .i64 (a386 7) fun x394 => (bnd p_324 64 (st w385 (Addr.add (⟨r5, 0, none⟩ : Addr) (Int.toNat p_324 * 8)) (.int .i64 x387) fun w395 => (st w395 (Addr.add (Addr.add (⟨r5, 0, none⟩ : Addr) (Int.toNat p_324 * 8)) 1) (.int .i64 x388) fun w396 => (st w396 (Addr.add (Addr.add (⟨r5, 0, none⟩ : Addr) (Int.toNat p_324 * 8)) 2) (.int .i64 x389) fun w397 => (st w397 (Addr.add (Addr.add (⟨r5, 0, none⟩ : Addr) (Int.toNat p_324 * 8)) 3) (.int .i64 x390) fun w398 => (st w398 (Addr.add (Addr.add (⟨r5, 0, none⟩ : Addr) (Int.toNat p_324 * 8)) 4) (.int .i64 x391) fun w399 => (st w399 (Addr.add (Addr.add (⟨r5, 0, none⟩ : Addr) (Int.toNat p_324 * 8)) 5) (.int .i64 x392) fun w400 => (st w400 (Addr.add (Addr.add (⟨r5, 0, none⟩ : Addr) (Int.toNat p_324 * 8)) 6) (.int .i64 x393) fun w401 => (st w401 (Addr.add (Addr.add (⟨r5, 0, none⟩ : Addr) (Int.toNat p_324 * 8)) 7) (.int .i64 x394) fun w402 => 
(J270 [(.int .i64 (IntKind.wrap .i64 (x271 + (1 : Int))))] w402)))))))))))))))))))))))))))))))))
 (fun J330 => (bnd p_324 64 (ld w322 (Addr.add (⟨r3, 0, none⟩ : Addr) (Int.toNat p_324 * 1)) fun v331 => asB v331 fun b332 => (cond b332 (J330 [(.bool true)] w322) (ld w322 (Addr.add (⟨r293, 0, none⟩ : Addr) 9) fun v333 => asB v333 fun b334 => (cond b334 (ld w322 (⟨r293, 0, none⟩ : Addr) fun v335 => asI .i64 v335 fun x336 => (cond (old_327 == x336) (J330 [(.bool true)] w322) (ld w322 (Addr.add (⟨r293, 0, none⟩ : Addr) 9) fun v337 => asB v337 fun b338 => (cond (!b338) (J330 [(.bool (old_327 == (0 : Int)))] w322) (J330 [(.bool false)] w322))))) (ld w322 (Addr.add (⟨r293, 0, none⟩ : Addr) 9) fun v339 => asB v339 fun b340 => (cond (!b340) (J330 [(.bool (old_327 == (0 : Int)))] w322) (J330 [(.bool false)] w322)))))))))))))))))))))))))))))))))))))))))))))) (Q w269))) := by
  refine lp_mk (fun i : Nat => [.int .i64 (i : Int)]) (fun z i w' => z = cs.length - i ∧ i ≤ cs.length ∧ Bn w00 M wa w' [(r5, (laidT T T0 ((cs.take i).map (·.p))).flatMap Ent.cells, 75), (r3, gV gone, 81)] (Pj J (RwJ 90 10 pr c cs.length (cs.flatMap Chg.cells)))) cs.length 0 rfl
    ⟨rfl, Nat.zero_le _, hS⟩ ?_
  clear hS
  rintro _ i w1 ⟨rfl, hi, hS⟩ J1 hJ1
  refine asI_i rfl (cond_split (fun hlt => ?_) (fun hlt => ?_))
  · have hil : i < cs.length := by
      have := of_decide_eq_true hlt
      omega
    have hget : cs[i]? = some cs[i] := List.getElem?_eq_getElem hil
    have hx := hc _ (List.getElem_mem hil)
    have hnot : cs[i].p ∉ (cs.take i).map (·.p) := by
      intro hm
      obtain ⟨y, hy, e⟩ := List.mem_map.1 hm
      obtain ⟨k, hk⟩ := List.getElem?_of_mem hy
      rw [List.getElem?_take] at hk
      split at hk
      · rename_i hki
        obtain ⟨hkl, rfl⟩ := List.getElem?_eq_some_iff.1 hk
        have := List.pairwise_iff_getElem.1 hg k i hkl hil hki
        omega
      · cases hk
    generalize cs[i] = x at hget hx hnot
    have hlen1 : (laidT T T0 ((cs.take i).map (·.p))).length = 64 := by rw [laidT_len, hl]
    have hgd : (laidT T T0 ((cs.take i).map (·.p))).getD x.p Ent.zero = T0.getD x.p Ent.zero := by
      rw [laidT_get T _ T0 x.p (by have := hx.ok.p; omega), if_neg hnot]
    have hget5 := tget hlen1 hx.ok.p
    rw [hgd] at hget5
    have hp64 := hx.ok.p
    have hpl := Chg.place hx.ok
    have hstep : (laidT T T0 ((cs.take i).map (·.p))).set x.p (T.getD x.p Ent.zero) = laidT T T0 ((cs.take (i + 1)).map (·.p)) := by
      rw [List.take_add_one, hget]
      simp only [Option.toList_some, List.map_append, List.map_cons, List.map_nil]
      rw [laidT_snoc]
    generalize laidT T T0 ((cs.take i).map (·.p)) = T1 at hS hlen1 hget5 hstep
    generalize hol : T0.getD x.p Ent.zero = old at hget5
    refine Reads.atN (f := Chg.cells) Chg.cells_length hS.rrow.reads rfl hget (by decide) fun a _ hca => ?_
    rw [Int.toNat_natCast]
    have h0 := hca 0 (by decide)
    rw [Sx.add_zero'] at h0
    refine ld_mk h0 (asI_i rfl (ld_mk (hca 1 (by decide)) (asI_i rfl (ld_mk (hca 2 (by decide)) (asI_i rfl (ld_mk (hca 3 (by decide)) (asI_i rfl (ld_mk (hca 4 (by decide)) (asI_i rfl (ld_mk (hca 5 (by decide)) (asI_i rfl (ld_mk (hca 6 (by decide)) (asI_i rfl (ld_mk (hca 7 (by decide)) (asI_i rfl (ld_mk (hca 8 (by decide)) (asI_i rfl (ld_mk (hca 9 (by decide)) (asB_i rfl ?_)))))))))))))))))))
    refine hS.nw (cs := chC Ent.zero 0 false) fun r92 w3 hS => ?_
    refine hS.st0 0 rfl rfl rfl fun w4 hS => hS.st 0 rfl rfl rfl fun w5 hS => hS.st 0 rfl rfl rfl fun w6 hS => hS.st 0 rfl rfl rfl fun w7 hS => hS.st 0 rfl rfl rfl fun w8 hS => hS.st 0 rfl rfl rfl fun w9 hS => hS.st 0 rfl rfl rfl fun w10 hS => hS.st 0 rfl rfl rfl fun w11 hS => hS.st 0 rfl rfl rfl fun w12 hS => hS.st 0 rfl rfl rfl fun w13 hS => ?_
    replace hS : Bn w00 M wa w13 [(r92, x.cells, 90), (r5, T1.flatMap Ent.cells, 75), (r3, gV gone, 81)] (Pj J (RwJ 90 10 pr c cs.length (cs.flatMap Chg.cells))) := hS
    refine hS.ld0 0 rfl rfl (asI_i rfl (hS.ld 0 rfl rfl (asI_i rfl (hS.ld 0 rfl rfl (asI_i rfl (hS.ld 0 rfl rfl (asI_i rfl (hS.ld 0 rfl rfl (asI_i rfl (hS.ld 0 rfl rfl (asI_i rfl (hS.ld 0 rfl rfl (asI_i rfl (hS.ld 0 rfl rfl (asI_i rfl ?_)))))))))))))))
    refine place_k (e := x.E) fun w15 hx15 => asI_i rfl (lv_i ?_)
    replace hS := hS.to hx15
    rw [hpl]
    have hA5 : Addr.add (⟨r5, 0, none⟩ : Addr) (Int.toNat (x.p : Int) * 8) = ⟨r5, x.p * 8, none⟩ := by rw [Int.toNat_natCast, add_mk, Nat.zero_add]
    refine bnd_mk (by omega) (by omega) (ld_mk (Bn.tcell0 hS 1 rfl hget5 hA5) (asI_i rfl (lv_i ?_)))
    refine jn_of (fun s w' => s = [.bool false] ∧ w' = w15) ?_ ?_
    rotate_left
    · intro J2 hJ2
      have hc3 : w15.cell? (Addr.add ⟨r3, 0, none⟩ (Int.toNat (x.p : Int) * 1)) = some (.bool (gone x.p)) := by
        rw [Int.toNat_natCast, add_mk, Nat.zero_add, Nat.mul_one]
        exact hS.cell 2 rfl (gV_get hp64)
      refine bnd_mk (by omega) (by omega) (ld_mk hc3 (asB_i rfl (cond_f hx.gone (hS.ld 0 rfl rfl (asB_i rfl ?_)))))
      cases hnew : x.new with
      | true =>
        refine cond_t rfl (hS.ld0 0 rfl rfl (asI_i rfl ?_))
        have hn := hx.new hnew
        rw [hol] at hn
        refine cond_f (by simpa using hn) (hS.ld 0 rfl rfl (asB_i rfl ?_))
        rw [hnew]
        exact cond_f rfl (hJ2 _ _ ⟨rfl, rfl⟩)
      | false =>
        refine cond_f rfl (hS.ld 0 rfl rfl (asB_i rfl ?_))
        rw [hnew]
        have hn := hx.old hnew
        rw [hol] at hn
        refine cond_t rfl (hJ2 _ _ ⟨?_, rfl⟩)
        have : (old.h == 0) = false := by simpa using hn
        rw [this]
    rintro _ w15 ⟨rfl, rfl⟩
    refine asB_i rfl (cond_f rfl (hS.dw fun w16 hS _ => ?_))
    refine hS.ld0 0 rfl rfl (asI_i rfl (hS.ld 0 rfl rfl (asI_i rfl (hS.ld 0 rfl rfl (asI_i rfl (hS.ld 0 rfl rfl (asI_i rfl (hS.ld 0 rfl rfl (asI_i rfl (hS.ld 0 rfl rfl (asI_i rfl (hS.ld 0 rfl rfl (asI_i rfl (hS.ld 0 rfl rfl (asI_i rfl (hS.ld 0 rfl rfl (asI_i rfl (hS.ld 0 rfl rfl (asB_i rfl ?_)))))))))))))))))))
    refine bnd_mk (by omega) (by omega) (ld8c (e := old) (Bn.tcell hS 1 rfl hget5 hA5) ?_)
    have hlay := hx.lay
    rw [hol] at hlay
    refine lay_k (E := x.E) (f := old) (m := x.m) (new := x.new) hp hS.all hx.ok.m fun w17 hx17 => ?_
    replace hS := hS.to hx17
    rw [hlay]
    generalize T.getD x.p Ent.zero = e at hstep
    refine asA_i (l := e.cells) rfl rfl (asI_i rfl (asI_i rfl (asI_i rfl (asI_i rfl (asI_i rfl (asI_i rfl (asI_i rfl (asI_i rfl (bnd_mk (by omega) (by omega) ?_)))))))))
    refine Bn.tst8 hS 1 rfl (p := x.p) (by omega) e hA5 fun w18 hS => ?_
    have ek : IntKind.wrap .i64 ((i : Int) + 1) = ((i + 1 : Nat) : Int) := by rw [wr64 (by omega) (by omega)]; omega
    rw [ek]
    refine hJ1 (cs.length - (i + 1)) (i + 1) _ (by omega) ⟨rfl, by omega, ?_⟩
    rw [← hstep]
    exact hS.tail
  · have hil : i = cs.length := by
      have := of_decide_eq_false hlt
      omega
    subst hil
    rw [List.take_length] at hS
    exact hQ _ hS
end
end Go.Proofs.YtfnepdppkmjboaaDoor

/- SnZ: the changes that a snapshot tells, in plain Lean: they may be laid, and lay what was meant. No condition. -/
namespace Go.Proofs.YtfnepdppkmjboaaDoor
open Go Go.Sx Go.Fp

def chg (T0 T : List Ent) (p : Nat) : Chg :=
  ⟨p, decide ((T.getD p Ent.zero).h ≠ (T0.getD p Ent.zero).h), (Int.tdiv (T.getD p Ent.zero).h 64).toNat, if (T.getD p Ent.zero).h ≠ (T0.getD p Ent.zero).h then 63 else maskN (T.getD p Ent.zero) (T0.getD p Ent.zero), T.getD p Ent.zero⟩
def chgs (T0 T : List Ent) : List Chg := (othL T0 T 64).map (chg T0 T)

theorem chg_bits (T0 T : List Ent) (p : Nat) : (chg T0 T p).bits = entB T0 T p := by
  unfold Chg.bits chg entB preB
  generalize T.getD p Ent.zero = a
  generalize T0.getD p Ent.zero = b
  by_cases h : a.h ≠ b.h
  · simp only [if_pos h, decide_eq_true h, if_true, List.append_assoc]
  · simp only [if_neg h, decide_eq_false h, Bool.false_eq_true, if_false, List.append_assoc]
theorem chgs_bits (T0 T : List Ent) : (chgs T0 T).flatMap Chg.bits = (othL T0 T 64).flatMap (entB T0 T) := by
  unfold chgs
  rw [List.flatMap_map]
  congr 1
  funext p
  exact chg_bits T0 T p
theorem chgs_len (T0 T : List Ent) : (chgs T0 T).length = (othL T0 T 64).length := by simp [chgs]
theorem chgs_p (T0 T : List Ent) : (chgs T0 T).map (·.p) = othL T0 T 64 := by
  unfold chgs
  rw [List.map_map]
  have : ((fun c : Chg => c.p) ∘ chg T0 T) = id := rfl
  rw [this, List.map_id]
theorem range_inc (f : Nat → Bool) (k : Nat) : ((List.range k).filter f).Pairwise (· < ·) := List.pairwise_lt_range.sublist List.filter_sublist
theorem chgs_inc (T0 T : List Ent) : (chgs T0 T).Pairwise fun a b => a.p < b.p := by
  unfold chgs
  rw [List.pairwise_map]
  exact range_inc _ _

/-- who stands at a place of a table has that place -/
theorem tab_place {es : List Ent} {p : Nat} (hp : p < 64) : (tab es).getD p Ent.zero = Ent.zero ∨ placeN ((tab es).getD p Ent.zero) = p := by
  have key : ∀ (es : List Ent) (T : List Ent), T.length = 64 → (∀ p, p < 64 → T.getD p Ent.zero = Ent.zero ∨ placeN (T.getD p Ent.zero) = p) → ∀ p, p < 64 → (es.foldl tabF T).getD p Ent.zero = Ent.zero ∨ placeN ((es.foldl tabF T).getD p Ent.zero) = p := by
    intro es
    induction es with
    | nil => exact fun T _ h => h
    | cons e es ih =>
      intro T hl h
      refine ih _ (by rw [tabF_len, hl]) fun p hp => ?_
      unfold tabF
      by_cases hpe : placeN e = p
      · subst hpe
        rw [List.getD_eq_getElem?_getD, List.getElem?_set_self (by omega)]
        exact .inr rfl
      · rw [List.getD_eq_getElem?_getD, List.getElem?_set_ne hpe, ← List.getD_eq_getElem?_getD]
        exact h p hp
  refine key es _ (by simp) (fun p hp => .inl ?_) p hp
  rw [List.getD_eq_getElem?_getD, List.getElem?_replicate, if_pos hp]
  rfl

section
variable {es0 es : List Ent}
theorem chg_lays (h0 : okV (-1) es0 = true) (h1 : okV (-1) es = true) (hI : ∀ e ∈ es, e.I) {p : Nat} (hp : p ∈ othL (tab es0) (tab es) 64) :
    (chg (tab es0) (tab es) p).lays (tab es0) (tab es) (fun p => decide (p ∈ goneL (tab es0) (tab es) 64)) := by
  have h64 : ∀ e ∈ es0, 64 ≤ e.h := fun e he => (okV_mem h0 e he).2.1
  have hlt := othL_lt hp
  have hb : othB (tab es0) (tab es) p = true := (List.mem_filter.1 hp).2
  have hmem := oth_mem h64 hp
  have hm := okV_mem h1 _ hmem
  have hIe := hI _ hmem
  have hplace : placeN ((tab es).getD p Ent.zero) = p := by
    rcases tab_place (es := es) hlt with h | h
    · rw [h] at hm
      have : (64 : Int) ≤ Ent.zero.h := hm.2.1
      have hz : Ent.zero.h = 0 := rfl
      omega
    · exact h
  have hbg : goneB (tab es0) (tab es) p = false := by
    simp only [othB, Bool.and_eq_true, Bool.not_eq_true'] at hb
    exact hb.1
  have hne : (tab es).getD p Ent.zero ≠ (tab es0).getD p Ent.zero := by
    simp only [othB, Bool.and_eq_true, Bool.not_eq_true', decide_eq_false_iff_not] at hb
    exact hb.2
  have hdiv : Int.tdiv ((tab es).getD p Ent.zero).h 64 = ((tab es).getD p Ent.zero).h / 64 := Int.tdiv_eq_ediv_of_nonneg (by omega)
  have hmod : Int.tmod ((tab es).getD p Ent.zero).h 64 = ((tab es).getD p Ent.zero).h % 64 := Int.tmod_eq_emod_of_nonneg (by omega)
  have hhE : ((tab es).getD p Ent.zero).h = ((((Int.tdiv ((tab es).getD p Ent.zero).h 64).toNat * 64 + p : Nat)) : Int) := by
    unfold placeN at hplace
    rw [hmod] at hplace
    rw [hdiv]
    have := hm.2.1
    omega
  have hEh : (chg (tab es0) (tab es) p).new = true → (chg (tab es0) (tab es) p).E.h = ((tab es).getD p Ent.zero).h := by
    intro hn
    rw [Chg.h_eq]
    unfold hE
    rw [if_pos hn]
    exact hhE.symm
  refine ⟨⟨hlt, ?_, ?_, ?_, ?_, ?_, hm.1, hIe.2.2.2.2.2.2.2⟩, ?_, ?_, ?_, ?_⟩
  · show (if _ then 63 else _) < 64
    split
    · decide
    · exact maskN_lt _ _
  · show 0 < (if _ then 63 else _)
    split
    · decide
    · rename_i h
      exact mask_pos (by simpa using h) hne
  · show 1 ≤ (Int.tdiv ((tab es).getD p Ent.zero).h 64).toNat
    rw [hdiv]
    have := hm.2.1
    omega
  · show (Int.tdiv ((tab es).getD p Ent.zero).h 64).toNat ≤ _
    have := hm.2.2.1
    omega
  · intro hn
    have hn' : ((tab es).getD p Ent.zero).h ≠ ((tab es0).getD p Ent.zero).h := of_decide_eq_true hn
    show (if _ then 63 else _) = 63
    rw [if_pos hn']
  · show decide (p ∈ goneL (tab es0) (tab es) 64) = false
    refine decide_eq_false fun hg => ?_
    have := (List.mem_filter.1 hg).2
    rw [hbg] at this
    cases this
  · intro hn
    rw [hEh hn]
    have hn' : ((tab es).getD p Ent.zero).h ≠ ((tab es0).getD p Ent.zero).h := of_decide_eq_true hn
    exact fun e => hn' e.symm
  · intro hn
    have hn' : ¬ ((tab es).getD p Ent.zero).h ≠ ((tab es0).getD p Ent.zero).h := of_decide_eq_false hn
    have he : ((tab es).getD p Ent.zero).h = ((tab es0).getD p Ent.zero).h := by simpa using hn'
    show ((tab es0).getD p Ent.zero).h ≠ 0
    have := hm.2.1
    omega
  · by_cases hn : ((tab es).getD p Ent.zero).h ≠ ((tab es0).getD p Ent.zero).h
    · have e1 : (chg (tab es0) (tab es) p).new = true := decide_eq_true hn
      have e2 : (chg (tab es0) (tab es) p).m = 63 := by
        show (if _ then 63 else _) = 63
        rw [if_pos hn]
      rw [e1, e2]
      show layE (chg (tab es0) (tab es) p).E _ 63 true = _
      unfold layE
      rw [if_pos rfl]
      unfold Chg.E
      rw [e1, e2]
      have e3 : hE (chg (tab es0) (tab es) p).p true (chg (tab es0) (tab es) p).g = ((tab es).getD p Ent.zero).h := by
        unfold hE
        rw [if_pos rfl]
        exact hhE.symm
      rw [e3]
      exact new_all _
    · have e1 : (chg (tab es0) (tab es) p).new = false := decide_eq_false hn
      have e2 : (chg (tab es0) (tab es) p).m = maskN ((tab es).getD p Ent.zero) ((tab es0).getD p Ent.zero) := by
        show (if _ then 63 else _) = _
        rw [if_neg hn]
      rw [e1, e2]
      unfold layE
      rw [if_neg (by simp)]
      unfold Chg.E
      rw [e1, e2]
      exact lay_mask (show ((tab es).getD p Ent.zero).h = _ from Decidable.not_not.1 hn) _

theorem gone_there {p : Nat} (hp : p ∈ goneL (tab es0) (tab es) 64) : ((tab es0).getD p Ent.zero).h ≠ 0 := by
  have := (List.mem_filter.1 hp).2
  simp only [goneB, Bool.and_eq_true, bne_iff_ne, ne_eq] at this
  exact this.2
theorem gone_nil : goneL (tab []) (tab es) 64 = [] := by
  unfold goneL
  rw [List.filter_eq_nil_iff]
  intro p hp
  have h64 : p < 64 := List.mem_range.1 hp
  have : (tab []).getD p Ent.zero = Ent.zero := by
    show (List.replicate 64 Ent.zero).getD p Ent.zero = _
    rw [List.getD_eq_getElem?_getD, List.getElem?_replicate, if_pos h64]
    rfl
  unfold goneB
  rw [this]
  simp [Ent.zero]
end

theorem bodyB_len (T0 T : List Ent) : (bodyB T0 T).length ≤ 30606 := by
  have h1 := flat_le (l := othL T0 T 64) (f := entB T0 T) (c := 472) fun p _ => entB_len
  have h2 := flat_le (l := goneL T0 T 64) (f := fun p : Nat => numBits p 6) (c := 6) (fun p _ => by rw [numBits_length]; exact Nat.le_refl _)
  have h3 := goneL_len T0 T 64
  have h4 := othL_len T0 T 64
  unfold bodyB
  simp only [List.length_append, numBits_length]
  have h5 : 472 * (othL T0 T 64).length ≤ 472 * 64 := Nat.mul_le_mul_left _ h4
  have h6 : 6 * (goneL T0 T 64).length ≤ 6 * 64 := Nat.mul_le_mul_left _ h3
  omega
theorem makeB_len (tick acked : Int) (b : Option (List Ent)) (es : List Ent) : (makeB tick acked b es).length ≤ 31000 := by
  have := bodyB_len (tab (b.getD [])) (tab es)
  unfold makeB
  cases b <;> (simp only [headB, List.length_append, numBits_length] at *; omega)
end Go.Proofs.YtfnepdppkmjboaaDoor

/- SnY3: the end of Applier.Apply: all is read; the base; the new view. Conditions: those of each theorem, on its arguments. -/
namespace Go.Proofs.YtfnepdppkmjboaaDoor
open Go Go.Sx Go.Fp
attribute [local irreducible] jn lv ld st nw asI asB asP asS asY asM asF asA asT lp rn ru rq cl dw dr bnd bn2 nz nn hd hr so eqW
attribute [local irreducible] callOk

def applyE (A : List (Int × List Ent)) (tick acked : Int) (b : Option (List Ent)) : Int :=
  if lateB A tick then 71 else if b.isSome && (A.find? fun x => x.1 == acked).isNone then 181 else 0

section
variable {w00 : World} {B : Nat → Prop} {w0 w : World} {J : (Nat → Prop) → World → Prop}

set_option maxHeartbeats 6400000 in
theorem tail_k (hp : Pts w0) {q : Nat} {A : List (Int × List Ent)} (hS0 : Bn w00 B w0 w0 [] (RJ q [] 66 A)) (hA : A.length ≤ 16) {r3 r5 c : Nat} {pr : Option Addr} {cs : List Chg} {T0 T : List Ent} {gone : Nat → Bool} (kJ : Kp J)
    (hF : Bn w0 no w0 w [(r5, T0.flatMap Ent.cells, 75), (r3, gV gone, 81)] (Pj J (RwJ 90 10 pr c cs.length (cs.flatMap Chg.cells))))
    (hl : T0.length = 64) (hg : cs.Pairwise fun a b => a.p < b.p) (hc : ∀ c ∈ cs, c.lays T0 T gone) (hlen : cs.length ≤ 64) (hgn : ∀ p, p < 64 → gone p = true → (T0.getD p Ent.zero).h ≠ 0)
    {tick : Int} {es : List Ent} (hes : outV (laidT T T0 (cs.map (·.p))) gone 64 = es) {n : Nat} (hn : cs.length = n) {Q : Value → World → Prop}
    (hQ : ∀ w', Bn w00 B w0 w' [] (RJ q [] 66 (lastR (A ++ [(tick, es)]))) → Q (.tuple #[.int .i64 tick, .int .i64 0]) w') :
    (lp [(.int .i64 (0 : Int))] w fun J252 s250 w251 => asI .i64 (s250.getD 0 undef) fun x253 => 
(cond (decide (x253 < (64 : Int))) 
(lv x253 fun p_254 => 
(jn (fun s255 w256 => asB (s255.getD 0 undef) fun b262 => (cond b262 (lp [] w256 fun J265 s263 w264 => (lv (0 : Int) fun y266 => (lv (220 : Int) fun y267 => 
(Q (.tuple #[(.int .i64 y266), (.int .i64 y267)]) w264)))) 
(J252 [(.int .i64 (IntKind.wrap .i64 (x253 + (1 : Int))))] w256)))
 (fun J257 => (bnd p_254 64 (ld w251 (Addr.add (⟨r3, 0, none⟩ : Addr) (Int.toNat p_254 * 1)) fun v258 => asB v258 fun b259 => (cond b259 (bnd p_254 64 (ld w251 (Addr.add (⟨r5, 0, none⟩ : Addr) (Int.toNat p_254 * 8)) fun v260 => asI .i64 v260 fun x261 => (J257 [(.bool (x261 == (0 : Int)))] w251))) (J257 [(.bool false)] w251))))))) 
(lp [(.int .i64 (0 : Int))] w251 fun J270 s268 w269 => asI .i64 (s268.getD 0 undef) fun x271 => 
(cond (decide (x271 < (n : Int))) 
(dr pr fun a272 => (bnd x271 n (ld w269 (Addr.add a272 (Int.toNat x271 * 10)) fun v273 => asI .i64 v273 fun x274 => (ld w269 (Addr.add (Addr.add a272 (Int.toNat x271 * 10)) 1) fun v275 => asI .i64 v275 fun x276 => (ld w269 (Addr.add (Addr.add a272 (Int.toNat x271 * 10)) 2) fun v277 => asI .i64 v277 fun x278 => (ld w269 (Addr.add (Addr.add a272 (Int.toNat x271 * 10)) 3) fun v279 => asI .i64 v279 fun x280 => (ld w269 (Addr.add (Addr.add a272 (Int.toNat x271 * 10)) 4) fun v281 => asI .i64 v281 fun x282 => (ld w269 (Addr.add (Addr.add a272 (Int.toNat x271 * 10)) 5) fun v283 => asI .i64 v283 fun x284 => (ld w269 (Addr.add (Addr.add a272 (Int.toNat x271 * 10)) 6) fun v285 => asI .i64 v285 fun x286 => (ld w269 (Addr.add (Addr.add a272 (Int.toNat x271 * 10)) 7) fun v287 => asI .i64 v287 fun x288 => (ld w269 (Addr.add (Addr.add a272 (Int.toNat x271 * 10)) 8) fun v289 => asI .i64 v289 fun x290 => (ld w269 (Addr.add (Addr.add a272 (Int.toNat x271 * 10)) 9) fun v291 => asB v291 fun b292 => (nw w269 (.cells #[(.int .i64 (0 : Int)), (.int .i64 (0 : Int)), (.int .i64 (0 : Int)), (.int .i64 (0 : Int)), (.int .i64 (0 : Int)), (.int .i64 (0 : Int)), (.int .i64 (0 : Int)), (.int .i64 (0 : Int)), (.int .i64 (0 : Int)), (.bool false)] 90) fun r293 w294 => (st w294 (⟨r293, 0, none⟩ : Addr) (.int .i64 x274) fun w295 => (st w295 (Addr.add (⟨r293, 0, none⟩ : Addr) 1) (.int .i64 x276) fun w296 => (st w296 (Addr.add (⟨r293, 0, none⟩ : Addr) 2) (.int .i64 x278) fun w297 => (st w297 (Addr.add (⟨r293, 0, none⟩ : Addr) 3) (.int .i64 x280) fun w298 => (st w298 (Addr.add (⟨r293, 0, none⟩ : Addr) 4) (.int .i64 x282) fun w299 => (st w299 (Addr.add (⟨r293, 0, none⟩ : Addr) 5) (.int .i64 x284) fun w300 => (st w300 (Addr.add (⟨r293, 0, none⟩ : Addr) 6) (.int .i64 x286) fun w301 => (st w301 (Addr.add (⟨r293, 0, none⟩ : Addr) 7) (.int .i64 x288) fun w302 => (st w302 (Addr.add (⟨r293, 0, none⟩ : Addr) 8) (.int .i64 x290) fun w303 => (st w303 (Addr.add (⟨r293, 0, none⟩ : Addr) 9) (.bool b292) fun w304 => 
(ld w304 (⟨r293, 0, none⟩ : Addr) fun v305 => asI .i64 v305 fun x306 => (ld w304 (Addr.add (⟨r293, 0, none⟩ : Addr) 1) fun v307 => asI .i64 v307 fun x308 => (ld w304 (Addr.add (⟨r293, 0, none⟩ : Addr) 2) fun v309 => asI .i64 v309 fun x310 => (ld w304 (Addr.add (⟨r293, 0, none⟩ : Addr) 3) fun v311 => asI .i64 v311 fun x312 => (ld w304 (Addr.add (⟨r293, 0, none⟩ : Addr) 4) fun v313 => asI .i64 v313 fun x314 => (ld w304 (Addr.add (⟨r293, 0, none⟩ : Addr) 5) fun v315 => asI .i64 v315 fun x316 => (ld w304 (Addr.add (⟨r293, 0, none⟩ : Addr) 6) fun v317 => asI .i64 v317 fun x318 => (ld w304 (Addr.add (⟨r293, 0, none⟩ : Addr) 7) fun v319 => asI .i64 v319 fun x320 => (cl Tryd.prog 37 #[(.agg #[(.int .i64 x306), (.int .i64 x308), (.int .i64 x310), (.int .i64 x312), (.int .i64 x314), (.int .i64 x316), (.int .i64 x318), (.int .i64 x320)])] w304 fun v321 w322 => asI .i64 v321 fun x323 => (lv x323 fun p_324 => 
(bnd p_324 64 (ld w322 (Addr.add (⟨r5, 0, none⟩ : Addr) (Int.toNat p_324 * 8)) fun v325 => asI .i64 v325 fun x326 => (lv x326 fun old_327 => 
(jn (fun s328 w329 => asB (s328.getD 0 undef) fun b341 => (cond b341 (lp [] w329 fun J344 s342 w343 => (lv (0 : Int) fun y345 => (lv (220 : Int) fun y346 => 
(Q (.tuple #[(.int .i64 y345), (.int .i64 y346)]) w343)))) 
(dw w329 fun w347 => (ld w347 (⟨r293, 0, none⟩ : Addr) fun v348 => asI .i64 v348 fun x349 => (ld w347 (Addr.add (⟨r293, 0, none⟩ : Addr) 1) fun v350 => asI .i64 v350 fun x351 => (ld w347 (Addr.add (⟨r293, 0, none⟩ : Addr) 2) fun v352 => asI .i64 v352 fun x353 => (ld w347 (Addr.add (⟨r293, 0, none⟩ : Addr) 3) fun v354 => asI .i64 v354 fun x355 => (ld w347 (Addr.add (⟨r293, 0, none⟩ : Addr) 4) fun v356 => asI .i64 v356 fun x357 => (ld w347 (Addr.add (⟨r293, 0, none⟩ : Addr) 5) fun v358 => asI .i64 v358 fun x359 => (ld w347 (Addr.add (⟨r293, 0, none⟩ : Addr) 6) fun v360 => asI .i64 v360 fun x361 => (ld w347 (Addr.add (⟨r293, 0, none⟩ : Addr) 7) fun v362 => asI .i64 v362 fun x363 => (ld w347 (Addr.add (⟨r293, 0, none⟩ : Addr) 8) fun v364 => asI .i64 v364 fun x365 => (ld w347 (Addr.add (⟨r293, 0, none⟩ : Addr) 9) fun v366 => asB v366 fun b367 => (bnd p_324 64 (ld w347 (Addr.add (⟨r5, 0, none⟩ : Addr) (Int.toNat p_324 * 8)) fun v368 => asI .i64 v368 fun x369 => (ld w347 (Addr.add (Addr.add (⟨r5, 0, none⟩ : Addr) (Int.toNat p_324 * 8)) 1) fun v370 => asI .i64 v370 fun x371 => (ld w347 (Addr.add (Addr.add (⟨r5, 0, none⟩ : Addr) (Int.toNat p_324 * 8)) 2) fun v372 => asI .i64 v372 fun x373 => (ld w347 (Addr.add (Addr.add (⟨r5, 0, none⟩ : Addr) (Int.toNat p_324 * 8)) 3) fun v374 => asI .i64 v374 fun x375 => (ld w347 (Addr.add (Addr.add (⟨r5, 0, none⟩ : Addr) (Int.toNat p_324 * 8)) 4) fun v376 => asI .i64 v376 fun x377 => (ld w347 (Addr.add (Addr.add (⟨r5, 0, none⟩ : Addr) (Int.toNat p_324 * 8)) 5) fun v378 => asI .i64 v378 fun x379 => (ld w347 (Addr.add (Addr.add (⟨r5, 0, none⟩ : Addr) (Int.toNat p_324 * 8)) 6) fun v380 => asI .i64 v380 fun x381 => (ld w347 (Addr.add (Addr.add (⟨r5, 0, none⟩ : Addr) (Int.toNat p_324 * 8)) 7) fun v382 => asI .i64 v382 fun x383 => (cl Tryd.prog 39 #[(.agg #[(.int .i64 x349), (.int .i64 x351), (.int .i64 x353), (.int .i64 x355), (.int .i64 x357), (.int .i64 x359), (.int .i64 x361), (.int .i64 x363), (.int .i64 x365), (.bool b367)]), (.agg #[(.int .i64 x369), (.int .i64 x371), (.int .i64 x373), (.int .i64 x375), (.int .i64 x377), (.int .i64 x379), (.int .i64 x381), (.int .i64 x383)])] w347 fun v384 w385 => asA 8 v384 fun a386 => asI .i64 (a386 0) fun x387 => asI .i64 (a386 1) fun x388 => asI .i64 (a386 2) fun x389 => asI .i64 (a386 3) fun x390 => asI .i64 (a386 4) fun x391 => asI .i64 (a386 5) fun x392 => asI .i64 (a386 6) fun x393 => asI .i64 (a386 7) fun x394 => (bnd p_324 64 (st w385 (Addr.add (⟨r5, 0, none⟩ : Addr) (Int.toNat p_324 * 8)) (.int .i64 x387) fun w395 => (st w395 (Addr.add (Addr.add (⟨r5, 0, none⟩ : Addr) (Int.toNat p_324 * 8)) 1) (.int .i64 x388) fun w396 => (st w396 (Addr.add (Addr.add (⟨r5, 0, none⟩ : Addr) (Int.toNat p_324 * 8)) 2) (.int .i64 x389) fun w397 => (st w397 (Addr.add (Addr.add (⟨r5, 0, none⟩ : Addr) (Int.toNat p_324 * 8)) 3) (.int .i64 x390) fun w398 => (st w398 (Addr.add (Addr.add (⟨r5, 0, none⟩ : Addr) (Int.toNat p_324 * 8)) 4) (.int .i64 x391) fun w399 => (st w399 (Addr.add (Addr.add (⟨r5, 0, none⟩ : Addr) (Int.toNat p_324 * 8)) 5) (.int .i64 x392) fun w400 => (st w400 (Addr.add (Addr.add (⟨r5, 0, none⟩ : Addr) (Int.toNat p_324 * 8)) 6) (.int .i64 x393) fun w401 => (st w401 (Addr.add (Addr.add (⟨r5, 0, none⟩ : Addr) (Int.toNat p_324 * 8)) 7) (.int .i64 x394) fun w402 => 
(J270 [(.int .i64 (IntKind.wrap .i64 (x271 + (1 : Int))))] w402)))))))))))))))))))))))))))))))))
 (fun J330 => (bnd p_324 64 (ld w322 (Addr.add (⟨r3, 0, none⟩ : Addr) (Int.toNat p_324 * 1)) fun v331 => asB v331 fun b332 => (cond b332 (J330 [(.bool true)] w322) (ld w322 (Addr.add (⟨r293, 0, none⟩ : Addr) 9) fun v333 => asB v333 fun b334 => (cond b334 (ld w322 (⟨r293, 0, none⟩ : Addr) fun v335 => asI .i64 v335 fun x336 => (cond (old_327 == x336) (J330 [(.bool true)] w322) (ld w322 (Addr.add (⟨r293, 0, none⟩ : Addr) 9) fun v337 => asB v337 fun b338 => (cond (!b338) (J330 [(.bool (old_327 == (0 : Int)))] w322) (J330 [(.bool false)] w322))))) (ld w322 (Addr.add (⟨r293, 0, none⟩ : Addr) 9) fun v339 => asB v339 fun b340 => (cond (!b340) (J330 [(.bool (old_327 == (0 : Int)))] w322) (J330 [(.bool false)] w322)))))))))))))))))))))))))))))))))))))))))))))) (ldG Tryd.prog w269 (⟨r5, 0, none⟩ : Addr) 512 fun l403 => 
(lp [(.slice none 0 0), (.int .i64 (0 : Int))] w269 fun J406 s404 w405 => asS (s404.getD 0 undef) fun p407 n408 c409 => asI .i64 (s404.getD 1 undef) fun x410 => 
(cond (decide (x410 < (64 : Int))) 
(jn (fun s411 w412 => asS (s411.getD 0 undef) fun p465 n466 c467 => (J406 [(.slice p465 n466 c467), (.int .i64 (IntKind.wrap .i64 (x410 + (1 : Int))))] w412))
 (fun J413 => (bnd x410 64 (asA 8 (.agg (Array.extract ((List.toArray l403) : Array Value) (Int.toNat x410 * 8) (Int.toNat x410 * 8 + 8))) fun a414 => asI .i64 (a414 0) fun x415 => asI .i64 (a414 1) fun x416 => asI .i64 (a414 2) fun x417 => asI .i64 (a414 3) fun x418 => asI .i64 (a414 4) fun x419 => asI .i64 (a414 5) fun x420 => asI .i64 (a414 6) fun x421 => asI .i64 (a414 7) fun x422 => (nw w405 (.cells #[(.int .i64 (0 : Int)), (.int .i64 (0 : Int)), (.int .i64 (0 : Int)), (.int .i64 (0 : Int)), (.int .i64 (0 : Int)), (.int .i64 (0 : Int)), (.int .i64 (0 : Int)), (.int .i64 (0 : Int))] 59) fun r423 w424 => (lv x410 fun p_425 => (st w424 (⟨r423, 0, none⟩ : Addr) (.int .i64 x415) fun w426 => (st w426 (Addr.add (⟨r423, 0, none⟩ : Addr) 1) (.int .i64 x416) fun w427 => (st w427 (Addr.add (⟨r423, 0, none⟩ : Addr) 2) (.int .i64 x417) fun w428 => (st w428 (Addr.add (⟨r423, 0, none⟩ : Addr) 3) (.int .i64 x418) fun w429 => (st w429 (Addr.add (⟨r423, 0, none⟩ : Addr) 4) (.int .i64 x419) fun w430 => (st w430 (Addr.add (⟨r423, 0, none⟩ : Addr) 5) (.int .i64 x420) fun w431 => (st w431 (Addr.add (⟨r423, 0, none⟩ : Addr) 6) (.int .i64 x421) fun w432 => (st w432 (Addr.add (⟨r423, 0, none⟩ : Addr) 7) (.int .i64 x422) fun w433 => 
(jn (fun s434 w435 => asB (s434.getD 0 undef) fun b441 => (cond b441 (ld w435 (⟨r423, 0, none⟩ : Addr) fun v442 => asI .i64 v442 fun x443 => (ld w435 (Addr.add (⟨r423, 0, none⟩ : Addr) 1) fun v444 => asI .i64 v444 fun x445 => (ld w435 (Addr.add (⟨r423, 0, none⟩ : Addr) 2) fun v446 => asI .i64 v446 fun x447 => (ld w435 (Addr.add (⟨r423, 0, none⟩ : Addr) 3) fun v448 => asI .i64 v448 fun x449 => (ld w435 (Addr.add (⟨r423, 0, none⟩ : Addr) 4) fun v450 => asI .i64 v450 fun x451 => (ld w435 (Addr.add (⟨r423, 0, none⟩ : Addr) 5) fun v452 => asI .i64 v452 fun x453 => (ld w435 (Addr.add (⟨r423, 0, none⟩ : Addr) 6) fun v454 => asI .i64 v454 fun x455 => (ld w435 (Addr.add (⟨r423, 0, none⟩ : Addr) 7) fun v456 => asI .i64 v456 fun x457 => (nw w435 (.cells #[(.int .i64 x443), (.int .i64 x445), (.int .i64 x447), (.int .i64 x449), (.int .i64 x451), (.int .i64 x453), (.int .i64 x455), (.int .i64 x457)] 59) fun r458 w459 => (rn Tryd.prog (Builtin.append_ #[30, 30] 30 #[(.slice p407 n408 c409), (.slice (some (⟨r458, 0, none⟩ : Addr)) 1 1)]) w459 fun v460 w461 => asS v460 fun p462 n463 c464 => (J413 [(.slice p462 n463 c464)] w461))))))))))) (J413 [(.slice p407 n408 c409)] w435)))
 (fun J436 => (ld w433 (⟨r423, 0, none⟩ : Addr) fun v437 => asI .i64 v437 fun x438 => (cond (x438 != (0 : Int)) (bnd p_425 64 (ld w433 (Addr.add (⟨r3, 0, none⟩ : Addr) (Int.toNat p_425 * 1)) fun v439 => asB v439 fun b440 => (J436 [(.bool (!b440))] w433))) (J436 [(.bool false)] w433))))))))))))))))))) (dr (some ⟨q, 0, none⟩) fun a468 => (cl Tryd.prog 31 #[(.pointer (some a468)), (.agg #[(.int .i64 tick), (.slice p407 n408 c409)])] w405 fun v469 w470 => (lv tick fun y471 => (lv (0 : Int) fun y472 => 
(Q (.tuple #[(.int .i64 y471), (.int .i64 y472)]) w470)))))))))))) := by
  subst hn
  obtain ⟨B0, ⟨p0, cp, R, rfl, hX, hRA⟩, hlt, hna, hm, ho⟩ := hS0.ex
  have hRl : R.length = A.length := by rw [← hRA, List.length_map]
  have hb5 := (hF.kn (r5, T0.flatMap Ent.cells, 75) (by simp)).1
  have hb3 := (hF.kn (r3, gV gone, 81) (by simp)).1
  refine gone_k hb3 hb5 hl hgn ?_
  refine laid_k hp kJ hF hl hg hc hlen fun w1 hF => ?_
  have hl1 : (laidT T T0 (cs.map (·.p))).length = 64 := by rw [laidT_len, hl]
  generalize laidT T T0 (cs.map (·.p)) = T1 at hF hes hl1
  have hl5 : (T1.flatMap Ent.cells).length = 512 := by rw [fl_lenN Ent.cells_length, hl1]
  refine Bn.ldG hF 0 rfl hl5 ?_
  have hb3 := (hF.kn (r3, gV gone, 81) (by simp)).1
  refine out_k hb3 hl1 fun p9 c9 w16 hx16 hrow9 => dr_i ?_
  rw [hes] at hrow9 ⊢
  have hG := hF.to hx16
  have hX16 := hX.ext hG.all fun _ _ h => h
  have hsz := hF.all.size
  refine rput_k (s := ⟨tick, p9, c9, es⟩) hX16 hrow9.reads (fun a ha => ?_) (by omega) fun p10 c10 w17 hX17 hx17 hm17 => lv_i (lv_i ?_)
  · have h1 := hrow9.at ha
    have h2 := blk_lt hX.blk
    refine ⟨h1.2, by omega, fun b hb => ?_⟩
    have := (hX.row.at hb).2
    omega
  have hsz16 := hG.all.size
  have hx017 : Ext (rB q p0 R) w0 w17 := (Ext.of_no hG.all).trans (hx17.mono fun k _ hk => hk.elim .inl fun h => .inr (.inl h))
  have hRJ : RJ q [] 66 (lastR (A ++ [(tick, es)])) (rB q p10 (lastR (R ++ [⟨tick, p9, c9, es⟩]))) w17 := by
    refine ⟨p10, c10, _, rfl, hX17, ?_⟩
    rw [lastR_map, List.map_append, hRA]
    rfl
  refine hQ _ (hS0.act hlt hna hm ho RJ.kp hRJ hx017 hX17.lt ?_)
  rintro k hk (rfl | ⟨a, ha, rfl⟩ | ⟨s, hs, a, ha, rfl⟩)
  · exact .inl rfl
  · rcases hm17 with rfl | hm17
    · exact .inr (.inl ⟨a, ha, rfl⟩)
    · have := hm17 a ha
      omega
  · rcases List.mem_append.1 (lastR_sub hs) with hs | hs
    · exact .inr (.inr ⟨s, hs, a, ha, rfl⟩)
    · obtain rfl := List.mem_singleton.1 hs
      have := (hrow9.at ha).1
      omega

set_option maxHeartbeats 6400000 in
theorem fin_k (hp : Pts w0) {q : Nat} {A : List (Int × List Ent)} (hS0 : Bn w00 B w0 w0 [] (RJ q [] 66 A)) (hA : SOk A) {r3 r5 r10 c : Nat} {pr : Option Addr} {b : Option (List Ent)} {es : List Ent}
    (hb0 : okV (-1) (b.getD []) = true) (hes : okV (-1) es = true) (hI : ∀ e ∈ es, e.I)
    (hF : Bn w0 no w0 w [(r5, (List.replicate 64 Ent.zero).flatMap Ent.cells, 75), (r3, gV (fun p => decide (p ∈ goneL (tab (b.getD [])) (tab es) 64)), 81)] (Pj (DJ r10 []) (RwJ 90 10 pr c (chgs (tab (b.getD [])) (tab es)).length ((chgs (tab (b.getD [])) (tab es)).flatMap Chg.cells))))
    {tick acked whole less : Int} (ht : 0 ≤ tick ∧ tick < 1099511627776) (hw : (b = none ∧ whole = 1) ∨ (b.isSome = true ∧ whole = 0 ∧ less = tick - acked ∧ acked < tick ∧ 0 ≤ acked ∧ ∀ x ∈ A, x.1 = acked → x.2 = b.getD []))
    {n : Nat} (hn : (chgs (tab (b.getD [])) (tab es)).length = n) {Q : Value → World → Prop}
    (hQ1 : applyE A tick acked b ≠ 0 → ∀ w', Ext no w0 w' → Q (.tuple #[.int .i64 0, .int .i64 (applyE A tick acked b)]) w')
    (hQ0 : applyE A tick acked b = 0 → ∀ w', Bn w00 B w0 w' [] (RJ q [] 66 (lastR (A ++ [(tick, es)]))) → Q (.tuple #[.int .i64 tick, .int .i64 0]) w') :
    (jn (fun s182 w183 => asB (s182.getD 0 undef) fun b192 => (cond b192 (lp [] w183 fun J195 s193 w194 => (lv (0 : Int) fun y196 => (lv (220 : Int) fun y197 => 
(Q (.tuple #[(.int .i64 y196), (.int .i64 y197)]) w194)))) (dr (some ⟨q, 0, none⟩) fun a198 => (ld w183 a198 fun v199 => asS v199 fun p200 n201 c202 => (lv (n201 : Int) fun k_203 => 
(jn (fun s204 w205 => asB (s204.getD 0 undef) fun b215 => (cond b215 (lv (0 : Int) fun y216 => (lv (71 : Int) fun y217 => 
(Q (.tuple #[(.int .i64 y216), (.int .i64 y217)]) w205))) 
(cond (!(whole == (1 : Int))) (dr (some ⟨q, 0, none⟩) fun a218 => (ld w205 a218 fun v219 => asS v219 fun p220 n221 c222 => (cl Tryd.prog 27 #[(.slice p220 n221 c222), (.int .i64 (IntKind.wrap .i64 (tick - less)))] w205 fun v223 w224 => asT 2 v223 fun t225 => asA 2 (t225 0) fun a226 => asI .i64 (a226 0) fun x227 => asS (a226 1) fun p228 n229 c230 => asB (t225 1) fun b231 => (nw w224 (.cells #[(.int .i64 (0 : Int)), (.slice none 0 0)] 68) fun r232 w233 => (st w233 (⟨r232, 0, none⟩ : Addr) (.int .i64 x227) fun w234 => (st w234 (Addr.add (⟨r232, 0, none⟩ : Addr) 1) (.slice p228 n229 c230) fun w235 => 

(cond (less == (0 : Int)) (lp [] w235 fun J238 s236 w237 => (lv (0 : Int) fun y239 => (lv (220 : Int) fun y240 => 
(Q (.tuple #[(.int .i64 y239), (.int .i64 y240)]) w237)))) 

(cond (!b231) (lv (0 : Int) fun y241 => (lv (181 : Int) fun y242 => 
(Q (.tuple #[(.int .i64 y241), (.int .i64 y242)]) w235))) 
(ld w235 (Addr.add (⟨r232, 0, none⟩ : Addr) 1) fun v243 => asS v243 fun p244 n245 c246 => (cl Tryd.prog 28 #[(.slice p244 n245 c246)] w235 fun v247 w248 => (cond (Nat.beq (List.length (cellsL v247)) 512) (stCells (⟨r5, 0, none⟩ : Addr) (cellsL v247) 0 w248 fun w249 => 
(lp [(.int .i64 (0 : Int))] w249 fun J252 s250 w251 => asI .i64 (s250.getD 0 undef) fun x253 => 
(cond (decide (x253 < (64 : Int))) 
(lv x253 fun p_254 => 
(jn (fun s255 w256 => asB (s255.getD 0 undef) fun b262 => (cond b262 (lp [] w256 fun J265 s263 w264 => (lv (0 : Int) fun y266 => (lv (220 : Int) fun y267 => 
(Q (.tuple #[(.int .i64 y266), (.int .i64 y267)]) w264)))) 
(J252 [(.int .i64 (IntKind.wrap .i64 (x253 + (1 : Int))))] w256)))
 (fun J257 => (bnd p_254 64 (ld w251 (Addr.add (⟨r3, 0, none⟩ : Addr) (Int.toNat p_254 * 1)) fun v258 => asB v258 fun b259 => (cond b259 (bnd p_254 64 (ld w251 (Addr.add (⟨r5, 0, none⟩ : Addr) (Int.toNat p_254 * 8)) fun v260 => asI .i64 v260 fun x261 => (J257 [(.bool (x261 == (0 : Int)))] w251))) (J257 [(.bool false)] w251))))))) 
(lp [(.int .i64 (0 : Int))] w251 fun J270 s268 w269 => asI .i64 (s268.getD 0 undef) fun x271 => 
(cond (decide (x271 < (n : Int))) 
(dr pr fun a272 => (bnd x271 n (ld w269 (Addr.add a272 (Int.toNat x271 * 10)) fun v273 => asI .i64 v273 fun x274 => (ld w269 (Addr.add (Addr.add a272 (Int.toNat x271 * 10)) 1) fun v275 => asI .i64 v275 fun x276 => (ld w269 (Addr.add (Addr.add a272 (Int.toNat x271 * 10)) 2) fun v277 => asI .i64 v277 fun x278 => (ld w269 (Addr.add (Addr.add a272 (Int.toNat x271 * 10)) 3) fun v279 => asI .i64 v279 fun x280 => (ld w269 (Addr.add (Addr.add a272 (Int.toNat x271 * 10)) 4) fun v281 => asI .i64 v281 fun x282 => (ld w269 (Addr.add (Addr.add a272 (Int.toNat x271 * 10)) 5) fun v283 => asI .i64 v283 fun x284 => (ld w269 (Addr.add (Addr.add a272 (Int.toNat x271 * 10)) 6) fun v285 => asI .i64 v285 fun x286 => (ld w269 (Addr.add (Addr.add a272 (Int.toNat x271 * 10)) 7) fun v287 => asI .i64 v287 fun x288 => (ld w269 (Addr.add (Addr.add a272 (Int.toNat x271 * 10)) 8) fun v289 => asI .i64 v289 fun x290 => (ld w269 (Addr.add (Addr.add a272 (Int.toNat x271 * 10)) 9) fun v291 => asB v291 fun b292 => (nw w269 (.cells #[(.int .i64 (0 : Int)), (.int .i64 (0 : Int)), (.int .i64 (0 : Int)), (.int .i64 (0 : Int)), (.int .i64 (0 : Int)), (.int .i64 (0 : Int)), (.int .i64 (0 : Int)), (.int .i64 (0 : Int)), (.int .i64 (0 : Int)), (.bool false)] 90) fun r293 w294 => (st w294 (⟨r293, 0, none⟩ : Addr) (.int .i64 x274) fun w295 => (st w295 (Addr.add (⟨r293, 0, none⟩ : Addr) 1) (.int .i64 x276) fun w296 => (st w296 (Addr.add (⟨r293, 0, none⟩ : Addr) 2) (.int .i64 x278) fun w297 => (st w297 (Addr.add (⟨r293, 0, none⟩ : Addr) 3) (.int .i64 x280) fun w298 => (st w298 (Addr.add (⟨r293, 0, none⟩ : Addr) 4) (.int .i64 x282) fun w299 => (st w299 (Addr.add (⟨r293, 0, none⟩ : Addr) 5) (.int .i64 x284) fun w300 => (st w300 (Addr.add (⟨r293, 0, none⟩ : Addr) 6) (.int .i64 x286) fun w301 => (st w301 (Addr.add (⟨r293, 0, none⟩ : Addr) 7) (.int .i64 x288) fun w302 => (st w302 (Addr.add (⟨r293, 0, none⟩ : Addr) 8) (.int .i64 x290) fun w303 => (st w303 (Addr.add (⟨r293, 0, none⟩ : Addr) 9) (.bool b292) fun w304 => 
(ld w304 (⟨r293, 0, none⟩ : Addr) fun v305 => asI .i64 v305 fun x306 => (ld w304 (Addr.add (⟨r293, 0, none⟩ : Addr) 1) fun v307 => asI .i64 v307 fun x308 => (ld w304 (Addr.add (⟨r293, 0, none⟩ : Addr) 2) fun v309 => asI .i64 v309 fun x310 => (ld w304 (Addr.add (⟨r293, 0, none⟩ : Addr) 3) fun v311 => asI .i64 v311 fun x312 => (ld w304 (Addr.add (⟨r293, 0, none⟩ : Addr) 4) fun v313 => asI .i64 v313 fun x314 => (ld w304 (Addr.add (⟨r293, 0, none⟩ : Addr) 5) fun v315 => asI .i64 v315 fun x316 => (ld w304 (Addr.add (⟨r293, 0, none⟩ : Addr) 6) fun v317 => asI .i64 v317 fun x318 => (ld w304 (Addr.add (⟨r293, 0, none⟩ : Addr) 7) fun v319 => asI .i64 v319 fun x320 => (cl Tryd.prog 37 #[(.agg #[(.int .i64 x306), (.int .i64 x308), (.int .i64 x310), (.int .i64 x312), (.int .i64 x314), (.int .i64 x316), (.int .i64 x318), (.int .i64 x320)])] w304 fun v321 w322 => asI .i64 v321 fun x323 => (lv x323 fun p_324 => 
(bnd p_324 64 (ld w322 (Addr.add (⟨r5, 0, none⟩ : Addr) (Int.toNat p_324 * 8)) fun v325 => asI .i64 v325 fun x326 => (lv x326 fun old_327 => 
(jn (fun s328 w329 => asB (s328.getD 0 undef) fun b341 => (cond b341 (lp [] w329 fun J344 s342 w343 => (lv (0 : Int) fun y345 => (lv (220 : Int) fun y346 => 
(Q (.tuple #[(.int .i64 y345), (.int .i64 y346)]) w343)))) 
(dw w329 fun w347 => (ld w347 (⟨r293, 0, none⟩ : Addr) fun v348 => asI .i64 v348 fun x349 => (ld w347 (Addr.add (⟨r293, 0, none⟩ : Addr) 1) fun v350 => asI .i64 v350 fun x351 => (ld w347 (Addr.add (⟨r293, 0, none⟩ : Addr) 2) fun v352 => asI .i64 v352 fun x353 => (ld w347 (Addr.add (⟨r293, 0, none⟩ : Addr) 3) fun v354 => asI .i64 v354 fun x355 => (ld w347 (Addr.add (⟨r293, 0, none⟩ : Addr) 4) fun v356 => asI .i64 v356 fun x357 => (ld w347 (Addr.add (⟨r293, 0, none⟩ : Addr) 5) fun v358 => asI .i64 v358 fun x359 => (ld w347 (Addr.add (⟨r293, 0, none⟩ : Addr) 6) fun v360 => asI .i64 v360 fun x361 => (ld w347 (Addr.add (⟨r293, 0, none⟩ : Addr) 7) fun v362 => asI .i64 v362 fun x363 => (ld w347 (Addr.add (⟨r293, 0, none⟩ : Addr) 8) fun v364 => asI .i64 v364 fun x365 => (ld w347 (Addr.add (⟨r293, 0, none⟩ : Addr) 9) fun v366 => asB v366 fun b367 => (bnd p_324 64 (ld w347 (Addr.add (⟨r5, 0, none⟩ : Addr) (Int.toNat p_324 * 8)) fun v368 => asI .i64 v368 fun x369 => (ld w347 (Addr.add (Addr.add (⟨r5, 0, none⟩ : Addr) (Int.toNat p_324 * 8)) 1) fun v370 => asI .i64 v370 fun x371 => (ld w347 (Addr.add (Addr.add (⟨r5, 0, none⟩ : Addr) (Int.toNat p_324 * 8)) 2) fun v372 => asI .i64 v372 fun x373 => (ld w347 (Addr.add (Addr.add (⟨r5, 0, none⟩ : Addr) (Int.toNat p_324 * 8)) 3) fun v374 => asI .i64 v374 fun x375 => (ld w347 (Addr.add (Addr.add (⟨r5, 0, none⟩ : Addr) (Int.toNat p_324 * 8)) 4) fun v376 => asI .i64 v376 fun x377 => (ld w347 (Addr.add (Addr.add (⟨r5, 0, none⟩ : Addr) (Int.toNat p_324 * 8)) 5) fun v378 => asI .i64 v378 fun x379 => (ld w347 (Addr.add (Addr.add (⟨r5, 0, none⟩ : Addr) (Int.toNat p_324 * 8)) 6) fun v380 => asI .i64 v380 fun x381 => (ld w347 (Addr.add (Addr.add (⟨r5, 0, none⟩ : Addr) (Int.toNat p_324 * 8)) 7) fun v382 => asI .i64 v382 fun x383 => (cl Tryd.prog 39 #[(.agg #[(.int .i64 x349), (.int .i64 x351), (.int .i64 x353), (.int .i64 x355), (.int .i64 x357), (.int .i64 x359), (.int .i64 x361), (.int .i64 x363), (.int .i64 x365), (.bool b367)]), (.agg #[(.int .i64 x369), (.int .i64 x371), (.int .i64 x373), (.int .i64 x375), (.int .i64 x377), (.int .i64 x379), (.int .i64 x381), (.int .i64 x383)])] w347 fun v384 w385 => asA 8 v384 fun a386 => asI .i64 (a386 0) fun x387 => asI .i64 (a386 1) fun x388 => asI .i64 (a386 2) fun x389 => asI .i64 (a386 3) fun x390 => asI .i64 (a386 4) fun x391 => asI .i64 (a386 5) fun x392 => asI .i64 (a386 6) fun x393 => asI .i64 (a386 7) fun x394 => (bnd p_324 64 (st w385 (Addr.add (⟨r5, 0, none⟩ : Addr) (Int.toNat p_324 * 8)) (.int .i64 x387) fun w395 => (st w395 (Addr.add (Addr.add (⟨r5, 0, none⟩ : Addr) (Int.toNat p_324 * 8)) 1) (.int .i64 x388) fun w396 => (st w396 (Addr.add (Addr.add (⟨r5, 0, none⟩ : Addr) (Int.toNat p_324 * 8)) 2) (.int .i64 x389) fun w397 => (st w397 (Addr.add (Addr.add (⟨r5, 0, none⟩ : Addr) (Int.toNat p_324 * 8)) 3) (.int .i64 x390) fun w398 => (st w398 (Addr.add (Addr.add (⟨r5, 0, none⟩ : Addr) (Int.toNat p_324 * 8)) 4) (.int .i64 x391) fun w399 => (st w399 (Addr.add (Addr.add (⟨r5, 0, none⟩ : Addr) (Int.toNat p_324 * 8)) 5) (.int .i64 x392) fun w400 => (st w400 (Addr.add (Addr.add (⟨r5, 0, none⟩ : Addr) (Int.toNat p_324 * 8)) 6) (.int .i64 x393) fun w401 => (st w401 (Addr.add (Addr.add (⟨r5, 0, none⟩ : Addr) (Int.toNat p_324 * 8)) 7) (.int .i64 x394) fun w402 => 
(J270 [(.int .i64 (IntKind.wrap .i64 (x271 + (1 : Int))))] w402)))))))))))))))))))))))))))))))))
 (fun J330 => (bnd p_324 64 (ld w322 (Addr.add (⟨r3, 0, none⟩ : Addr) (Int.toNat p_324 * 1)) fun v331 => asB v331 fun b332 => (cond b332 (J330 [(.bool true)] w322) (ld w322 (Addr.add (⟨r293, 0, none⟩ : Addr) 9) fun v333 => asB v333 fun b334 => (cond b334 (ld w322 (⟨r293, 0, none⟩ : Addr) fun v335 => asI .i64 v335 fun x336 => (cond (old_327 == x336) (J330 [(.bool true)] w322) (ld w322 (Addr.add (⟨r293, 0, none⟩ : Addr) 9) fun v337 => asB v337 fun b338 => (cond (!b338) (J330 [(.bool (old_327 == (0 : Int)))] w322) (J330 [(.bool false)] w322))))) (ld w322 (Addr.add (⟨r293, 0, none⟩ : Addr) 9) fun v339 => asB v339 fun b340 => (cond (!b340) (J330 [(.bool (old_327 == (0 : Int)))] w322) (J330 [(.bool false)] w322)))))))))))))))))))))))))))))))))))))))))))))) (ldG Tryd.prog w269 (⟨r5, 0, none⟩ : Addr) 512 fun l403 => 
(lp [(.slice none 0 0), (.int .i64 (0 : Int))] w269 fun J406 s404 w405 => asS (s404.getD 0 undef) fun p407 n408 c409 => asI .i64 (s404.getD 1 undef) fun x410 => 
(cond (decide (x410 < (64 : Int))) 
(jn (fun s411 w412 => asS (s411.getD 0 undef) fun p465 n466 c467 => (J406 [(.slice p465 n466 c467), (.int .i64 (IntKind.wrap .i64 (x410 + (1 : Int))))] w412))
 (fun J413 => (bnd x410 64 (asA 8 (.agg (Array.extract ((List.toArray l403) : Array Value) (Int.toNat x410 * 8) (Int.toNat x410 * 8 + 8))) fun a414 => asI .i64 (a414 0) fun x415 => asI .i64 (a414 1) fun x416 => asI .i64 (a414 2) fun x417 => asI .i64 (a414 3) fun x418 => asI .i64 (a414 4) fun x419 => asI .i64 (a414 5) fun x420 => asI .i64 (a414 6) fun x421 => asI .i64 (a414 7) fun x422 => (nw w405 (.cells #[(.int .i64 (0 : Int)), (.int .i64 (0 : Int)), (.int .i64 (0 : Int)), (.int .i64 (0 : Int)), (.int .i64 (0 : Int)), (.int .i64 (0 : Int)), (.int .i64 (0 : Int)), (.int .i64 (0 : Int))] 59) fun r423 w424 => (lv x410 fun p_425 => (st w424 (⟨r423, 0, none⟩ : Addr) (.int .i64 x415) fun w426 => (st w426 (Addr.add (⟨r423, 0, none⟩ : Addr) 1) (.int .i64 x416) fun w427 => (st w427 (Addr.add (⟨r423, 0, none⟩ : Addr) 2) (.int .i64 x417) fun w428 => (st w428 (Addr.add (⟨r423, 0, none⟩ : Addr) 3) (.int .i64 x418) fun w429 => (st w429 (Addr.add (⟨r423, 0, none⟩ : Addr) 4) (.int .i64 x419) fun w430 => (st w430 (Addr.add (⟨r423, 0, none⟩ : Addr) 5) (.int .i64 x420) fun w431 => (st w431 (Addr.add (⟨r423, 0, none⟩ : Addr) 6) (.int .i64 x421) fun w432 => (st w432 (Addr.add (⟨r423, 0, none⟩ : Addr) 7) (.int .i64 x422) fun w433 => 
(jn (fun s434 w435 => asB (s434.getD 0 undef) fun b441 => (cond b441 (ld w435 (⟨r423, 0, none⟩ : Addr) fun v442 => asI .i64 v442 fun x443 => (ld w435 (Addr.add (⟨r423, 0, none⟩ : Addr) 1) fun v444 => asI .i64 v444 fun x445 => (ld w435 (Addr.add (⟨r423, 0, none⟩ : Addr) 2) fun v446 => asI .i64 v446 fun x447 => (ld w435 (Addr.add (⟨r423, 0, none⟩ : Addr) 3) fun v448 => asI .i64 v448 fun x449 => (ld w435 (Addr.add (⟨r423, 0, none⟩ : Addr) 4) fun v450 => asI .i64 v450 fun x451 => (ld w435 (Addr.add (⟨r423, 0, none⟩ : Addr) 5) fun v452 => asI .i64 v452 fun x453 => (ld w435 (Addr.add (⟨r423, 0, none⟩ : Addr) 6) fun v454 => asI .i64 v454 fun x455 => (ld w435 (Addr.add (⟨r423, 0, none⟩ : Addr) 7) fun v456 => asI .i64 v456 fun x457 => (nw w435 (.cells #[(.int .i64 x443), (.int .i64 x445), (.int .i64 x447), (.int .i64 x449), (.int .i64 x451), (.int .i64 x453), (.int .i64 x455), (.int .i64 x457)] 59) fun r458 w459 => (rn Tryd.prog (Builtin.append_ #[30, 30] 30 #[(.slice p407 n408 c409), (.slice (some (⟨r458, 0, none⟩ : Addr)) 1 1)]) w459 fun v460 w461 => asS v460 fun p462 n463 c464 => (J413 [(.slice p462 n463 c464)] w461))))))))))) (J413 [(.slice p407 n408 c409)] w435)))
 (fun J436 => (ld w433 (⟨r423, 0, none⟩ : Addr) fun v437 => asI .i64 v437 fun x438 => (cond (x438 != (0 : Int)) (bnd p_425 64 (ld w433 (Addr.add (⟨r3, 0, none⟩ : Addr) (Int.toNat p_425 * 1)) fun v439 => asB v439 fun b440 => (J436 [(.bool (!b440))] w433))) (J436 [(.bool false)] w433))))))))))))))))))) (dr (some ⟨q, 0, none⟩) fun a468 => (cl Tryd.prog 31 #[(.pointer (some a468)), (.agg #[(.int .i64 tick), (.slice p407 n408 c409)])] w405 fun v469 w470 => (lv tick fun y471 => (lv (0 : Int) fun y472 => 
(Q (.tuple #[(.int .i64 y471), (.int .i64 y472)]) w470))))))))))))) False))))))))))) 
(lp [(.int .i64 (0 : Int))] w205 fun J475 s473 w474 => asI .i64 (s473.getD 0 undef) fun x476 => 
(cond (decide (x476 < (64 : Int))) 
(lv x476 fun p_477 => 
(jn (fun s478 w479 => asB (s478.getD 0 undef) fun b485 => (cond b485 (lp [] w479 fun J488 s486 w487 => (lv (0 : Int) fun y489 => (lv (220 : Int) fun y490 => 
(Q (.tuple #[(.int .i64 y489), (.int .i64 y490)]) w487)))) 
(J475 [(.int .i64 (IntKind.wrap .i64 (x476 + (1 : Int))))] w479)))
 (fun J480 => (bnd p_477 64 (ld w474 (Addr.add (⟨r3, 0, none⟩ : Addr) (Int.toNat p_477 * 1)) fun v481 => asB v481 fun b482 => (cond b482 (bnd p_477 64 (ld w474 (Addr.add (⟨r5, 0, none⟩ : Addr) (Int.toNat p_477 * 8)) fun v483 => asI .i64 v483 fun x484 => (J480 [(.bool (x484 == (0 : Int)))] w474))) (J480 [(.bool false)] w474))))))) 
(lp [(.int .i64 (0 : Int))] w474 fun J493 s491 w492 => asI .i64 (s491.getD 0 undef) fun x494 => 
(cond (decide (x494 < (n : Int))) 
(dr pr fun a495 => (bnd x494 n (ld w492 (Addr.add a495 (Int.toNat x494 * 10)) fun v496 => asI .i64 v496 fun x497 => (ld w492 (Addr.add (Addr.add a495 (Int.toNat x494 * 10)) 1) fun v498 => asI .i64 v498 fun x499 => (ld w492 (Addr.add (Addr.add a495 (Int.toNat x494 * 10)) 2) fun v500 => asI .i64 v500 fun x501 => (ld w492 (Addr.add (Addr.add a495 (Int.toNat x494 * 10)) 3) fun v502 => asI .i64 v502 fun x503 => (ld w492 (Addr.add (Addr.add a495 (Int.toNat x494 * 10)) 4) fun v504 => asI .i64 v504 fun x505 => (ld w492 (Addr.add (Addr.add a495 (Int.toNat x494 * 10)) 5) fun v506 => asI .i64 v506 fun x507 => (ld w492 (Addr.add (Addr.add a495 (Int.toNat x494 * 10)) 6) fun v508 => asI .i64 v508 fun x509 => (ld w492 (Addr.add (Addr.add a495 (Int.toNat x494 * 10)) 7) fun v510 => asI .i64 v510 fun x511 => (ld w492 (Addr.add (Addr.add a495 (Int.toNat x494 * 10)) 8) fun v512 => asI .i64 v512 fun x513 => (ld w492 (Addr.add (Addr.add a495 (Int.toNat x494 * 10)) 9) fun v514 => asB v514 fun b515 => (nw w492 (.cells #[(.int .i64 (0 : Int)), (.int .i64 (0 : Int)), (.int .i64 (0 : Int)), (.int .i64 (0 : Int)), (.int .i64 (0 : Int)), (.int .i64 (0 : Int)), (.int .i64 (0 : Int)), (.int .i64 (0 : Int)), (.int .i64 (0 : Int)), (.bool false)] 90) fun r516 w517 => (st w517 (⟨r516, 0, none⟩ : Addr) (.int .i64 x497) fun w518 => (st w518 (Addr.add (⟨r516, 0, none⟩ : Addr) 1) (.int .i64 x499) fun w519 => (st w519 (Addr.add (⟨r516, 0, none⟩ : Addr) 2) (.int .i64 x501) fun w520 => (st w520 (Addr.add (⟨r516, 0, none⟩ : Addr) 3) (.int .i64 x503) fun w521 => (st w521 (Addr.add (⟨r516, 0, none⟩ : Addr) 4) (.int .i64 x505) fun w522 => (st w522 (Addr.add (⟨r516, 0, none⟩ : Addr) 5) (.int .i64 x507) fun w523 => (st w523 (Addr.add (⟨r516, 0, none⟩ : Addr) 6) (.int .i64 x509) fun w524 => (st w524 (Addr.add (⟨r516, 0, none⟩ : Addr) 7) (.int .i64 x511) fun w525 => (st w525 (Addr.add (⟨r516, 0, none⟩ : Addr) 8) (.int .i64 x513) fun w526 => (st w526 (Addr.add (⟨r516, 0, none⟩ : Addr) 9) (.bool b515) fun w527 => 
(ld w527 (⟨r516, 0, none⟩ : Addr) fun v528 => asI .i64 v528 fun x529 => (ld w527 (Addr.add (⟨r516, 0, none⟩ : Addr) 1) fun v530 => asI .i64 v530 fun x531 => (ld w527 (Addr.add (⟨r516, 0, none⟩ : Addr) 2) fun v532 => asI .i64 v532 fun x533 => (ld w527 (Addr.add (⟨r516, 0, none⟩ : Addr) 3) fun v534 => asI .i64 v534 fun x535 => (ld w527 (Addr.add (⟨r516, 0, none⟩ : Addr) 4) fun v536 => asI .i64 v536 fun x537 => (ld w527 (Addr.add (⟨r516, 0, none⟩ : Addr) 5) fun v538 => asI .i64 v538 fun x539 => (ld w527 (Addr.add (⟨r516, 0, none⟩ : Addr) 6) fun v540 => asI .i64 v540 fun x541 => (ld w527 (Addr.add (⟨r516, 0, none⟩ : Addr) 7) fun v542 => asI .i64 v542 fun x543 => (cl Tryd.prog 37 #[(.agg #[(.int .i64 x529), (.int .i64 x531), (.int .i64 x533), (.int .i64 x535), (.int .i64 x537), (.int .i64 x539), (.int .i64 x541), (.int .i64 x543)])] w527 fun v544 w545 => asI .i64 v544 fun x546 => (lv x546 fun p_547 => 
(bnd p_547 64 (ld w545 (Addr.add (⟨r5, 0, none⟩ : Addr) (Int.toNat p_547 * 8)) fun v548 => asI .i64 v548 fun x549 => (lv x549 fun old_550 => 
(jn (fun s551 w552 => asB (s551.getD 0 undef) fun b564 => (cond b564 (lp [] w552 fun J567 s565 w566 => (lv (0 : Int) fun y568 => (lv (220 : Int) fun y569 => 
(Q (.tuple #[(.int .i64 y568), (.int .i64 y569)]) w566)))) 
(dw w552 fun w570 => (ld w570 (⟨r516, 0, none⟩ : Addr) fun v571 => asI .i64 v571 fun x572 => (ld w570 (Addr.add (⟨r516, 0, none⟩ : Addr) 1) fun v573 => asI .i64 v573 fun x574 => (ld w570 (Addr.add (⟨r516, 0, none⟩ : Addr) 2) fun v575 => asI .i64 v575 fun x576 => (ld w570 (Addr.add (⟨r516, 0, none⟩ : Addr) 3) fun v577 => asI .i64 v577 fun x578 => (ld w570 (Addr.add (⟨r516, 0, none⟩ : Addr) 4) fun v579 => asI .i64 v579 fun x580 => (ld w570 (Addr.add (⟨r516, 0, none⟩ : Addr) 5) fun v581 => asI .i64 v581 fun x582 => (ld w570 (Addr.add (⟨r516, 0, none⟩ : Addr) 6) fun v583 => asI .i64 v583 fun x584 => (ld w570 (Addr.add (⟨r516, 0, none⟩ : Addr) 7) fun v585 => asI .i64 v585 fun x586 => (ld w570 (Addr.add (⟨r516, 0, none⟩ : Addr) 8) fun v587 => asI .i64 v587 fun x588 => (ld w570 (Addr.add (⟨r516, 0, none⟩ : Addr) 9) fun v589 => asB v589 fun b590 => (bnd p_547 64 (ld w570 (Addr.add (⟨r5, 0, none⟩ : Addr) (Int.toNat p_547 * 8)) fun v591 => asI .i64 v591 fun x592 => (ld w570 (Addr.add (Addr.add (⟨r5, 0, none⟩ : Addr) (Int.toNat p_547 * 8)) 1) fun v593 => asI .i64 v593 fun x594 => (ld w570 (Addr.add (Addr.add (⟨r5, 0, none⟩ : Addr) (Int.toNat p_547 * 8)) 2) fun v595 => asI .i64 v595 fun x596 => (ld w570 (Addr.add (Addr.add (⟨r5, 0, none⟩ : Addr) (Int.toNat p_547 * 8)) 3) fun v597 => asI .i64 v597 fun x598 => (ld w570 (Addr.add (Addr.add (⟨r5, 0, none⟩ : Addr) (Int.toNat p_547 * 8)) 4) fun v599 => asI .i64 v599 fun x600 => (ld w570 (Addr.add (Addr.add (⟨r5, 0, none⟩ : Addr) (Int.toNat p_547 * 8)) 5) fun v601 => asI .i64 v601 fun x602 => (ld w570 (Addr.add (Addr.add (⟨r5, 0, none⟩ : Addr) (Int.toNat p_547 * 8)) 6) fun v603 => asI .i64 v603 fun x604 => (ld w570 (Addr.add (Addr.add (⟨r5, 0, none⟩ : Addr) (Int.toNat p_547 * 8)) 7) fun v605 => asI .i64 v605 fun x606 => (cl Tryd.prog 39 #[(.agg #[(.int .i64 x572), (.int .i64 x574), (.int .i64 x576), (.int .i64 x578), (.int .i64 x580), (.int .i64 x582), (.int .i64 x584), (.int .i64 x586), (.int .i64 x588), (.bool b590)]), (.agg #[(.int .i64 x592), (.int .i64 x594), (.int .i64 x596), (.int .i64 x598), (.int .i64 x600), (.int .i64 x602), (.int .i64 x604), (.int .i64 x606)])] w570 fun v607 w608 => asA 8 v607 fun a609 => asI .i64 (a609 0) fun x610 => asI .i64 (a609 1) fun x611 => asI .i64 (a609 2) fun x612 => asI .i64 (a609 3) fun x613 => asI .i64 (a609 4) fun x614 => asI .i64 (a609 5) fun x615 => asI .i64 (a609 6) fun x616 => asI .i64 (a609 7) fun x617 => (bnd p_547 64 (st w608 (Addr.add (⟨r5, 0, none⟩ : Addr) (Int.toNat p_547 * 8)) (.int .i64 x610) fun w618 => (st w618 (Addr.add (Addr.add (⟨r5, 0, none⟩ : Addr) (Int.toNat p_547 * 8)) 1) (.int .i64 x611) fun w619 => (st w619 (Addr.add (Addr.add (⟨r5, 0, none⟩ : Addr) (Int.toNat p_547 * 8)) 2) (.int .i64 x612) fun w620 => (st w620 (Addr.add (Addr.add (⟨r5, 0, none⟩ : Addr) (Int.toNat p_547 * 8)) 3) (.int .i64 x613) fun w621 => (st w621 (Addr.add (Addr.add (⟨r5, 0, none⟩ : Addr) (Int.toNat p_547 * 8)) 4) (.int .i64 x614) fun w622 => (st w622 (Addr.add (Addr.add (⟨r5, 0, none⟩ : Addr) (Int.toNat p_547 * 8)) 5) (.int .i64 x615) fun w623 => (st w623 (Addr.add (Addr.add (⟨r5, 0, none⟩ : Addr) (Int.toNat p_547 * 8)) 6) (.int .i64 x616) fun w624 => (st w624 (Addr.add (Addr.add (⟨r5, 0, none⟩ : Addr) (Int.toNat p_547 * 8)) 7) (.int .i64 x617) fun w625 => 
(J493 [(.int .i64 (IntKind.wrap .i64 (x494 + (1 : Int))))] w625)))))))))))))))))))))))))))))))))
 (fun J553 => (bnd p_547 64 (ld w545 (Addr.add (⟨r3, 0, none⟩ : Addr) (Int.toNat p_547 * 1)) fun v554 => asB v554 fun b555 => (cond b555 (J553 [(.bool true)] w545) (ld w545 (Addr.add (⟨r516, 0, none⟩ : Addr) 9) fun v556 => asB v556 fun b557 => (cond b557 (ld w545 (⟨r516, 0, none⟩ : Addr) fun v558 => asI .i64 v558 fun x559 => (cond (old_550 == x559) (J553 [(.bool true)] w545) (ld w545 (Addr.add (⟨r516, 0, none⟩ : Addr) 9) fun v560 => asB v560 fun b561 => (cond (!b561) (J553 [(.bool (old_550 == (0 : Int)))] w545) (J553 [(.bool false)] w545))))) (ld w545 (Addr.add (⟨r516, 0, none⟩ : Addr) 9) fun v562 => asB v562 fun b563 => (cond (!b563) (J553 [(.bool (old_550 == (0 : Int)))] w545) (J553 [(.bool false)] w545)))))))))))))))))))))))))))))))))))))))))))))) (ldG Tryd.prog w492 (⟨r5, 0, none⟩ : Addr) 512 fun l626 => 
(lp [(.slice none 0 0), (.int .i64 (0 : Int))] w492 fun J629 s627 w628 => asS (s627.getD 0 undef) fun p630 n631 c632 => asI .i64 (s627.getD 1 undef) fun x633 => 
(cond (decide (x633 < (64 : Int))) 
(jn (fun s634 w635 => asS (s634.getD 0 undef) fun p688 n689 c690 => (J629 [(.slice p688 n689 c690), (.int .i64 (IntKind.wrap .i64 (x633 + (1 : Int))))] w635))
 (fun J636 => (bnd x633 64 (asA 8 (.agg (Array.extract ((List.toArray l626) : Array Value) (Int.toNat x633 * 8) (Int.toNat x633 * 8 + 8))) fun a637 => asI .i64 (a637 0) fun x638 => asI .i64 (a637 1) fun x639 => asI .i64 (a637 2) fun x640 => asI .i64 (a637 3) fun x641 => asI .i64 (a637 4) fun x642 => asI .i64 (a637 5) fun x643 => asI .i64 (a637 6) fun x644 => asI .i64 (a637 7) fun x645 => (nw w628 (.cells #[(.int .i64 (0 : Int)), (.int .i64 (0 : Int)), (.int .i64 (0 : Int)), (.int .i64 (0 : Int)), (.int .i64 (0 : Int)), (.int .i64 (0 : Int)), (.int .i64 (0 : Int)), (.int .i64 (0 : Int))] 59) fun r646 w647 => (lv x633 fun p_648 => (st w647 (⟨r646, 0, none⟩ : Addr) (.int .i64 x638) fun w649 => (st w649 (Addr.add (⟨r646, 0, none⟩ : Addr) 1) (.int .i64 x639) fun w650 => (st w650 (Addr.add (⟨r646, 0, none⟩ : Addr) 2) (.int .i64 x640) fun w651 => (st w651 (Addr.add (⟨r646, 0, none⟩ : Addr) 3) (.int .i64 x641) fun w652 => (st w652 (Addr.add (⟨r646, 0, none⟩ : Addr) 4) (.int .i64 x642) fun w653 => (st w653 (Addr.add (⟨r646, 0, none⟩ : Addr) 5) (.int .i64 x643) fun w654 => (st w654 (Addr.add (⟨r646, 0, none⟩ : Addr) 6) (.int .i64 x644) fun w655 => (st w655 (Addr.add (⟨r646, 0, none⟩ : Addr) 7) (.int .i64 x645) fun w656 => 
(jn (fun s657 w658 => asB (s657.getD 0 undef) fun b664 => (cond b664 (ld w658 (⟨r646, 0, none⟩ : Addr) fun v665 => asI .i64 v665 fun x666 => (ld w658 (Addr.add (⟨r646, 0, none⟩ : Addr) 1) fun v667 => asI .i64 v667 fun x668 => (ld w658 (Addr.add (⟨r646, 0, none⟩ : Addr) 2) fun v669 => asI .i64 v669 fun x670 => (ld w658 (Addr.add (⟨r646, 0, none⟩ : Addr) 3) fun v671 => asI .i64 v671 fun x672 => (ld w658 (Addr.add (⟨r646, 0, none⟩ : Addr) 4) fun v673 => asI .i64 v673 fun x674 => (ld w658 (Addr.add (⟨r646, 0, none⟩ : Addr) 5) fun v675 => asI .i64 v675 fun x676 => (ld w658 (Addr.add (⟨r646, 0, none⟩ : Addr) 6) fun v677 => asI .i64 v677 fun x678 => (ld w658 (Addr.add (⟨r646, 0, none⟩ : Addr) 7) fun v679 => asI .i64 v679 fun x680 => (nw w658 (.cells #[(.int .i64 x666), (.int .i64 x668), (.int .i64 x670), (.int .i64 x672), (.int .i64 x674), (.int .i64 x676), (.int .i64 x678), (.int .i64 x680)] 59) fun r681 w682 => (rn Tryd.prog (Builtin.append_ #[30, 30] 30 #[(.slice p630 n631 c632), (.slice (some (⟨r681, 0, none⟩ : Addr)) 1 1)]) w682 fun v683 w684 => asS v683 fun p685 n686 c687 => (J636 [(.slice p685 n686 c687)] w684))))))))))) (J636 [(.slice p630 n631 c632)] w658)))
 (fun J659 => (ld w656 (⟨r646, 0, none⟩ : Addr) fun v660 => asI .i64 v660 fun x661 => (cond (x661 != (0 : Int)) (bnd p_648 64 (ld w656 (Addr.add (⟨r3, 0, none⟩ : Addr) (Int.toNat p_648 * 1)) fun v662 => asB v662 fun b663 => (J659 [(.bool (!b663))] w656))) (J659 [(.bool false)] w656))))))))))))))))))) (dr (some ⟨q, 0, none⟩) fun a691 => (cl Tryd.prog 31 #[(.pointer (some a691)), (.agg #[(.int .i64 tick), (.slice p630 n631 c632)])] w628 fun v692 w693 => (lv tick fun y694 => (lv (0 : Int) fun y695 => 
(Q (.tuple #[(.int .i64 y694), (.int .i64 y695)]) w693)))))))))))))))
 (fun J206 => (cond (decide (k_203 > (0 : Int))) (dr (some ⟨q, 0, none⟩) fun a207 => (ld w183 a207 fun v208 => asS v208 fun p209 n210 c211 => (dr p209 fun a212 => (bnd (IntKind.wrap .i64 (k_203 - (1 : Int))) n210 (ld w183 (Addr.add a212 (Int.toNat (IntKind.wrap .i64 (k_203 - (1 : Int))) * 2)) fun v213 => asI .i64 v213 fun x214 => (J206 [(.bool (decide (tick ≤ x214)))] w183)))))) (J206 [(.bool false)] w183)))))))))
 (fun J184 => (ld w (Addr.add (⟨r10, 0, none⟩ : Addr) 1) fun v185 => asB v185 fun b186 => (cond b186 (J184 [(.bool true)] w) (ld w (⟨r10, 0, none⟩ : Addr) fun v187 => asP v187 fun p188 => (cl Tryd.prog 38 #[(.pointer p188)] w fun v189 w190 => asB v189 fun b191 => (J184 [(.bool (!b191))] w190))))))) := by
  have hAl := hA.len
  have hlen : (chgs (tab (b.getD [])) (tab es)).length ≤ 64 := by rw [chgs_len]; exact othL_len _ _ _
  have hlays : ∀ c ∈ chgs (tab (b.getD [])) (tab es), c.lays (tab (b.getD [])) (tab es) (fun p => decide (p ∈ goneL (tab (b.getD [])) (tab es) 64)) := fun c hc => by
    obtain ⟨p, hp, rfl⟩ := List.mem_map.1 hc
    exact chg_lays hb0 hes hI hp
  have hout : outV (laidT (tab es) (tab (b.getD [])) ((chgs (tab (b.getD [])) (tab es)).map (·.p))) (fun p => decide (p ∈ goneL (tab (b.getD [])) (tab es) 64)) 64 = es := by rw [chgs_p]; exact outV_view hes
  have hgn : ∀ p, p < 64 → decide (p ∈ goneL (tab (b.getD [])) (tab es) 64) = true → ((tab (b.getD [])).getD p Ent.zero).h ≠ 0 := fun p _ h => gone_there (of_decide_eq_true h)
  have hinc := chgs_inc (tab (b.getD [])) (tab es)
  obtain ⟨B0, hJ0, hlt, hna, hm, ho⟩ := hS0.ex
  obtain ⟨p0, cp, R, -, hX, hRA⟩ := hJ0
  have hRl : R.length = A.length := by rw [← hRA, List.length_map]
  have hq0 : ∀ {w'}, Ext no w0 w' → w'.heap[q]? = some (.cells #[.slice p0 R.length cp] 66 (0, 0)) := fun hx => hx.blk hX.blk (fun h => h)
  obtain ⟨rr, hcell, hdone⟩ := (hF.fstJ DJ.kp).done
  have hwr := (hF.fstJ DJ.kp).wrong
  refine jn_of (fun s w' => s = [.bool false] ∧ Ext no w w') ?_ ?_
  rotate_left
  · intro J2 hJ2
    refine ld_mk (by rw [add_mk]; exact hwr) (asB_i rfl (cond_f rfl (ld_mk hcell (asP_i rfl (hdone fun w2 hx2 => asB_i rfl (hJ2 _ _ ⟨rfl, hx2⟩))))))
  rintro _ w2 ⟨rfl, hx2⟩
  replace hF := hF.to hx2
  clear hcell hdone hwr hx2
  refine asB_i rfl (cond_f rfl (dr_i (ld_mk (by rw [blk_cell (hq0 hF.all)]; rfl) (asS_i rfl (lv_i ?_)))))
  refine jn_of (fun s w' => s = [.bool (lateB A tick)] ∧ w' = w2) ?_ ?_
  rotate_left
  · intro J2 hJ2
    refine cond_split (fun h3 => ?_) (fun h3 => hJ2 _ _ ⟨?_, rfl⟩)
    · have h0 : 0 < R.length := by have := of_decide_eq_true h3; omega
      obtain ⟨s, hs1, hs2⟩ := last_of h0
      refine dr_i (ld_mk (by rw [blk_cell (hq0 hF.all)]; rfl) (asS_i rfl ?_))
      have e1 : IntKind.wrap .i64 ((R.length : Int) - 1) = ((R.length - 1 : Nat) : Int) := by rw [wr64 (by omega) (by omega)]; omega
      rw [e1]
      refine Reads.atN (f := Sh.cells) Sh.cells_length (hX.row.reads.ext hF.all fun _ _ h => h) rfl hs1 (by decide) fun a _ hca => ?_
      have hc0 := hca 0 (by decide)
      rw [Sx.add_zero'] at hc0
      rw [Int.toNat_natCast]
      refine ld_mk hc0 (asI_i rfl (hJ2 _ _ ⟨?_, rfl⟩))
      rw [hRA] at hs2
      simp only [lateB, hs2]
      rfl
    · have h0 : R.length = 0 := by have := of_decide_eq_false h3; omega
      have : A = [] := List.eq_nil_of_length_eq_zero (by omega)
      simp [this, lateB]
  rintro _ w2 ⟨rfl, rfl⟩
  refine asB_i rfl (cond_split (fun hlate => lv_i (lv_i ?_)) (fun hlate => ?_))
  · have e : applyE A tick acked b = 71 := by unfold applyE; rw [if_pos hlate]
    have := hQ1 (by rw [e]; decide) _ hF.all
    rwa [e] at this
  rcases hw with ⟨hbn, rfl⟩ | ⟨hbs, rfl, rfl, hlt2, h0a, hbase⟩
  · refine cond_f rfl ?_
    have e : applyE A tick acked b = 0 := by unfold applyE; rw [if_neg (by simp [hlate]), hbn]; rfl
    have ht0 : (List.replicate 64 Ent.zero) = tab (b.getD []) := by rw [hbn]; rfl
    rw [ht0] at hF
    exact tail_k hp hS0 hA.len DJ.kp hF (tab_len _) hinc hlays hlen hgn hout hn (hQ0 e)
  · refine cond_t rfl (dr_i (ld_mk (by rw [blk_cell (hq0 hF.all)]; rfl) (asS_i rfl ?_)))
    have eb : IntKind.wrap .i64 (tick - (tick - acked)) = acked := by rw [wr64 (by omega) (by omega)]; omega
    rw [eb]
    refine find_k (hX.row.reads.ext hF.all fun _ _ h => h) (by omega) fun w6 hx6 => ?_
    rw [fdV_eq]
    have hff := find_abs R acked
    rw [hRA] at hff
    obtain ⟨f, hf⟩ : ∃ f, f = R.find? fun s => s.t == acked := ⟨_, rfl⟩
    rw [← hf] at hff ⊢
    replace hF := hF.to hx6
    refine asT_i rfl rfl (asA_i rfl rfl (asI_i rfl (asS_i rfl (asB_i rfl ?_))))
    refine hF.nw (cs := [.int .i64 0, .slice none 0 0]) fun rb w7 hF => ?_
    refine hF.st0 0 rfl rfl rfl fun w8 hF => hF.st 0 rfl rfl rfl fun w9 hF => ?_
    refine cond_f (by simp; omega) (cond_split (fun hno => lv_i (lv_i ?_)) (fun his => ?_))
    · have hn' : f = none := by simpa using hno
      have e : applyE A tick acked b = 181 := by unfold applyE; rw [if_neg (by simp [hlate]), hff, hn', hbs]; rfl
      have := hQ1 (by rw [e]; decide) _ hF.all
      rwa [e] at this
    · obtain ⟨s, rfl⟩ : ∃ s, f = some s := by
        cases f with
        | none => cases his
        | some s => exact ⟨s, rfl⟩
      have e : applyE A tick acked b = 0 := by unfold applyE; rw [if_neg (by simp [hlate]), hff]; simp
      have hsR : s ∈ R := List.mem_of_find?_eq_some hf.symm
      have hst : s.t = acked := by simpa using List.find?_some hf.symm
      have habs : s.abs ∈ A := by rw [← hRA]; exact List.mem_map_of_mem hsR
      have hse : s.es = b.getD [] := hbase _ habs hst
      have hsv := (hX.vw s hsR).1.ext hF.all fun _ _ h => h
      refine hF.ld 0 rfl rfl (asS_i rfl ?_)
      have hglen := okV_len hb0 (by decide)
      have hg64 : ∀ e ∈ b.getD [], 64 ≤ e.h := fun e he => (okV_mem hb0 e he).2.1
      show cl Tryd.prog 28 #[.slice s.p s.es.length s.c] _ _
      rw [hse] at hsv ⊢
      refine tabled_k hsv rfl (by omega) (fun e he => by have := hg64 e he; omega) fun w10 hx10 => ?_
      replace hF := hF.to hx10
      rw [cellsL_tab]
      have hl0 := fl_lenN (f := Ent.cells) Ent.cells_length (tab (b.getD []))
      rw [tab_len] at hl0
      refine cond_t (by rw [hl0]; rfl) (Bn.stCells hF 1 rfl (by rw [hl0, fl_lenN Ent.cells_length, List.length_replicate]) (ents_one _) fun w11 hF => ?_)
      exact tail_k hp hS0 hA.len DJ.kp hF.tail (tab_len _) hinc hlays hlen hgn hout hn (hQ0 e)
end
end Go.Proofs.YtfnepdppkmjboaaDoor

/- SnY4: Applier.Apply on a snapshot that was made. Conditions: those of each theorem, on its arguments. -/
namespace Go.Proofs.YtfnepdppkmjboaaDoor
open Go Go.Sx Go.Fp
attribute [local irreducible] jn lv ld st nw asI asB asP asS asY asM asF asA asT lp rn ru rq cl dw dr bnd bn2 nz nn hd hr so eqW
attribute [local irreducible] callOk

theorem zc_bools : zcells Tryd.prog 81 = gV (fun _ => false) := by kernel_rfl

section
variable {w00 : World} {B : Nat → Prop} {w0 w : World}

set_option maxHeartbeats 6400000 in
theorem behind_k (hp : Pts w0) {q : Nat} {A : List (Int × List Ent)} (hS0 : Bn w00 B w0 w0 [] (RJ q [] 66 A)) (hA : SOk A) {r3 r5 r10 : Nat} {b : Option (List Ent)} {es : List Ent}
    (hb0 : okV (-1) (b.getD []) = true) (hes : okV (-1) es = true) (hI : ∀ e ∈ es, e.I)
    (hF : Bn w0 no w0 w [(r5, (List.replicate 64 Ent.zero).flatMap Ent.cells, 75), (r3, gV (fun _ => false), 81)]
      (DJ r10 ((goneL (tab (b.getD [])) (tab es) 64).flatMap (fun p => numBits p 6) ++ (numBits (othL (tab (b.getD [])) (tab es) 64).length 7 ++ (othL (tab (b.getD [])) (tab es) 64).flatMap (entB (tab (b.getD [])) (tab es))))))
    {tick acked whole less : Int} (ht : 0 ≤ tick ∧ tick < 1099511627776) (hw : (b = none ∧ whole = 1) ∨ (b.isSome = true ∧ whole = 0 ∧ less = tick - acked ∧ acked < tick ∧ 0 ≤ acked ∧ ∀ x ∈ A, x.1 = acked → x.2 = b.getD []))
    {n : Int} (hn : n = ((goneL (tab (b.getD [])) (tab es) 64).length : Int)) {bn : Nat} (hbn : bn ≤ 5000) {Q : Value → World → Prop}
    (hQ1 : applyE A tick acked b ≠ 0 → ∀ w', Ext no w0 w' → Q (.tuple #[.int .i64 0, .int .i64 (applyE A tick acked b)]) w')
    (hQ0 : applyE A tick acked b = 0 → ∀ w', Bn w00 B w0 w' [] (RJ q [] 66 (lastR (A ++ [(tick, es)]))) → Q (.tuple #[.int .i64 tick, .int .i64 0]) w') :
    (jn (fun s28 w29 => asB (s28.getD 0 undef) fun b31 => (cond b31 (lp [] w29 fun J34 s32 w33 => (lv (0 : Int) fun y35 => (lv (220 : Int) fun y36 => 
(Q (.tuple #[(.int .i64 y35), (.int .i64 y36)]) w33)))) (lv (-1 : Int) fun last_37 => 
(lp [(.int .i64 n), (.int .i64 last_37)] w29 fun J40 s38 w39 => asI .i64 (s38.getD 0 undef) fun x41 => asI .i64 (s38.getD 1 undef) fun x42 => 
(cond (decide (x41 > (0 : Int))) 
(cl Tryd.prog 35 #[(.pointer (some (⟨r10, 0, none⟩ : Addr))), (.int .i64 (6 : Int))] w39 fun v43 w44 => asI .i64 v43 fun x45 => (lv x45 fun p_46 => 
(jn (fun s47 w48 => asB (s47.getD 0 undef) fun b52 => (cond b52 (lp [] w48 fun J55 s53 w54 => (lv (0 : Int) fun y56 => (lv (220 : Int) fun y57 => 
(Q (.tuple #[(.int .i64 y56), (.int .i64 y57)]) w54)))) 
(lv p_46 fun last_58 => (bnd p_46 64 (st w48 (Addr.add (⟨r3, 0, none⟩ : Addr) (Int.toNat p_46 * 1)) (.bool true) fun w59 => 
(lv (IntKind.wrap .i64 (x41 - (1 : Int))) fun n_60 => (J40 [(.int .i64 n_60), (.int .i64 last_58)] w59)))))))
 (fun J49 => (ld w44 (Addr.add (⟨r10, 0, none⟩ : Addr) 1) fun v50 => asB v50 fun b51 => (cond b51 (J49 [(.bool true)] w44) (J49 [(.bool (decide (p_46 ≤ x42)))] w44))))))) (cl Tryd.prog 35 #[(.pointer (some (⟨r10, 0, none⟩ : Addr))), (.int .i64 (7 : Int))] w39 fun v61 w62 => asI .i64 v61 fun x63 => (lv x63 fun n_64 => 

(cond (decide (n_64 > (64 : Int))) (lp [] w62 fun J67 s65 w66 => (lv (0 : Int) fun y68 => (lv (220 : Int) fun y69 => 
(Q (.tuple #[(.int .i64 y68), (.int .i64 y69)]) w66)))) (lv (-1 : Int) fun last_70 => 
(lp [(.slice none 0 0), (.int .i64 n_64), (.int .i64 last_70)] w62 fun J73 s71 w72 => asS (s71.getD 0 undef) fun p74 n75 c76 => asI .i64 (s71.getD 1 undef) fun x77 => asI .i64 (s71.getD 2 undef) fun x78 => 
(cond (decide (x77 > (0 : Int))) 
(cl Tryd.prog 36 #[(.pointer (some (⟨r10, 0, none⟩ : Addr)))] w72 fun v79 w80 => asA 10 v79 fun a81 => asI .i64 (a81 0) fun x82 => asI .i64 (a81 1) fun x83 => asI .i64 (a81 2) fun x84 => asI .i64 (a81 3) fun x85 => asI .i64 (a81 4) fun x86 => asI .i64 (a81 5) fun x87 => asI .i64 (a81 6) fun x88 => asI .i64 (a81 7) fun x89 => asI .i64 (a81 8) fun x90 => asB (a81 9) fun b91 => (nw w80 (.cells #[(.int .i64 (0 : Int)), (.int .i64 (0 : Int)), (.int .i64 (0 : Int)), (.int .i64 (0 : Int)), (.int .i64 (0 : Int)), (.int .i64 (0 : Int)), (.int .i64 (0 : Int)), (.int .i64 (0 : Int)), (.int .i64 (0 : Int)), (.bool false)] 90) fun r92 w93 => (st w93 (⟨r92, 0, none⟩ : Addr) (.int .i64 x82) fun w94 => (st w94 (Addr.add (⟨r92, 0, none⟩ : Addr) 1) (.int .i64 x83) fun w95 => (st w95 (Addr.add (⟨r92, 0, none⟩ : Addr) 2) (.int .i64 x84) fun w96 => (st w96 (Addr.add (⟨r92, 0, none⟩ : Addr) 3) (.int .i64 x85) fun w97 => (st w97 (Addr.add (⟨r92, 0, none⟩ : Addr) 4) (.int .i64 x86) fun w98 => (st w98 (Addr.add (⟨r92, 0, none⟩ : Addr) 5) (.int .i64 x87) fun w99 => (st w99 (Addr.add (⟨r92, 0, none⟩ : Addr) 6) (.int .i64 x88) fun w100 => (st w100 (Addr.add (⟨r92, 0, none⟩ : Addr) 7) (.int .i64 x89) fun w101 => (st w101 (Addr.add (⟨r92, 0, none⟩ : Addr) 8) (.int .i64 x90) fun w102 => (st w102 (Addr.add (⟨r92, 0, none⟩ : Addr) 9) (.bool b91) fun w103 => 
(jn (fun s104 w105 => asB (s104.getD 0 undef) fun b128 => (cond b128 (lp [] w105 fun J131 s129 w130 => (lv (0 : Int) fun y132 => (lv (220 : Int) fun y133 => 
(Q (.tuple #[(.int .i64 y132), (.int .i64 y133)]) w130)))) 
(ld w105 (⟨r92, 0, none⟩ : Addr) fun v134 => asI .i64 v134 fun x135 => (ld w105 (Addr.add (⟨r92, 0, none⟩ : Addr) 1) fun v136 => asI .i64 v136 fun x137 => (ld w105 (Addr.add (⟨r92, 0, none⟩ : Addr) 2) fun v138 => asI .i64 v138 fun x139 => (ld w105 (Addr.add (⟨r92, 0, none⟩ : Addr) 3) fun v140 => asI .i64 v140 fun x141 => (ld w105 (Addr.add (⟨r92, 0, none⟩ : Addr) 4) fun v142 => asI .i64 v142 fun x143 => (ld w105 (Addr.add (⟨r92, 0, none⟩ : Addr) 5) fun v144 => asI .i64 v144 fun x145 => (ld w105 (Addr.add (⟨r92, 0, none⟩ : Addr) 6) fun v146 => asI .i64 v146 fun x147 => (ld w105 (Addr.add (⟨r92, 0, none⟩ : Addr) 7) fun v148 => asI .i64 v148 fun x149 => (cl Tryd.prog 37 #[(.agg #[(.int .i64 x135), (.int .i64 x137), (.int .i64 x139), (.int .i64 x141), (.int .i64 x143), (.int .i64 x145), (.int .i64 x147), (.int .i64 x149)])] w105 fun v150 w151 => asI .i64 v150 fun x152 => (lv x152 fun last_153 => 
(ld w151 (⟨r92, 0, none⟩ : Addr) fun v154 => asI .i64 v154 fun x155 => (ld w151 (Addr.add (⟨r92, 0, none⟩ : Addr) 1) fun v156 => asI .i64 v156 fun x157 => (ld w151 (Addr.add (⟨r92, 0, none⟩ : Addr) 2) fun v158 => asI .i64 v158 fun x159 => (ld w151 (Addr.add (⟨r92, 0, none⟩ : Addr) 3) fun v160 => asI .i64 v160 fun x161 => (ld w151 (Addr.add (⟨r92, 0, none⟩ : Addr) 4) fun v162 => asI .i64 v162 fun x163 => (ld w151 (Addr.add (⟨r92, 0, none⟩ : Addr) 5) fun v164 => asI .i64 v164 fun x165 => (ld w151 (Addr.add (⟨r92, 0, none⟩ : Addr) 6) fun v166 => asI .i64 v166 fun x167 => (ld w151 (Addr.add (⟨r92, 0, none⟩ : Addr) 7) fun v168 => asI .i64 v168 fun x169 => (ld w151 (Addr.add (⟨r92, 0, none⟩ : Addr) 8) fun v170 => asI .i64 v170 fun x171 => (ld w151 (Addr.add (⟨r92, 0, none⟩ : Addr) 9) fun v172 => asB v172 fun b173 => (nw w151 (.cells #[(.int .i64 x155), (.int .i64 x157), (.int .i64 x159), (.int .i64 x161), (.int .i64 x163), (.int .i64 x165), (.int .i64 x167), (.int .i64 x169), (.int .i64 x171), (.bool b173)] 90) fun r174 w175 => (rn Tryd.prog (Builtin.append_ #[82, 82] 82 #[(.slice p74 n75 c76), (.slice (some (⟨r174, 0, none⟩ : Addr)) 1 1)]) w175 fun v176 w177 => asS v176 fun p178 n179 c180 => 
(lv (IntKind.wrap .i64 (x77 - (1 : Int))) fun n_181 => (J73 [(.slice p178 n179 c180), (.int .i64 n_181), (.int .i64 last_153)] w177))))))))))))))))))))))))))
 (fun J106 => (ld w103 (Addr.add (⟨r10, 0, none⟩ : Addr) 1) fun v107 => asB v107 fun b108 => (cond b108 (J106 [(.bool true)] w103) (ld w103 (⟨r92, 0, none⟩ : Addr) fun v109 => asI .i64 v109 fun x110 => (ld w103 (Addr.add (⟨r92, 0, none⟩ : Addr) 1) fun v111 => asI .i64 v111 fun x112 => (ld w103 (Addr.add (⟨r92, 0, none⟩ : Addr) 2) fun v113 => asI .i64 v113 fun x114 => (ld w103 (Addr.add (⟨r92, 0, none⟩ : Addr) 3) fun v115 => asI .i64 v115 fun x116 => (ld w103 (Addr.add (⟨r92, 0, none⟩ : Addr) 4) fun v117 => asI .i64 v117 fun x118 => (ld w103 (Addr.add (⟨r92, 0, none⟩ : Addr) 5) fun v119 => asI .i64 v119 fun x120 => (ld w103 (Addr.add (⟨r92, 0, none⟩ : Addr) 6) fun v121 => asI .i64 v121 fun x122 => (ld w103 (Addr.add (⟨r92, 0, none⟩ : Addr) 7) fun v123 => asI .i64 v123 fun x124 => (cl Tryd.prog 37 #[(.agg #[(.int .i64 x110), (.int .i64 x112), (.int .i64 x114), (.int .i64 x116), (.int .i64 x118), (.int .i64 x120), (.int .i64 x122), (.int .i64 x124)])] w103 fun v125 w126 => asI .i64 v125 fun x127 => (J106 [(.bool (decide (x127 ≤ x78)))] w126)))))))))))))))))))))))))) (jn (fun s182 w183 => asB (s182.getD 0 undef) fun b192 => (cond b192 (lp [] w183 fun J195 s193 w194 => (lv (0 : Int) fun y196 => (lv (220 : Int) fun y197 => 
(Q (.tuple #[(.int .i64 y196), (.int .i64 y197)]) w194)))) (dr (some ⟨q, 0, none⟩) fun a198 => (ld w183 a198 fun v199 => asS v199 fun p200 n201 c202 => (lv (n201 : Int) fun k_203 => 
(jn (fun s204 w205 => asB (s204.getD 0 undef) fun b215 => (cond b215 (lv (0 : Int) fun y216 => (lv (71 : Int) fun y217 => 
(Q (.tuple #[(.int .i64 y216), (.int .i64 y217)]) w205))) 
(cond (!(whole == (1 : Int))) (dr (some ⟨q, 0, none⟩) fun a218 => (ld w205 a218 fun v219 => asS v219 fun p220 n221 c222 => (cl Tryd.prog 27 #[(.slice p220 n221 c222), (.int .i64 (IntKind.wrap .i64 (tick - less)))] w205 fun v223 w224 => asT 2 v223 fun t225 => asA 2 (t225 0) fun a226 => asI .i64 (a226 0) fun x227 => asS (a226 1) fun p228 n229 c230 => asB (t225 1) fun b231 => (nw w224 (.cells #[(.int .i64 (0 : Int)), (.slice none 0 0)] 68) fun r232 w233 => (st w233 (⟨r232, 0, none⟩ : Addr) (.int .i64 x227) fun w234 => (st w234 (Addr.add (⟨r232, 0, none⟩ : Addr) 1) (.slice p228 n229 c230) fun w235 => 

(cond (less == (0 : Int)) (lp [] w235 fun J238 s236 w237 => (lv (0 : Int) fun y239 => (lv (220 : Int) fun y240 => 
(Q (.tuple #[(.int .i64 y239), (.int .i64 y240)]) w237)))) 

(cond (!b231) (lv (0 : Int) fun y241 => (lv (181 : Int) fun y242 => 
(Q (.tuple #[(.int .i64 y241), (.int .i64 y242)]) w235))) 
(ld w235 (Addr.add (⟨r232, 0, none⟩ : Addr) 1) fun v243 => asS v243 fun p244 n245 c246 => (cl Tryd.prog 28 #[(.slice p244 n245 c246)] w235 fun v247 w248 => (cond (Nat.beq (List.length (cellsL v247)) 512) (stCells (⟨r5, 0, none⟩ : Addr) (cellsL v247) 0 w248 fun w249 => 
(lp [(.int .i64 (0 : Int))] w249 fun J252 s250 w251 => asI .i64 (s250.getD 0 undef) fun x253 => 
(cond (decide (x253 < (64 : Int))) 
(lv x253 fun p_254 => 
(jn (fun s255 w256 => asB (s255.getD 0 undef) fun b262 => (cond b262 (lp [] w256 fun J265 s263 w264 => (lv (0 : Int) fun y266 => (lv (220 : Int) fun y267 => 
(Q (.tuple #[(.int .i64 y266), (.int .i64 y267)]) w264)))) 
(J252 [(.int .i64 (IntKind.wrap .i64 (x253 + (1 : Int))))] w256)))
 (fun J257 => (bnd p_254 64 (ld w251 (Addr.add (⟨r3, 0, none⟩ : Addr) (Int.toNat p_254 * 1)) fun v258 => asB v258 fun b259 => (cond b259 (bnd p_254 64 (ld w251 (Addr.add (⟨r5, 0, none⟩ : Addr) (Int.toNat p_254 * 8)) fun v260 => asI .i64 v260 fun x261 => (J257 [(.bool (x261 == (0 : Int)))] w251))) (J257 [(.bool false)] w251))))))) 
(lp [(.int .i64 (0 : Int))] w251 fun J270 s268 w269 => asI .i64 (s268.getD 0 undef) fun x271 => 
(cond (decide (x271 < (n75 : Int))) 
(dr p74 fun a272 => (bnd x271 n75 (ld w269 (Addr.add a272 (Int.toNat x271 * 10)) fun v273 => asI .i64 v273 fun x274 => (ld w269 (Addr.add (Addr.add a272 (Int.toNat x271 * 10)) 1) fun v275 => asI .i64 v275 fun x276 => (ld w269 (Addr.add (Addr.add a272 (Int.toNat x271 * 10)) 2) fun v277 => asI .i64 v277 fun x278 => (ld w269 (Addr.add (Addr.add a272 (Int.toNat x271 * 10)) 3) fun v279 => asI .i64 v279 fun x280 => (ld w269 (Addr.add (Addr.add a272 (Int.toNat x271 * 10)) 4) fun v281 => asI .i64 v281 fun x282 => (ld w269 (Addr.add (Addr.add a272 (Int.toNat x271 * 10)) 5) fun v283 => asI .i64 v283 fun x284 => (ld w269 (Addr.add (Addr.add a272 (Int.toNat x271 * 10)) 6) fun v285 => asI .i64 v285 fun x286 => (ld w269 (Addr.add (Addr.add a272 (Int.toNat x271 * 10)) 7) fun v287 => asI .i64 v287 fun x288 => (ld w269 (Addr.add (Addr.add a272 (Int.toNat x271 * 10)) 8) fun v289 => asI .i64 v289 fun x290 => (ld w269 (Addr.add (Addr.add a272 (Int.toNat x271 * 10)) 9) fun v291 => asB v291 fun b292 => (nw w269 (.cells #[(.int .i64 (0 : Int)), (.int .i64 (0 : Int)), (.int .i64 (0 : Int)), (.int .i64 (0 : Int)), (.int .i64 (0 : Int)), (.int .i64 (0 : Int)), (.int .i64 (0 : Int)), (.int .i64 (0 : Int)), (.int .i64 (0 : Int)), (.bool false)] 90) fun r293 w294 => (st w294 (⟨r293, 0, none⟩ : Addr) (.int .i64 x274) fun w295 => (st w295 (Addr.add (⟨r293, 0, none⟩ : Addr) 1) (.int .i64 x276) fun w296 => (st w296 (Addr.add (⟨r293, 0, none⟩ : Addr) 2) (.int .i64 x278) fun w297 => (st w297 (Addr.add (⟨r293, 0, none⟩ : Addr) 3) (.int .i64 x280) fun w298 => (st w298 (Addr.add (⟨r293, 0, none⟩ : Addr) 4) (.int .i64 x282) fun w299 => (st w299 (Addr.add (⟨r293, 0, none⟩ : Addr) 5) (.int .i64 x284) fun w300 => (st w300 (Addr.add (⟨r293, 0, none⟩ : Addr) 6) (.int .i64 x286) fun w301 => (st w301 (Addr.add (⟨r293, 0, none⟩ : Addr) 7) (.int .i64 x288) fun w302 => (st w302 (Addr.add (⟨r293, 0, none⟩ : Addr) 8) (.int .i64 x290) fun w303 => (st w303 (Addr.add (⟨r293, 0, none⟩ : Addr) 9) (.bool b292) fun w304 => 
(ld w304 (⟨r293, 0, none⟩ : Addr) fun v305 => asI .i64 v305 fun x306 => (ld w304 (Addr.add (⟨r293, 0, none⟩ : Addr) 1) fun v307 => asI .i64 v307 fun x308 => (ld w304 (Addr.add (⟨r293, 0, none⟩ : Addr) 2) fun v309 => asI .i64 v309 fun x310 => (ld w304 (Addr.add (⟨r293, 0, none⟩ : Addr) 3) fun v311 => asI .i64 v311 fun x312 => (ld w304 (Addr.add (⟨r293, 0, none⟩ : Addr) 4) fun v313 => asI .i64 v313 fun x314 => (ld w304 (Addr.add (⟨r293, 0, none⟩ : Addr) 5) fun v315 => asI .i64 v315 fun x316 => (ld w304 (Addr.add (⟨r293, 0, none⟩ : Addr) 6) fun v317 => asI .i64 v317 fun x318 => (ld w304 (Addr.add (⟨r293, 0, none⟩ : Addr) 7) fun v319 => asI .i64 v319 fun x320 => (cl Tryd.prog 37 #[(.agg #[(.int .i64 x306), (.int .i64 x308), (.int .i64 x310), (.int .i64 x312), (.int .i64 x314), (.int .i64 x316), (.int .i64 x318), (.int .i64 x320)])] w304 fun v321 w322 => asI .i64 v321 fun x323 => (lv x323 fun p_324 => 
(bnd p_324 64 (ld w322 (Addr.add (⟨r5, 0, none⟩ : Addr) (Int.toNat p_324 * 8)) fun v325 => asI .i64 v325 fun x326 => (lv x326 fun old_327 => 
(jn (fun s328 w329 => asB (s328.getD 0 undef) fun b341 => (cond b341 (lp [] w329 fun J344 s342 w343 => (lv (0 : Int) fun y345 => (lv (220 : Int) fun y346 => 
(Q (.tuple #[(.int .i64 y345), (.int .i64 y346)]) w343)))) 
(dw w329 fun w347 => (ld w347 (⟨r293, 0, none⟩ : Addr) fun v348 => asI .i64 v348 fun x349 => (ld w347 (Addr.add (⟨r293, 0, none⟩ : Addr) 1) fun v350 => asI .i64 v350 fun x351 => (ld w347 (Addr.add (⟨r293, 0, none⟩ : Addr) 2) fun v352 => asI .i64 v352 fun x353 => (ld w347 (Addr.add (⟨r293, 0, none⟩ : Addr) 3) fun v354 => asI .i64 v354 fun x355 => (ld w347 (Addr.add (⟨r293, 0, none⟩ : Addr) 4) fun v356 => asI .i64 v356 fun x357 => (ld w347 (Addr.add (⟨r293, 0, none⟩ : Addr) 5) fun v358 => asI .i64 v358 fun x359 => (ld w347 (Addr.add (⟨r293, 0, none⟩ : Addr) 6) fun v360 => asI .i64 v360 fun x361 => (ld w347 (Addr.add (⟨r293, 0, none⟩ : Addr) 7) fun v362 => asI .i64 v362 fun x363 => (ld w347 (Addr.add (⟨r293, 0, none⟩ : Addr) 8) fun v364 => asI .i64 v364 fun x365 => (ld w347 (Addr.add (⟨r293, 0, none⟩ : Addr) 9) fun v366 => asB v366 fun b367 => (bnd p_324 64 (ld w347 (Addr.add (⟨r5, 0, none⟩ : Addr) (Int.toNat p_324 * 8)) fun v368 => asI .i64 v368 fun x369 => (ld w347 (Addr.add (Addr.add (⟨r5, 0, none⟩ : Addr) (Int.toNat p_324 * 8)) 1) fun v370 => asI .i64 v370 fun x371 => (ld w347 (Addr.add (Addr.add (⟨r5, 0, none⟩ : Addr) (Int.toNat p_324 * 8)) 2) fun v372 => asI .i64 v372 fun x373 => (ld w347 (Addr.add (Addr.add (⟨r5, 0, none⟩ : Addr) (Int.toNat p_324 * 8)) 3) fun v374 => asI .i64 v374 fun x375 => (ld w347 (Addr.add (Addr.add (⟨r5, 0, none⟩ : Addr) (Int.toNat p_324 * 8)) 4) fun v376 => asI .i64 v376 fun x377 => (ld w347 (Addr.add (Addr.add (⟨r5, 0, none⟩ : Addr) (Int.toNat p_324 * 8)) 5) fun v378 => asI .i64 v378 fun x379 => (ld w347 (Addr.add (Addr.add (⟨r5, 0, none⟩ : Addr) (Int.toNat p_324 * 8)) 6) fun v380 => asI .i64 v380 fun x381 => (ld w347 (Addr.add (Addr.add (⟨r5, 0, none⟩ : Addr) (Int.toNat p_324 * 8)) 7) fun v382 => asI .i64 v382 fun x383 => (cl Tryd.prog 39 #[(.agg #[(.int .i64 x349), (.int .i64 x351), (.int .i64 x353), (.int .i64 x355), (.int .i64 x357), (.int .i64 x359), (.int .i64 x361), (.int .i64 x363), (.int .i64 x365), (.bool b367)]), (.agg #[(.int .i64 x369), (.int .i64 x371), (.int .i64 x373), (.int .i64 x375), (.int .i64 x377), (.int .i64 x379), (.int .i64 x381), (.int .i64 x383)])] w347 fun v384 w385 => asA 8 v384 fun a386 => asI .i64 (a386 0) fun x387 => asI .i64 (a386 1) fun x388 => asI .i64 (a386 2) fun x389 => asI .i64 (a386 3) fun x390 => asI .i64 (a386 4) fun x391 => asI .i64 (a386 5) fun x392 => asI .i64 (a386 6) fun x393 => asI .i64 (a386 7) fun x394 => (bnd p_324 64 (st w385 (Addr.add (⟨r5, 0, none⟩ : Addr) (Int.toNat p_324 * 8)) (.int .i64 x387) fun w395 => (st w395 (Addr.add (Addr.add (⟨r5, 0, none⟩ : Addr) (Int.toNat p_324 * 8)) 1) (.int .i64 x388) fun w396 => (st w396 (Addr.add (Addr.add (⟨r5, 0, none⟩ : Addr) (Int.toNat p_324 * 8)) 2) (.int .i64 x389) fun w397 => (st w397 (Addr.add (Addr.add (⟨r5, 0, none⟩ : Addr) (Int.toNat p_324 * 8)) 3) (.int .i64 x390) fun w398 => (st w398 (Addr.add (Addr.add (⟨r5, 0, none⟩ : Addr) (Int.toNat p_324 * 8)) 4) (.int .i64 x391) fun w399 => (st w399 (Addr.add (Addr.add (⟨r5, 0, none⟩ : Addr) (Int.toNat p_324 * 8)) 5) (.int .i64 x392) fun w400 => (st w400 (Addr.add (Addr.add (⟨r5, 0, none⟩ : Addr) (Int.toNat p_324 * 8)) 6) (.int .i64 x393) fun w401 => (st w401 (Addr.add (Addr.add (⟨r5, 0, none⟩ : Addr) (Int.toNat p_324 * 8)) 7) (.int .i64 x394) fun w402 => 
(J270 [(.int .i64 (IntKind.wrap .i64 (x271 + (1 : Int))))] w402)))))))))))))))))))))))))))))))))
 (fun J330 => (bnd p_324 64 (ld w322 (Addr.add (⟨r3, 0, none⟩ : Addr) (Int.toNat p_324 * 1)) fun v331 => asB v331 fun b332 => (cond b332 (J330 [(.bool true)] w322) (ld w322 (Addr.add (⟨r293, 0, none⟩ : Addr) 9) fun v333 => asB v333 fun b334 => (cond b334 (ld w322 (⟨r293, 0, none⟩ : Addr) fun v335 => asI .i64 v335 fun x336 => (cond (old_327 == x336) (J330 [(.bool true)] w322) (ld w322 (Addr.add (⟨r293, 0, none⟩ : Addr) 9) fun v337 => asB v337 fun b338 => (cond (!b338) (J330 [(.bool (old_327 == (0 : Int)))] w322) (J330 [(.bool false)] w322))))) (ld w322 (Addr.add (⟨r293, 0, none⟩ : Addr) 9) fun v339 => asB v339 fun b340 => (cond (!b340) (J330 [(.bool (old_327 == (0 : Int)))] w322) (J330 [(.bool false)] w322)))))))))))))))))))))))))))))))))))))))))))))) (ldG Tryd.prog w269 (⟨r5, 0, none⟩ : Addr) 512 fun l403 => 
(lp [(.slice none 0 0), (.int .i64 (0 : Int))] w269 fun J406 s404 w405 => asS (s404.getD 0 undef) fun p407 n408 c409 => asI .i64 (s404.getD 1 undef) fun x410 => 
(cond (decide (x410 < (64 : Int))) 
(jn (fun s411 w412 => asS (s411.getD 0 undef) fun p465 n466 c467 => (J406 [(.slice p465 n466 c467), (.int .i64 (IntKind.wrap .i64 (x410 + (1 : Int))))] w412))
 (fun J413 => (bnd x410 64 (asA 8 (.agg (Array.extract ((List.toArray l403) : Array Value) (Int.toNat x410 * 8) (Int.toNat x410 * 8 + 8))) fun a414 => asI .i64 (a414 0) fun x415 => asI .i64 (a414 1) fun x416 => asI .i64 (a414 2) fun x417 => asI .i64 (a414 3) fun x418 => asI .i64 (a414 4) fun x419 => asI .i64 (a414 5) fun x420 => asI .i64 (a414 6) fun x421 => asI .i64 (a414 7) fun x422 => (nw w405 (.cells #[(.int .i64 (0 : Int)), (.int .i64 (0 : Int)), (.int .i64 (0 : Int)), (.int .i64 (0 : Int)), (.int .i64 (0 : Int)), (.int .i64 (0 : Int)), (.int .i64 (0 : Int)), (.int .i64 (0 : Int))] 59) fun r423 w424 => (lv x410 fun p_425 => (st w424 (⟨r423, 0, none⟩ : Addr) (.int .i64 x415) fun w426 => (st w426 (Addr.add (⟨r423, 0, none⟩ : Addr) 1) (.int .i64 x416) fun w427 => (st w427 (Addr.add (⟨r423, 0, none⟩ : Addr) 2) (.int .i64 x417) fun w428 => (st w428 (Addr.add (⟨r423, 0, none⟩ : Addr) 3) (.int .i64 x418) fun w429 => (st w429 (Addr.add (⟨r423, 0, none⟩ : Addr) 4) (.int .i64 x419) fun w430 => (st w430 (Addr.add (⟨r423, 0, none⟩ : Addr) 5) (.int .i64 x420) fun w431 => (st w431 (Addr.add (⟨r423, 0, none⟩ : Addr) 6) (.int .i64 x421) fun w432 => (st w432 (Addr.add (⟨r423, 0, none⟩ : Addr) 7) (.int .i64 x422) fun w433 => 
(jn (fun s434 w435 => asB (s434.getD 0 undef) fun b441 => (cond b441 (ld w435 (⟨r423, 0, none⟩ : Addr) fun v442 => asI .i64 v442 fun x443 => (ld w435 (Addr.add (⟨r423, 0, none⟩ : Addr) 1) fun v444 => asI .i64 v444 fun x445 => (ld w435 (Addr.add (⟨r423, 0, none⟩ : Addr) 2) fun v446 => asI .i64 v446 fun x447 => (ld w435 (Addr.add (⟨r423, 0, none⟩ : Addr) 3) fun v448 => asI .i64 v448 fun x449 => (ld w435 (Addr.add (⟨r423, 0, none⟩ : Addr) 4) fun v450 => asI .i64 v450 fun x451 => (ld w435 (Addr.add (⟨r423, 0, none⟩ : Addr) 5) fun v452 => asI .i64 v452 fun x453 => (ld w435 (Addr.add (⟨r423, 0, none⟩ : Addr) 6) fun v454 => asI .i64 v454 fun x455 => (ld w435 (Addr.add (⟨r423, 0, none⟩ : Addr) 7) fun v456 => asI .i64 v456 fun x457 => (nw w435 (.cells #[(.int .i64 x443), (.int .i64 x445), (.int .i64 x447), (.int .i64 x449), (.int .i64 x451), (.int .i64 x453), (.int .i64 x455), (.int .i64 x457)] 59) fun r458 w459 => (rn Tryd.prog (Builtin.append_ #[30, 30] 30 #[(.slice p407 n408 c409), (.slice (some (⟨r458, 0, none⟩ : Addr)) 1 1)]) w459 fun v460 w461 => asS v460 fun p462 n463 c464 => (J413 [(.slice p462 n463 c464)] w461))))))))))) (J413 [(.slice p407 n408 c409)] w435)))
 (fun J436 => (ld w433 (⟨r423, 0, none⟩ : Addr) fun v437 => asI .i64 v437 fun x438 => (cond (x438 != (0 : Int)) (bnd p_425 64 (ld w433 (Addr.add (⟨r3, 0, none⟩ : Addr) (Int.toNat p_425 * 1)) fun v439 => asB v439 fun b440 => (J436 [(.bool (!b440))] w433))) (J436 [(.bool false)] w433))))))))))))))))))) (dr (some ⟨q, 0, none⟩) fun a468 => (cl Tryd.prog 31 #[(.pointer (some a468)), (.agg #[(.int .i64 tick), (.slice p407 n408 c409)])] w405 fun v469 w470 => (lv tick fun y471 => (lv (0 : Int) fun y472 => 
(Q (.tuple #[(.int .i64 y471), (.int .i64 y472)]) w470))))))))))))) False))))))))))) 
(lp [(.int .i64 (0 : Int))] w205 fun J475 s473 w474 => asI .i64 (s473.getD 0 undef) fun x476 => 
(cond (decide (x476 < (64 : Int))) 
(lv x476 fun p_477 => 
(jn (fun s478 w479 => asB (s478.getD 0 undef) fun b485 => (cond b485 (lp [] w479 fun J488 s486 w487 => (lv (0 : Int) fun y489 => (lv (220 : Int) fun y490 => 
(Q (.tuple #[(.int .i64 y489), (.int .i64 y490)]) w487)))) 
(J475 [(.int .i64 (IntKind.wrap .i64 (x476 + (1 : Int))))] w479)))
 (fun J480 => (bnd p_477 64 (ld w474 (Addr.add (⟨r3, 0, none⟩ : Addr) (Int.toNat p_477 * 1)) fun v481 => asB v481 fun b482 => (cond b482 (bnd p_477 64 (ld w474 (Addr.add (⟨r5, 0, none⟩ : Addr) (Int.toNat p_477 * 8)) fun v483 => asI .i64 v483 fun x484 => (J480 [(.bool (x484 == (0 : Int)))] w474))) (J480 [(.bool false)] w474))))))) 
(lp [(.int .i64 (0 : Int))] w474 fun J493 s491 w492 => asI .i64 (s491.getD 0 undef) fun x494 => 
(cond (decide (x494 < (n75 : Int))) 
(dr p74 fun a495 => (bnd x494 n75 (ld w492 (Addr.add a495 (Int.toNat x494 * 10)) fun v496 => asI .i64 v496 fun x497 => (ld w492 (Addr.add (Addr.add a495 (Int.toNat x494 * 10)) 1) fun v498 => asI .i64 v498 fun x499 => (ld w492 (Addr.add (Addr.add a495 (Int.toNat x494 * 10)) 2) fun v500 => asI .i64 v500 fun x501 => (ld w492 (Addr.add (Addr.add a495 (Int.toNat x494 * 10)) 3) fun v502 => asI .i64 v502 fun x503 => (ld w492 (Addr.add (Addr.add a495 (Int.toNat x494 * 10)) 4) fun v504 => asI .i64 v504 fun x505 => (ld w492 (Addr.add (Addr.add a495 (Int.toNat x494 * 10)) 5) fun v506 => asI .i64 v506 fun x507 => (ld w492 (Addr.add (Addr.add a495 (Int.toNat x494 * 10)) 6) fun v508 => asI .i64 v508 fun x509 => (ld w492 (Addr.add (Addr.add a495 (Int.toNat x494 * 10)) 7) fun v510 => asI .i64 v510 fun x511 => (ld w492 (Addr.add (Addr.add a495 (Int.toNat x494 * 10)) 8) fun v512 => asI .i64 v512 fun x513 => (ld w492 (Addr.add (Addr.add a495 (Int.toNat x494 * 10)) 9) fun v514 => asB v514 fun b515 => (nw w492 (.cells #[(.int .i64 (0 : Int)), (.int .i64 (0 : Int)), (.int .i64 (0 : Int)), (.int .i64 (0 : Int)), (.int .i64 (0 : Int)), (.int .i64 (0 : Int)), (.int .i64 (0 : Int)), (.int .i64 (0 : Int)), (.int .i64 (0 : Int)), (.bool false)] 90) fun r516 w517 => (st w517 (⟨r516, 0, none⟩ : Addr) (.int .i64 x497) fun w518 => (st w518 (Addr.add (⟨r516, 0, none⟩ : Addr) 1) (.int .i64 x499) fun w519 => (st w519 (Addr.add (⟨r516, 0, none⟩ : Addr) 2) (.int .i64 x501) fun w520 => (st w520 (Addr.add (⟨r516, 0, none⟩ : Addr) 3) (.int .i64 x503) fun w521 => (st w521 (Addr.add (⟨r516, 0, none⟩ : Addr) 4) (.int .i64 x505) fun w522 => (st w522 (Addr.add (⟨r516, 0, none⟩ : Addr) 5) (.int .i64 x507) fun w523 => (st w523 (Addr.add (⟨r516, 0, none⟩ : Addr) 6) (.int .i64 x509) fun w524 => (st w524 (Addr.add (⟨r516, 0, none⟩ : Addr) 7) (.int .i64 x511) fun w525 => (st w525 (Addr.add (⟨r516, 0, none⟩ : Addr) 8) (.int .i64 x513) fun w526 => (st w526 (Addr.add (⟨r516, 0, none⟩ : Addr) 9) (.bool b515) fun w527 => 
(ld w527 (⟨r516, 0, none⟩ : Addr) fun v528 => asI .i64 v528 fun x529 => (ld w527 (Addr.add (⟨r516, 0, none⟩ : Addr) 1) fun v530 => asI .i64 v530 fun x531 => (ld w527 (Addr.add (⟨r516, 0, none⟩ : Addr) 2) fun v532 => asI .i64 v532 fun x533 => (ld w527 (Addr.add (⟨r516, 0, none⟩ : Addr) 3) fun v534 => asI .i64 v534 fun x535 => (ld w527 (Addr.add (⟨r516, 0, none⟩ : Addr) 4) fun v536 => asI .i64 v536 fun x537 => (ld w527 (Addr.add (⟨r516, 0, none⟩ : Addr) 5) fun v538 => asI .i64 v538 fun x539 => (ld w527 (Addr.add (⟨r516, 0, none⟩ : Addr) 6) fun v540 => asI .i64 v540 fun x541 => (ld w527 (Addr.add (⟨r516, 0, none⟩ : Addr) 7) fun v542 => asI .i64 v542 fun x543 => (cl Tryd.prog 37 #[(.agg #[(.int .i64 x529), (.int .i64 x531), (.int .i64 x533), (.int .i64 x535), (.int .i64 x537), (.int .i64 x539), (.int .i64 x541), (.int .i64 x543)])] w527 fun v544 w545 => asI .i64 v544 fun x546 => (lv x546 fun p_547 => 
(bnd p_547 64 (ld w545 (Addr.add (⟨r5, 0, none⟩ : Addr) (Int.toNat p_547 * 8)) fun v548 => asI .i64 v548 fun x549 => (lv x549 fun old_550 => 
(jn (fun s551 w552 => asB (s551.getD 0 undef) fun b564 => (cond b564 (lp [] w552 fun J567 s565 w566 => (lv (0 : Int) fun y568 => (lv (220 : Int) fun y569 => 
(Q (.tuple #[(.int .i64 y568), (.int .i64 y569)]) w566)))) 
(dw w552 fun w570 => (ld w570 (⟨r516, 0, none⟩ : Addr) fun v571 => asI .i64 v571 fun x572 => (ld w570 (Addr.add (⟨r516, 0, none⟩ : Addr) 1) fun v573 => asI .i64 v573 fun x574 => (ld w570 (Addr.add (⟨r516, 0, none⟩ : Addr) 2) fun v575 => asI .i64 v575 fun x576 => (ld w570 (Addr.add (⟨r516, 0, none⟩ : Addr) 3) fun v577 => asI .i64 v577 fun x578 => (ld w570 (Addr.add (⟨r516, 0, none⟩ : Addr) 4) fun v579 => asI .i64 v579 fun x580 => (ld w570 (Addr.add (⟨r516, 0, none⟩ : Addr) 5) fun v581 => asI .i64 v581 fun x582 => (ld w570 (Addr.add (⟨r516, 0, none⟩ : Addr) 6) fun v583 => asI .i64 v583 fun x584 => (ld w570 (Addr.add (⟨r516, 0, none⟩ : Addr) 7) fun v585 => asI .i64 v585 fun x586 => (ld w570 (Addr.add (⟨r516, 0, none⟩ : Addr) 8) fun v587 => asI .i64 v587 fun x588 => (ld w570 (Addr.add (⟨r516, 0, none⟩ : Addr) 9) fun v589 => asB v589 fun b590 => (bnd p_547 64 (ld w570 (Addr.add (⟨r5, 0, none⟩ : Addr) (Int.toNat p_547 * 8)) fun v591 => asI .i64 v591 fun x592 => (ld w570 (Addr.add (Addr.add (⟨r5, 0, none⟩ : Addr) (Int.toNat p_547 * 8)) 1) fun v593 => asI .i64 v593 fun x594 => (ld w570 (Addr.add (Addr.add (⟨r5, 0, none⟩ : Addr) (Int.toNat p_547 * 8)) 2) fun v595 => asI .i64 v595 fun x596 => (ld w570 (Addr.add (Addr.add (⟨r5, 0, none⟩ : Addr) (Int.toNat p_547 * 8)) 3) fun v597 => asI .i64 v597 fun x598 => (ld w570 (Addr.add (Addr.add (⟨r5, 0, none⟩ : Addr) (Int.toNat p_547 * 8)) 4) fun v599 => asI .i64 v599 fun x600 => (ld w570 (Addr.add (Addr.add (⟨r5, 0, none⟩ : Addr) (Int.toNat p_547 * 8)) 5) fun v601 => asI .i64 v601 fun x602 => (ld w570 (Addr.add (Addr.add (⟨r5, 0, none⟩ : Addr) (Int.toNat p_547 * 8)) 6) fun v603 => asI .i64 v603 fun x604 => (ld w570 (Addr.add (Addr.add (⟨r5, 0, none⟩ : Addr) (Int.toNat p_547 * 8)) 7) fun v605 => asI .i64 v605 fun x606 => (cl Tryd.prog 39 #[(.agg #[(.int .i64 x572), (.int .i64 x574), (.int .i64 x576), (.int .i64 x578), (.int .i64 x580), (.int .i64 x582), (.int .i64 x584), (.int .i64 x586), (.int .i64 x588), (.bool b590)]), (.agg #[(.int .i64 x592), (.int .i64 x594), (.int .i64 x596), (.int .i64 x598), (.int .i64 x600), (.int .i64 x602), (.int .i64 x604), (.int .i64 x606)])] w570 fun v607 w608 => asA 8 v607 fun a609 => asI .i64 (a609 0) fun x610 => asI .i64 (a609 1) fun x611 => asI .i64 (a609 2) fun x612 => asI .i64 (a609 3) fun x613 => asI .i64 (a609 4) fun x614 => asI .i64 (a609 5) fun x615 => asI .i64 (a609 6) fun x616 => asI .i64 (a609 7) fun x617 => (bnd p_547 64 (st w608 (Addr.add (⟨r5, 0, none⟩ : Addr) (Int.toNat p_547 * 8)) (.int .i64 x610) fun w618 => (st w618 (Addr.add (Addr.add (⟨r5, 0, none⟩ : Addr) (Int.toNat p_547 * 8)) 1) (.int .i64 x611) fun w619 => (st w619 (Addr.add (Addr.add (⟨r5, 0, none⟩ : Addr) (Int.toNat p_547 * 8)) 2) (.int .i64 x612) fun w620 => (st w620 (Addr.add (Addr.add (⟨r5, 0, none⟩ : Addr) (Int.toNat p_547 * 8)) 3) (.int .i64 x613) fun w621 => (st w621 (Addr.add (Addr.add (⟨r5, 0, none⟩ : Addr) (Int.toNat p_547 * 8)) 4) (.int .i64 x614) fun w622 => (st w622 (Addr.add (Addr.add (⟨r5, 0, none⟩ : Addr) (Int.toNat p_547 * 8)) 5) (.int .i64 x615) fun w623 => (st w623 (Addr.add (Addr.add (⟨r5, 0, none⟩ : Addr) (Int.toNat p_547 * 8)) 6) (.int .i64 x616) fun w624 => (st w624 (Addr.add (Addr.add (⟨r5, 0, none⟩ : Addr) (Int.toNat p_547 * 8)) 7) (.int .i64 x617) fun w625 => 
(J493 [(.int .i64 (IntKind.wrap .i64 (x494 + (1 : Int))))] w625)))))))))))))))))))))))))))))))))
 (fun J553 => (bnd p_547 64 (ld w545 (Addr.add (⟨r3, 0, none⟩ : Addr) (Int.toNat p_547 * 1)) fun v554 => asB v554 fun b555 => (cond b555 (J553 [(.bool true)] w545) (ld w545 (Addr.add (⟨r516, 0, none⟩ : Addr) 9) fun v556 => asB v556 fun b557 => (cond b557 (ld w545 (⟨r516, 0, none⟩ : Addr) fun v558 => asI .i64 v558 fun x559 => (cond (old_550 == x559) (J553 [(.bool true)] w545) (ld w545 (Addr.add (⟨r516, 0, none⟩ : Addr) 9) fun v560 => asB v560 fun b561 => (cond (!b561) (J553 [(.bool (old_550 == (0 : Int)))] w545) (J553 [(.bool false)] w545))))) (ld w545 (Addr.add (⟨r516, 0, none⟩ : Addr) 9) fun v562 => asB v562 fun b563 => (cond (!b563) (J553 [(.bool (old_550 == (0 : Int)))] w545) (J553 [(.bool false)] w545)))))))))))))))))))))))))))))))))))))))))))))) (ldG Tryd.prog w492 (⟨r5, 0, none⟩ : Addr) 512 fun l626 => 
(lp [(.slice none 0 0), (.int .i64 (0 : Int))] w492 fun J629 s627 w628 => asS (s627.getD 0 undef) fun p630 n631 c632 => asI .i64 (s627.getD 1 undef) fun x633 => 
(cond (decide (x633 < (64 : Int))) 
(jn (fun s634 w635 => asS (s634.getD 0 undef) fun p688 n689 c690 => (J629 [(.slice p688 n689 c690), (.int .i64 (IntKind.wrap .i64 (x633 + (1 : Int))))] w635))
 (fun J636 => (bnd x633 64 (asA 8 (.agg (Array.extract ((List.toArray l626) : Array Value) (Int.toNat x633 * 8) (Int.toNat x633 * 8 + 8))) fun a637 => asI .i64 (a637 0) fun x638 => asI .i64 (a637 1) fun x639 => asI .i64 (a637 2) fun x640 => asI .i64 (a637 3) fun x641 => asI .i64 (a637 4) fun x642 => asI .i64 (a637 5) fun x643 => asI .i64 (a637 6) fun x644 => asI .i64 (a637 7) fun x645 => (nw w628 (.cells #[(.int .i64 (0 : Int)), (.int .i64 (0 : Int)), (.int .i64 (0 : Int)), (.int .i64 (0 : Int)), (.int .i64 (0 : Int)), (.int .i64 (0 : Int)), (.int .i64 (0 : Int)), (.int .i64 (0 : Int))] 59) fun r646 w647 => (lv x633 fun p_648 => (st w647 (⟨r646, 0, none⟩ : Addr) (.int .i64 x638) fun w649 => (st w649 (Addr.add (⟨r646, 0, none⟩ : Addr) 1) (.int .i64 x639) fun w650 => (st w650 (Addr.add (⟨r646, 0, none⟩ : Addr) 2) (.int .i64 x640) fun w651 => (st w651 (Addr.add (⟨r646, 0, none⟩ : Addr) 3) (.int .i64 x641) fun w652 => (st w652 (Addr.add (⟨r646, 0, none⟩ : Addr) 4) (.int .i64 x642) fun w653 => (st w653 (Addr.add (⟨r646, 0, none⟩ : Addr) 5) (.int .i64 x643) fun w654 => (st w654 (Addr.add (⟨r646, 0, none⟩ : Addr) 6) (.int .i64 x644) fun w655 => (st w655 (Addr.add (⟨r646, 0, none⟩ : Addr) 7) (.int .i64 x645) fun w656 => 
(jn (fun s657 w658 => asB (s657.getD 0 undef) fun b664 => (cond b664 (ld w658 (⟨r646, 0, none⟩ : Addr) fun v665 => asI .i64 v665 fun x666 => (ld w658 (Addr.add (⟨r646, 0, none⟩ : Addr) 1) fun v667 => asI .i64 v667 fun x668 => (ld w658 (Addr.add (⟨r646, 0, none⟩ : Addr) 2) fun v669 => asI .i64 v669 fun x670 => (ld w658 (Addr.add (⟨r646, 0, none⟩ : Addr) 3) fun v671 => asI .i64 v671 fun x672 => (ld w658 (Addr.add (⟨r646, 0, none⟩ : Addr) 4) fun v673 => asI .i64 v673 fun x674 => (ld w658 (Addr.add (⟨r646, 0, none⟩ : Addr) 5) fun v675 => asI .i64 v675 fun x676 => (ld w658 (Addr.add (⟨r646, 0, none⟩ : Addr) 6) fun v677 => asI .i64 v677 fun x678 => (ld w658 (Addr.add (⟨r646, 0, none⟩ : Addr) 7) fun v679 => asI .i64 v679 fun x680 => (nw w658 (.cells #[(.int .i64 x666), (.int .i64 x668), (.int .i64 x670), (.int .i64 x672), (.int .i64 x674), (.int .i64 x676), (.int .i64 x678), (.int .i64 x680)] 59) fun r681 w682 => (rn Tryd.prog (Builtin.append_ #[30, 30] 30 #[(.slice p630 n631 c632), (.slice (some (⟨r681, 0, none⟩ : Addr)) 1 1)]) w682 fun v683 w684 => asS v683 fun p685 n686 c687 => (J636 [(.slice p685 n686 c687)] w684))))))))))) (J636 [(.slice p630 n631 c632)] w658)))
 (fun J659 => (ld w656 (⟨r646, 0, none⟩ : Addr) fun v660 => asI .i64 v660 fun x661 => (cond (x661 != (0 : Int)) (bnd p_648 64 (ld w656 (Addr.add (⟨r3, 0, none⟩ : Addr) (Int.toNat p_648 * 1)) fun v662 => asB v662 fun b663 => (J659 [(.bool (!b663))] w656))) (J659 [(.bool false)] w656))))))))))))))))))) (dr (some ⟨q, 0, none⟩) fun a691 => (cl Tryd.prog 31 #[(.pointer (some a691)), (.agg #[(.int .i64 tick), (.slice p630 n631 c632)])] w628 fun v692 w693 => (lv tick fun y694 => (lv (0 : Int) fun y695 => 
(Q (.tuple #[(.int .i64 y694), (.int .i64 y695)]) w693)))))))))))))))
 (fun J206 => (cond (decide (k_203 > (0 : Int))) (dr (some ⟨q, 0, none⟩) fun a207 => (ld w183 a207 fun v208 => asS v208 fun p209 n210 c211 => (dr p209 fun a212 => (bnd (IntKind.wrap .i64 (k_203 - (1 : Int))) n210 (ld w183 (Addr.add a212 (Int.toNat (IntKind.wrap .i64 (k_203 - (1 : Int))) * 2)) fun v213 => asI .i64 v213 fun x214 => (J206 [(.bool (decide (tick ≤ x214)))] w183)))))) (J206 [(.bool false)] w183)))))))))
 (fun J184 => (ld w72 (Addr.add (⟨r10, 0, none⟩ : Addr) 1) fun v185 => asB v185 fun b186 => (cond b186 (J184 [(.bool true)] w72) (ld w72 (⟨r10, 0, none⟩ : Addr) fun v187 => asP v187 fun p188 => (cl Tryd.prog 38 #[(.pointer p188)] w72 fun v189 w190 => asB v189 fun b191 => (J184 [(.bool (!b191))] w190))))))))))))))))))
 (fun J30 => (cond (decide ((bn : Int) > (5000 : Int))) (J30 [(.bool true)] w) (cond (decide (n > (64 : Int))) (J30 [(.bool true)] w) (cond (whole == (1 : Int)) (J30 [(.bool (decide (n > (0 : Int))))] w) (J30 [(.bool false)] w)))))) := by
  subst hn
  have hg64 := goneL_len (tab (b.getD [])) (tab es) 64
  have ho64 := othL_len (tab (b.getD [])) (tab es) 64
  refine jn_of (fun s w' => s = [.bool false] ∧ w' = w) ?_ ?_
  rotate_left
  · intro J2 hJ2
    refine cond_f (by simp; omega) (cond_f (by simp; omega) (cond_split (fun h1 => hJ2 _ _ ⟨?_, rfl⟩) (fun h1 => hJ2 _ _ ⟨rfl, rfl⟩)))
    rcases hw with ⟨hbn, -⟩ | ⟨-, hw0, -⟩
    · rw [hbn]
      have : goneL (tab ((none : Option (List Ent)).getD [])) (tab es) 64 = [] := gone_nil
      rw [this]
      rfl
    · rw [hw0] at h1
      cases h1
  rintro _ w ⟨rfl, rfl⟩
  refine asB_i rfl (cond_f rfl (lv_i ?_))
  refine gones_k hF (range_inc _ _) (fun p hp => goneL_lt hp) hg64 fun w1 hF => ?_
  refine hF.take (n := 7) (by omega) (by decide) fun w2 hF => asI_i rfl (lv_i (cond_f (by simp; omega) (lv_i ?_)))
  rw [← chgs_bits, ← List.append_nil ((chgs (tab (b.getD [])) (tab es)).flatMap Chg.bits)] at hF
  rw [← chgs_len]
  refine reads_k hp hF (chgs_inc _ _) (fun c hc => ?_) (by rw [chgs_len]; exact ho64) fun p c w3 hF => ?_
  · obtain ⟨p, hp, rfl⟩ := List.mem_map.1 hc
    exact (chg_lays hb0 hes hI hp).ok
  exact fin_k hp hS0 hA hb0 hes hI hF ht hw rfl hQ1 hQ0

set_option maxHeartbeats 6400000 in
theorem apply_b (hp : Pts w00) {q : Nat} {A : List (Int × List Ent)} (hS0 : Bn w00 B w0 w0 [] (RJ q [] 66 A)) (hA : SOk A) {pv : Option Addr} {n c : Nat} {bs : List Nat} (hv : Reads w0 pv (bv bs)) (hn : bs.length = n)
    {tick acked : Int} {b : Option (List Ent)} {es : List Ent} (hpk : Packs bs (makeB tick acked b es)) (ht : 0 ≤ tick ∧ tick < 1099511627776)
    (hb0 : okV (-1) (b.getD []) = true) (hes : okV (-1) es = true) (hI : ∀ e ∈ es, e.I) (hbase : b.isSome = true → acked < tick ∧ tick - acked < 65536 ∧ 0 ≤ acked ∧ ∀ x ∈ A, x.1 = acked → x.2 = b.getD []) {K : Value → World → Prop}
    (hK1 : applyE A tick acked b ≠ 0 → ∀ w', Ext no w0 w' → K (.tuple #[.int .i64 0, .int .i64 (applyE A tick acked b)]) w')
    (hK0 : applyE A tick acked b = 0 → ∀ w', Bn w00 B w0 w' [] (RJ q [] 66 (lastR (A ++ [(tick, es)]))) → K (.tuple #[.int .i64 tick, .int .i64 0]) w') :
    cl Tryd.prog 15 #[.pointer (some ⟨q, 0, none⟩), .slice pv n c] w0 K := by
  subst hn
  have hp0 : Pts w0 := hp.no hS0.all
  have hml := makeB_len tick acked b es
  have hbl := hpk.len
  apply F15_calls
  unfold F15
  have hF : Bn w0 no w0 w0 [] emp := Bn.fresh w0
  refine lv_i (lv_i ?_)
  rw [zc_table, zc_bools]
  refine hF.nw fun r3 w1 hF => hF.nw fun r5 w2 hF => ?_
  refine read_k (hv.ext hF.all fun _ _ h => h) rfl hpk.small (by omega) fun rr p cr w3 hx3 hR3 => asP_i rfl (nw_mk ?_)
  have hx4 : Ext no w3 (w3.alloc (.cells #[.pointer (some ⟨rr, 0, none⟩), .bool false] 87)) := Ext.alloc w3 _
  generalize hr10 : w3.heap.size = r10
  have hsz23 := hx3.size
  have hrr3 : rr < w3.heap.size := blk_lt hR3.blk
  have hF4 : Bn w0 no w0 (w3.alloc (.cells #[.pointer (some ⟨rr, 0, none⟩), .bool false] 87)) [(r5, (List.replicate 64 Ent.zero).flatMap Ent.cells, 75), (r3, gV (fun _ => false), 81)] (DJ r10 (makeB tick acked b es)) := by
    have hpb : ∀ a, p = some a → w2.heap.size ≤ a.block ∧ a.block < w3.heap.size := fun a ha => ⟨(hR3.phi a ha).1, (hR3.phi a ha).2⟩
    have hrr2 : w2.heap.size ≤ rr := hR3.hlo
    refine hF.act (B := no) (fun k h => h.elim) (fun _ _ h => h) (fun _ _ h => h.elim) (fun _ h => h.elim) DJ.kp (B' := dB r10 rr p)
      ⟨rr, p, cr, _, _, bs, _, 0, rfl, ?_, hR3.keep2 hx4 (fun h => h) (fun _ _ h => h), ?_, ?_, hpk, rfl, Nat.zero_le _⟩ (hx3.trans hx4) ?_ ?_
    · rw [← hr10]
      exact new_blk w3 _
    · omega
    · intro a ha
      have := hpb a ha
      omega
    · have hs : (w3.alloc (.cells #[.pointer (some ⟨rr, 0, none⟩), .bool false] 87)).heap.size = w3.heap.size + 1 := new_size w3 _
      rintro k (rfl | rfl | ⟨a, ha, rfl⟩)
      · omega
      · omega
      · have := hpb a ha
        omega
    · rintro k hk (rfl | rfl | ⟨a, ha, rfl⟩)
      · omega
      · omega
      · have := hpb a ha
        omega
  clear hF hx3 hR3
  generalize w3.alloc (.cells #[.pointer (some ⟨rr, 0, none⟩), .bool false] 87) = w4 at hF4
  clear hx4 hr10 hrr3 hsz23
  have hF := hF4
  clear hF4
  have p40 : (2 : Nat) ^ 40 = 1099511627776 := by decide
  have p16 : (2 : Nat) ^ 16 = 65536 := by decide
  have hg64 := goneL_len (tab (b.getD [])) (tab es) 64
  cases b with
  | none =>
    simp only [makeB, headB, bodyB, List.append_assoc] at hF
    refine hF.take (n := 40) (by omega) (by decide) fun w5 hF => asI_i rfl (lv_i ?_)
    rw [Int.toNat_of_nonneg ht.1]
    refine hF.take (n := 1) (by decide) (by decide) fun w6 hF => asI_i rfl (lv_i (cond_f rfl ?_))
    refine hF.take (n := 7) (by omega) (by decide) fun w7 hF => asI_i rfl (lv_i ?_)
    exact behind_k hp0 hS0 hA (b := none) hb0 hes hI hF ht (.inl ⟨rfl, rfl⟩) rfl (by omega) hK1 hK0
  | some b0 =>
    obtain ⟨h1, h2, h3, h4⟩ := hbase rfl
    simp only [makeB, headB, bodyB, List.append_assoc] at hF
    refine hF.take (n := 40) (by omega) (by decide) fun w5 hF => asI_i rfl (lv_i ?_)
    rw [Int.toNat_of_nonneg ht.1]
    refine hF.take (n := 1) (by decide) (by decide) fun w6 hF => asI_i rfl (lv_i (cond_t rfl ?_))
    refine hF.take (n := 16) (by omega) (by decide) fun w7 hF => asI_i rfl (lv_i ?_)
    rw [Int.toNat_of_nonneg (by omega : 0 ≤ tick - acked)]
    refine hF.take (n := 7) (by omega) (by decide) fun w8 hF => asI_i rfl (lv_i ?_)
    exact behind_k hp0 hS0 hA (b := some b0) hb0 hes hI hF ht (.inr ⟨rfl, rfl, rfl, h1, h3, h4⟩) rfl (by omega) hK1 hK0
end
end Go.Proofs.YtfnepdppkmjboaaDoor

/- SnT: what an applier has (View), what a sender notes (Ack), new ones. Conditions: those of each theorem, on its arguments. -/
namespace Go.Proofs.YtfnepdppkmjboaaDoor
open Go Go.Sx Go.Fp
attribute [local irreducible] jn lv ld st nw asI asB asP asS asY asM asF asA asT lp rn ru rq cl dw dr bnd bn2 nz nn hd hr so eqW
attribute [local irreducible] callOk

section
variable {w00 : World} {M : Nat → Prop} {wa w : World} {L : List (Nat × List Value × TypeId)} {q : Nat} {A : List (Int × List Ent)}

def ackB (A : List (Int × List Ent)) (acked tick : Int) : Bool := (A.any fun x => x.1 == tick) && decide (acked < tick)

theorem RJ.acked {B : Nat → Prop} {acked tick : Int} (h : RJ q [.int .i64 acked] 64 A B w) : RJ q [.int .i64 tick] 64 A B (w.setCell ⟨q, 1, none⟩ (.int .i64 tick)) := by
  obtain ⟨p, c, R, rfl, hX, hA⟩ := h
  have hx := Ext.set w ⟨q, 1, none⟩ (.int .i64 tick)
  refine ⟨p, c, R, rfl, ⟨?_, hX.row.ext hx fun a ha e => hX.np a ha e, hX.np, fun s hs => ⟨(hX.vw s hs).1.ext hx fun a ha e => ((hX.vw s hs).2 a ha).2.1 e, fun a ha => ⟨Nat.lt_of_lt_of_le ((hX.vw s hs).2 a ha).1 hx.size, ((hX.vw s hs).2 a ha).2⟩⟩⟩, hA⟩
  rw [blk_set hX.blk]
  simp

theorem ack_b {B : Nat → Prop} {acked tick : Int} (hS : Bn w00 B w w [] (RJ q [.int .i64 acked] 64 A)) (hl : A.length ≤ 16) {K : Value → World → Prop}
    (hK : ∀ w' L', Bn w00 B w w' L' (RJ q [.int .i64 (if ackB A acked tick then tick else acked)] 64 A) → K (.bool (ackB A acked tick)) w') :
    cl Tryd.prog 14 #[.pointer (some ⟨q, 0, none⟩), .int .i64 tick] w K := by
  obtain ⟨B0, hJ0, hlt, hna, hm, ho⟩ := hS.ex
  obtain ⟨p, c, R, rfl, hX, hA⟩ := hJ0
  have hRl : R.length = A.length := by rw [← hA, List.length_map]
  apply F14_calls
  unfold F14
  refine dr_i (ld_mk (by rw [blk_cell hX.blk]; rfl) (asS_i rfl ?_))
  refine find_k hX.row.reads (by omega) fun w1 hx1 => ?_
  rw [fdV_eq]
  have hS1 := (Bn.fresh w).to hx1
  refine asT_i rfl rfl (asA_i rfl rfl (asI_i rfl (asS_i rfl (asB_i rfl ?_))))
  refine hS1.nw (cs := [.int .i64 0, .slice none 0 0]) fun r w2 hS2 => ?_
  refine hS2.st0 0 rfl rfl rfl fun w3 hS3 => hS3.st 0 rfl rfl rfl fun w4 hS4 => ?_
  have hany : (R.find? fun s => s.t == tick).isSome = A.any fun x => x.1 == tick := by
    rw [← hA, List.any_map, Bool.eq_iff_iff, List.find?_isSome, List.any_eq_true]
    rfl
  have hx4 : Ext no w w4 := hS4.all
  have b4 := hx4.blk hX.blk (fun h => h)
  refine jn_of (fun s w' => s = [.bool (!ackB A acked tick)] ∧ w' = w4) ?_ ?_
  rotate_left
  · intro J hJ
    rw [hany]
    refine cond_split (fun h => hJ _ _ ⟨?_, rfl⟩) (fun h => dr_i (ld_mk (by rw [add_mk, blk_cell b4]; rfl) (asI_i rfl (hJ _ _ ⟨?_, rfl⟩))))
    · have : (A.any fun x => x.1 == tick) = false := by simpa using h
      simp [ackB, this]
    · have : (A.any fun x => x.1 == tick) = true := by simpa using h
      simp only [ackB, this, Bool.true_and, List.cons.injEq, Value.bool.injEq, and_true]
      by_cases hlt : acked < tick
      · simp [hlt]
      · simp [hlt]; omega
  rintro _ w4 ⟨rfl, rfl⟩
  refine asB_i rfl (cond_split (fun h => ?_) (fun h => ?_))
  · have hb : ackB A acked tick = false := by simpa using h
    rw [hb] at hK
    exact hK _ _ (hS.to hx4)
  · have hb : ackB A acked tick = true := by simpa using h
    rw [hb] at hK
    refine dr_i ?_
    rw [add_mk]
    refine st_mk b4 (by simp) rfl ?_
    have hx := Ext.set w4 ⟨q, 0 + 1, none⟩ (.int .i64 tick)
    have hS5 := hS.to hx4
    obtain ⟨B1, hJ1, hlt1, hna1, hm1, ho1⟩ := hS5.ex
    have hq1 : B1 q := by
      obtain ⟨p1, c1, R1, rfl, _, _⟩ := hJ1
      exact .inl rfl
    exact hK _ [] (hS5.act hlt1 hna1 hm1 ho1 RJ.kp hJ1.acked (hx.mono fun k _ hk => (show k = q from hk) ▸ hq1) (fun k hk => Nat.lt_of_lt_of_le (hlt1 k hk) hx.size) fun k _ hk => hk)

theorem view_k {tl : List Value} {T : TypeId} {p : Option Addr} {c : Nat} {R : List Sh} (hX : RX w q tl T p c R) (hl : R.length ≤ 16) (hv : ∀ s ∈ R, s.es.length ≤ 64) {K : Value → World → Prop}
    (hK0 : R = [] → K (.tuple #[.slice none 0 0, .int .i64 0, .bool false]) w)
    (hK : ∀ s, (R.map Sh.abs).getLast? = some s.abs → s ∈ R → ∀ p' c' w', Ext no w w' → RowN w' w.heap.size 59 8 p' c' s.es.length (s.es.flatMap Ent.cells) → K (.tuple #[.slice p' s.es.length c', .int .i64 s.t, .bool true]) w') :
    cl Tryd.prog 16 #[.pointer (some ⟨q, 0, none⟩)] w K := by
  apply F16_calls
  unfold F16
  refine lv_i (dr_i (ld_mk (by rw [blk_cell hX.blk]; rfl) (asS_i rfl (lv_i (cond_split (fun h => lv_i (hK0 ?_)) (fun h => ?_))))))
  · have : R.length = 0 := by
      have : (R.length : Int) = 0 := by simpa using h
      omega
    exact List.eq_nil_of_length_eq_zero this
  have h0 : 0 < R.length := by
    have : ¬ (R.length : Int) = 0 := by simpa using h
    omega
  obtain ⟨s, hs1, hs2⟩ := last_of h0
  have hmem := List.mem_of_getElem? hs1
  refine dw_mk ?_
  have hx : Ext no w w.drew := Ext.drew w
  have bd := hx.blk hX.blk (fun h => h)
  have hrd := (hX.row.ext hx fun _ _ h => h).reads
  refine dr_i (ld_mk (by rw [blk_cell bd]; rfl) (asS_i rfl ?_))
  have e1 : IntKind.wrap .i64 ((R.length : Int) - 1) = ((R.length - 1 : Nat) : Int) := by rw [wr64 (by omega) (by omega)]; omega
  rw [e1]
  refine Reads.atN (f := Sh.cells) Sh.cells_length hrd rfl hs1 (by decide) fun a ha hca => ?_
  rw [Int.toNat_natCast]
  refine ld_mk (hca 1 (by decide)) (asS_i rfl (dr_i (ld_mk (by rw [blk_cell bd]; rfl) (asS_i rfl ?_))))
  subst ha
  have hc0 := hca 0 (by decide)
  rw [Sx.add_zero'] at hc0
  refine dr_i (bnd_mk (by omega) (by omega) (ld_mk hc0 (asI_i rfl ?_)))
  refine eclone_k ((hX.vw s hmem).1.ext hx fun _ _ h => h) (by have := hv s hmem; omega) fun p' c' w2 hx2 hrow => asS_i rfl ?_
  refine hd_i (hx2.cell hc0 (fun h => h)) (hd_i (by rw [blk_cell (hx2.blk bd (fun h => h))]; rfl) (hd_i (by rw [blk_cell (hx2.blk bd (fun h => h))]; rfl) (lv_i ?_)))
  exact hK s hs2 hmem p' c' w2 (hx.trans hx2) hrow
end
end Go.Proofs.YtfnepdppkmjboaaDoor

/- SnFa: the calls of a sender and of an applier inside of the frame of SnE2. Conditions: those of each theorem, on its arguments. -/
namespace Go.Proofs.YtfnepdppkmjboaaDoor
open Go Go.Sx Go.Fp
attribute [local irreducible] jn lv ld st nw asI asB asP asS asY asM asF asA asT lp rn ru rq cl dw dr bnd bn2 nz nn hd hr so eqW
attribute [local irreducible] callOk

section
variable {w00 : World} {M : Nat → Prop} {wa w : World} {L : List (Nat × List Value × TypeId)} {J J1 J2 : (Nat → Prop) → World → Prop} {q : Nat} {A : List (Int × List Ent)}

theorem born_k (h : Bn w00 M wa w L J) {tl : List Value} {T : TypeId} {cs : List Value} (hc : cs = .slice none 0 0 :: tl) : Bn w00 M wa (w.alloc (.cells cs.toArray T)) L (Pj J (RJ w.heap.size tl T [])) := by
  subst hc
  refine h.born (B' := rB w.heap.size none []) (Ext.alloc w _) RJ.kp ⟨none, 0, [], rfl, ⟨new_blk w _, RowN.nil _ _ _ _, (fun a ha => by cases ha), (fun s hs => by cases hs)⟩, rfl⟩ ?_
  rintro k (rfl | ⟨a, ha, _⟩ | ⟨s, hs, _⟩)
  · exact ⟨Nat.le_refl _, by rw [new_size]; omega⟩
  · cases ha
  · cases hs
theorem newS_k (h : Bn w00 M wa w L J) {K : Value → World → Prop} (hK : ∀ r w', Bn w00 M wa w' L (Pj J (RJ r [.int .i64 (-1)] 64 [])) → K (.pointer (some ⟨r, 0, none⟩)) w') : cl Tryd.prog 11 #[] w K := by
  apply F11_calls
  unfold F11
  exact nw_mk (hK _ _ (born_k h (tl := [.int .i64 (-1)]) rfl))
theorem newA_k (h : Bn w00 M wa w L J) {K : Value → World → Prop} (hK : ∀ r w', Bn w00 M wa w' L (Pj J (RJ r [] 66 [])) → K (.pointer (some ⟨r, 0, none⟩)) w') : cl Tryd.prog 12 #[] w K := by
  apply F12_calls
  unfold F12
  exact nw_mk (hK _ _ (born_k h (tl := []) rfl))

theorem HV.reads {LL : List (Nat × List Value × TypeId)} {p : Option Addr} {xs : List Value} (h : HV LL p xs) (hS : Bn w00 M wa w L J) (hsub : ∀ b ∈ LL, b ∈ L) : Reads w p xs := h w fun b hb => (hS.kn b (hsub b hb)).1
theorem HV.mono {LL LL' : List (Nat × List Value × TypeId)} {p : Option Addr} {xs : List Value} (h : HV LL p xs) (hsub : ∀ b ∈ LL, b ∈ LL') : HV LL' p xs := fun w hw => h w fun b hb => hw b (hsub b hb)

theorem makeR {acked : Int} (hp : Pts w00) (h : Bn w00 M wa w L (Pj J (RJ q [.int .i64 acked] 64 A))) (kJ : Kp J) (hA : SOk A) (hac : -1 ≤ acked ∧ acked < 1099511627776) {tick : Int} (htI : I64 tick)
    {pv : Option Addr} {n c : Nat} {es : List Ent} (hv : Reads w pv (es.flatMap Ent.cells)) (hn : es.length = n) (hnl : n ≤ 4611686018427387904) (hI : ∀ e ∈ es, e.I) {K : Value → World → Prop}
    (hK1 : makeE A tick es ≠ 0 → ∀ w', Bn w00 M wa w' L (Pj J (RJ q [.int .i64 acked] 64 A)) → K (.tuple #[.slice none 0 0, .int .i64 (makeE A tick es)]) w')
    (hK0 : makeE A tick es = 0 → ∀ p' c' bs w' L', Bn w00 M wa w' (L' ++ L) (Pj J (RJ q [.int .i64 acked] 64 (lastR (A ++ [(tick, es)])))) → HV L' p' (bv bs) → Packs bs (makeB tick acked (baseV A acked tick) es) → K (.tuple #[.slice p' bs.length c', .int .i64 0]) w') :
    cl Tryd.prog 13 #[.pointer (some ⟨q, 0, none⟩), .int .i64 tick, .slice pv n c] w K := by
  obtain ⟨B, hB, hna, hl⟩ := h.liftR kJ RJ.kp
  refine make_k hp hB hA hac htI hv hn hnl hI (fun he w' hx => hK1 he w' ?_) (fun he p' c' bs w' L' hB' hV hP => hK0 he p' c' bs w' L' (hl hB') hV hP)
  exact h.to hx

theorem ackR {acked : Int} (h : Bn w00 M wa w L (Pj J (RJ q [.int .i64 acked] 64 A))) (kJ : Kp J) (hl : A.length ≤ 16) {tick : Int} {K : Value → World → Prop}
    (hK : ∀ w', Bn w00 M wa w' L (Pj J (RJ q [.int .i64 (if ackB A acked tick then tick else acked)] 64 A)) → K (.bool (ackB A acked tick)) w') :
    cl Tryd.prog 14 #[.pointer (some ⟨q, 0, none⟩), .int .i64 tick] w K := by
  obtain ⟨B, hB, hna, hl'⟩ := h.liftR kJ RJ.kp
  exact ack_b hB hl fun w' L' hB' => hK w' (hl' hB').behind

theorem applyR (hp : Pts w00) (h : Bn w00 M wa w L (Pj J (RJ q [] 66 A))) (kJ : Kp J) (hA : SOk A) {pv : Option Addr} {n c : Nat} {bs : List Nat} (hv : Reads w pv (bv bs)) (hn : bs.length = n)
    {tick acked : Int} {b : Option (List Ent)} {es : List Ent} (hpk : Packs bs (makeB tick acked b es)) (ht : 0 ≤ tick ∧ tick < 1099511627776)
    (hb0 : okV (-1) (b.getD []) = true) (hes : okV (-1) es = true) (hI : ∀ e ∈ es, e.I) (hbase : b.isSome = true → acked < tick ∧ tick - acked < 65536 ∧ 0 ≤ acked ∧ ∀ x ∈ A, x.1 = acked → x.2 = b.getD []) {K : Value → World → Prop}
    (hK1 : applyE A tick acked b ≠ 0 → ∀ w', Bn w00 M wa w' L (Pj J (RJ q [] 66 A)) → K (.tuple #[.int .i64 0, .int .i64 (applyE A tick acked b)]) w')
    (hK0 : applyE A tick acked b = 0 → ∀ w', Bn w00 M wa w' L (Pj J (RJ q [] 66 (lastR (A ++ [(tick, es)])))) → K (.tuple #[.int .i64 tick, .int .i64 0]) w') :
    cl Tryd.prog 15 #[.pointer (some ⟨q, 0, none⟩), .slice pv n c] w K := by
  obtain ⟨B, hB, hna, hl⟩ := h.liftR kJ RJ.kp
  refine apply_b hp hB hA hv hn hpk ht hb0 hes hI hbase (fun he w' hx => hK1 he w' (h.to hx)) fun he w' hB' => hK0 he w' (hl hB').behind

theorem viewR {tl : List Value} {T : TypeId} (h : Bn w00 M wa w L (Pj J (RJ q tl T A))) (kJ : Kp J) (hA : SOk A) {K : Value → World → Prop}
    (hK0 : A = [] → K (.tuple #[.slice none 0 0, .int .i64 0, .bool false]) w)
    (hK : ∀ t es, A.getLast? = some (t, es) → ∀ p' c' w', Bn w00 M wa w' L (Pj J (RJ q tl T A)) → Ext no w w' → RowN w' w.heap.size 59 8 p' c' es.length (es.flatMap Ent.cells) → K (.tuple #[.slice p' es.length c', .int .i64 t, .bool true]) w') :
    cl Tryd.prog 16 #[.pointer (some ⟨q, 0, none⟩)] w K := by
  obtain ⟨B2, ⟨p, c, R, -, hX, hRA⟩, -⟩ := h.actR kJ
  have hRl : R.length = A.length := by rw [← hRA, List.length_map]
  refine view_k hX (by have := hA.len; omega) (fun s hs => ?_) (fun hR => hK0 (by rw [← hRA, hR]; rfl)) fun s hs hsR p' c' w' hx hrow => ?_
  · have : s.abs ∈ A := by rw [← hRA]; exact List.mem_map_of_mem hs
    have := okV_len (hA.ok _ this).1 (by decide)
    have e : s.abs.2 = s.es := rfl
    rw [e] at this
    omega
  · rw [hRA] at hs
    exact hK s.t s.es hs p' c' w' (h.to hx) hx hrow
end

theorem SOk.nil : SOk [] := ⟨by simp, by simp, by simp, List.Pairwise.nil⟩
theorem baseV_some {A : List (Int × List Ent)} {acked tick : Int} (hA : SOk A) (hl : lateB A tick = false) (h : (baseV A acked tick).isSome = true) : acked < tick ∧ tick - acked < 65536 ∧ 0 ≤ acked ∧ (acked, (baseV A acked tick).getD []) ∈ A := by
  unfold baseV at h ⊢
  split at h
  · rename_i hh
    rw [if_pos hh]
    cases hf : A.find? fun x => x.1 == acked with
    | none => rw [hf] at h; cases h
    | some x =>
      have hm := List.mem_of_find?_eq_some hf
      have hx : x.1 = acked := by simpa using List.find?_some hf
      have := late_all hA.inc hl x hm
      refine ⟨by omega, hh.2, hh.1, ?_⟩
      have e : ((some x).map (·.2)).getD [] = x.2 := rfl
      rw [e, ← hx]
      exact hm
  · cases h
theorem baseV_ok {A : List (Int × List Ent)} {acked tick : Int} (hA : SOk A) : okV (-1) ((baseV A acked tick).getD []) = true := by
  unfold baseV
  split
  · cases hf : A.find? fun x => x.1 == acked with
    | none => rfl
    | some x => exact (hA.ok _ (List.mem_of_find?_eq_some hf)).1
  · rfl
theorem makeE0 {A : List (Int × List Ent)} {tick : Int} {es : List Ent} (h : makeE A tick es = 0) : 0 ≤ tick ∧ tick < 1099511627776 ∧ lateB A tick = false ∧ okV (-1) es = true := by
  unfold makeE at h
  split at h
  · cases h
  · rename_i hb
    split at h
    · rename_i hok
      simp only [badT, Bool.or_eq_true, decide_eq_true_eq, not_or] at hb
      obtain ⟨⟨h1, h2⟩, h3⟩ := hb
      exact ⟨by omega, by omega, by simpa using h3, hok⟩
    · cases h
theorem SOk.made {A : List (Int × List Ent)} (hA : SOk A) {tick : Int} {es : List Ent} (h : makeE A tick es = 0) (hI : ∀ e ∈ es, e.I) : SOk (lastR (A ++ [(tick, es)])) := by
  obtain ⟨h1, h2, h3, h4⟩ := makeE0 h
  exact hA.put h1 h2 h4 hI (late_all hA.inc h3)
end Go.Proofs.YtfnepdppkmjboaaDoor

/- SnAw: the document's examples of chapter 22 come out (awake). Condition: the listed table of parts stands. -/
namespace Go.Proofs.YtfnepdppkmjboaaDoor
open Go Go.Sx Go.Fp
attribute [local irreducible] jn lv ld st nw asI asB asP asS asY asM asF asA asT lp rn ru rq cl dw dr bnd bn2 nz nn hd hr so eqW
attribute [local irreducible] callOk

theorem packs_awake : Packs [0, 0, 0, 0, 5, 128, 0] (makeB 5 (-1) none []) := by
  have e : makeB 5 (-1) none [] = numBits 5 40 ++ numBits 1 1 ++ numBits 0 7 ++ numBits 0 7 := by decide +kernel
  rw [e]
  refine ⟨by decide +kernel, by decide, ?_⟩
  have : ∀ i : Fin 56, bitOf [0, 0, 0, 0, 5, 128, 0] i.val = (numBits 5 40 ++ numBits 1 1 ++ numBits 0 7 ++ numBits 0 7).getD i.val false := by decide +kernel
  intro i hi
  exact this ⟨i, by simpa using hi⟩
theorem strB_awake : strB [0, 0, 0, 0, 5, 128, 0] = ⟨#[0, 0, 0, 0, 5, 128, 0]⟩ := by decide
def e64 : Ent := ⟨64, 0, 0, 1, 0, 0, 0, 0⟩
theorem e64_I : e64.I := by unfold Ent.I I64; decide

theorem reads_nil {w : World} {p : Option Addr} {bs : List Nat} (h : Reads w p (bv bs)) (hp : p = none) : bs = [] := by
  rcases h with h | ⟨_, _, h, _⟩
  · simpa [bv] using h
  · rw [hp] at h; cases h

set_option maxRecDepth 100000 in
set_option maxHeartbeats 3200000 in
theorem awake_k {w : World} (hp : Pts w) {K : Value → World → Prop} (hK : ∀ w', Ext no w w' → K (.bool true) w') : cl Tryd.prog 10 #[] w K := by
  apply F10_calls
  unfold F10
  refine newS_k (Bn.fresh w) fun rs w1 hS => asP_i rfl (newA_k (hS.sndJ emp_kp RJ.kp) fun ra w2 hS => asP_i rfl ?_)
  refine jn_mk (cond_f rfl (asB_i rfl (cond_f rfl ?_)))
  have h5 : I64 5 := by unfold I64; decide
  have h6 : I64 6 := by unfold I64; decide
  refine makeR hp (hS.swap RJ.kp RJ.kp) RJ.kp SOk.nil (by decide) h5 (es := []) (.inl rfl) rfl (by decide) (by simp) (fun he => absurd rfl he) fun he p1 c1 bs1 w3 L1 hS hV1 hP1 => ?_
  have hA1 : SOk (lastR ([] ++ [((5 : Int), ([] : List Ent))])) := SOk.nil.made he (by simp)
  have hb1 : bs1 = [0, 0, 0, 0, 5, 128, 0] := hP1.unique packs_awake
  refine asT_i rfl rfl (asS_i rfl (asI_i rfl (lv_i ?_)))
  have hr1 : Reads w3 p1 (bv bs1) := hV1.reads hS fun b hb => List.mem_append_left _ hb
  refine applyR hp (hS.swap RJ.kp RJ.kp) RJ.kp SOk.nil hr1 rfl hP1 (by decide) rfl rfl (by simp) (fun h => by cases h) (fun he => absurd rfl he) fun _ w4 hS => ?_
  refine asT_i rfl rfl (asI_i rfl (asI_i rfl (lv_i (lv_i ?_))))
  have hr1 : Reads w4 p1 (bv bs1) := hV1.reads hS fun b hb => List.mem_append_left _ hb
  refine applyR hp hS RJ.kp hA1 hr1 rfl hP1 (by decide) rfl rfl (by simp) (fun h => by cases h) (fun _ w5 hS => ?_) fun he => absurd he (by decide)
  refine asT_i rfl rfl (asI_i rfl (asI_i rfl (lv_i (lv_i ?_))))
  refine viewR hS RJ.kp hA1 (fun h => by cases h) fun t es hlast p2 c2 w6 hS hx6 hrow2 => ?_
  obtain ⟨rfl, rfl⟩ : (5 : Int) = t ∧ ([] : List Ent) = es := by
    have h2 : some ((5 : Int), ([] : List Ent)) = some (t, es) := hlast
    simpa using h2
  refine asT_i rfl rfl (asS_i rfl (asI_i rfl (asB_i rfl (lv_i ?_))))
  refine ackR (hS.swap RJ.kp RJ.kp) RJ.kp (by decide) fun w7 hS => asB_i rfl ?_
  have ea : ackB (lastR ([] ++ [((5 : Int), ([] : List Ent))])) (-1) 5 = true := by decide
  rw [ea] at hS ⊢
  simp only [if_true] at hS
  refine ackR hS RJ.kp (by decide) fun w8 hS => asB_i rfl ?_
  have ea : ackB (lastR ([] ++ [((5 : Int), ([] : List Ent))])) 5 5 = false := by decide
  rw [ea] at hS ⊢
  simp only [Bool.false_eq_true, if_false] at hS
  refine hS.nw (cs := e64.cells) fun re w9 hS => ?_
  have hre : Reads w9 (some ⟨re, 0, none⟩) ([e64].flatMap Ent.cells) := by
    refine .inr ⟨re, 0, rfl, fun i v hv => ?_⟩
    rw [Nat.zero_add]
    exact hS.cell 0 rfl (by simpa using hv)
  have hI1 : ∀ e ∈ [e64], e.I := fun e he => by rw [List.mem_singleton.1 he]; exact e64_I
  refine makeR hp hS RJ.kp hA1 (by decide) h6 hre rfl (by decide) hI1 (fun he => absurd (by decide) he) fun he p3 c3 bs3 w10 L3 hS hV3 hP3 => ?_
  have hA3 := hA1.made he hI1
  refine asT_i rfl rfl (asS_i rfl (asI_i rfl (lv_i ?_)))
  have hr3 : Reads w10 p3 (bv bs3) := hV3.reads hS fun b hb => List.mem_append_left _ hb
  have hbs : baseV (lastR ([] ++ [((5 : Int), ([] : List Ent))])) 5 6 = some [] := by decide
  rw [hbs] at hP3
  refine applyR hp (hS.swap RJ.kp RJ.kp) RJ.kp hA1 hr3 rfl hP3 (by decide) rfl (by decide) hI1 (fun _ => ⟨by decide, by decide, by decide, fun x hx _ => ?_⟩) (fun he => absurd (by decide) he) fun _ w11 hS => ?_
  · have : x ∈ [((5 : Int), ([] : List Ent))] := hx
    rw [List.mem_singleton.1 this]
    rfl
  refine asT_i rfl rfl (asI_i rfl (asI_i rfl (lv_i (lv_i ?_))))
  refine viewR hS RJ.kp hA3 (fun h => by cases h) fun t es hlast p4 c4 w12 hS hx12 hrow4 => ?_
  obtain ⟨rfl, rfl⟩ : (6 : Int) = t ∧ [e64] = es := by
    have h2 : some ((6 : Int), [e64]) = some (t, es) := hlast
    simpa using h2
  refine asT_i rfl rfl (asS_i rfl (asI_i rfl (asB_i rfl (lv_i (nw_mk ?_)))))
  have hx13 : Ext no w12 (w12.alloc (.cells Ent.zero.cells.toArray 59)) := Ext.alloc w12 _
  have hrz : Reads (w12.alloc (.cells Ent.zero.cells.toArray 59)) (some ⟨w12.heap.size, 0, none⟩) ([Ent.zero].flatMap Ent.cells) := by
    have := Reads.new w12 Ent.zero.cells 59
    simpa using this
  refine vright_k hrz rfl (by decide) (fun e he => by rw [List.mem_singleton.1 he]; exact zero_I) fun w14 hx14 => asI_i rfl (lv_i ?_)
  have hx := hx13.trans hx14
  have hS := hS.to hx
  have hr1 : Reads w14 p1 (bv bs1) := hV1.reads hS fun b hb => List.mem_append_right _ (List.mem_cons_of_mem _ (List.mem_append_left _ hb))
  have hr4 := hrow4.reads.ext hx fun _ _ h => h
  subst hb1
  have ez : (if okV (-1) [Ent.zero] = true then (0 : Int) else 220) = 220 := by decide
  rw [ez]
  refine jn_mk (cond_t rfl (rq_mk (run_str (bs := [0, 0, 0, 0, 5, 128, 0]) s22.und rfl rfl hr1 rfl (reads_nil hr1)) (asY_i rfl ?_)))
  rw [strB_awake]
  refine cond_t (by simp) (cond_t rfl (cond_t rfl (cond_t rfl (cond_t rfl (cond_t rfl (cond_t rfl (cond_t rfl (cond_t rfl (cond_t rfl (cond_t rfl (cond_t rfl ?_)))))))))))
  refine Reads.atN (f := Ent.cells) Ent.cells_length hr4 (i := 0) rfl rfl (by decide) fun a _ hca => ?_
  have hc0 := hca 0 (by decide)
  rw [Sx.add_zero'] at hc0
  exact ld_mk hc0 (asI_i rfl (cond_t rfl (asB_i rfl (hK _ hS.all))))
end Go.Proofs.YtfnepdppkmjboaaDoor

/- The formulas that the evaluator Sx.ev comes to for functions of this seat, each with its linking theorem (by the kernel). Printed by this session's own program (wip/tool/sxgen.py). -/
namespace Go.Proofs.YtfnepdppkmjboaaDoor
open Go Go.Sx
set_option maxRecDepth 100000

/-! tiltyard/tiltyardlaw22.SnapJust -/
def h3 : Hint := (.s .d (.s .d (.s .d (.s .d (.s (.j [(34, 4)] .d .d) (.s .d (.s .d (.s (.s .d (.l [(8, 29), (9, 22), (10, 3)] (.s (.j [(42, 4)] .d .d) (.j [(8, 29), (9, 22)] (.s .d (.j [(49, 4)] .d (.s .d (.s .d (.s .d (.s .d (.s (.s .d (.s .d (.s (.s .d (.s .d (.s (.j [(137, 4)] .d .d) (.j [(21, 4)] .d .d)))) .d))) .d))))))) .d)))) .d))))))))
set_option linter.unusedVariables false in
def F3 (views : Option Addr) (views_n views_c : Nat) (net : Option Addr) (net_n net_c : Nat) (w : World) (Q : Value → World → Prop) : Prop :=
 
(cl Tryd.prog 10 #[] w fun v1 w2 => asB v1 fun b3 => 
(cl Tryd.prog 11 #[] w2 fun v4 w5 => asP v4 fun p6 => 
(cl Tryd.prog 12 #[] w5 fun v7 w8 => asP v7 fun p9 => 
(jn (fun s10 w11 => asB (s10.getD 0 undef) fun b13 => (cond b13 
(Q (.bool false) w11) 


(lv (0 : Int) fun i_14 => 
(lp [(.slice none 0 0), (.slice none 0 0), (.int .i64 i_14)] w11 fun J17 s15 w16 => asS (s15.getD 0 undef) fun p18 n19 c20 => asS (s15.getD 1 undef) fun p21 n22 c23 => asI .i64 (s15.getD 2 undef) fun x24 => (jn (fun s25 w26 => asB (s25.getD 0 undef) fun b28 => (cond b28 
(jn (fun s29 w30 => asS (s29.getD 0 undef) fun p108 n109 c110 => asS (s29.getD 1 undef) fun p111 n112 c113 => (lv (IntKind.wrap .i64 (x24 + (1 : Int))) fun i_114 => (J17 [(.slice p108 n109 c110), (.slice p111 n112 c113), (.int .i64 i_114)] w30)))
 (fun J31 => (dr net fun a32 => (bnd x24 net_n (ld w26 (Addr.add a32 (Int.toNat x24 * 1)) fun v33 => asI .i64 v33 fun x34 => (lv x34 fun k_35 => 
(jn (fun s36 w37 => asB (s36.getD 0 undef) fun b39 => (cond b39 (nz (views_n : Int) (dr views fun a40 => (bnd (Int.tmod (Go.bits .and .i64 (Int.fdiv k_35 (2 ^ (min (Int.toNat (2 : Int)) 64))) (255 : Int)) (views_n : Int)) views_n (ld w37 (Addr.add a40 (Int.toNat (Int.tmod (Go.bits .and .i64 (Int.fdiv k_35 (2 ^ (min (Int.toNat (2 : Int)) 64))) (255 : Int)) (views_n : Int)) * 1)) fun v41 => asS v41 fun p42 n43 c44 => 
(cl Tryd.prog 13 #[(.pointer p6), (.int .i64 (n19 : Int)), (.slice p42 n43 c44)] w37 fun v45 w46 => asT 2 v45 fun t47 => asS (t47 0) fun p48 n49 c50 => asI .i64 (t47 1) fun x51 => (lv x51 fun e_52 => 

(cond (e_52 == (0 : Int)) (nw w46 (.cells #[(.slice p48 n49 c50)] 32) fun r53 w54 => (rn Tryd.prog (Builtin.append_ #[29, 29] 29 #[(.slice p18 n19 c20), (.slice (some (⟨r53, 0, none⟩ : Addr)) 1 1)]) w54 fun v55 w56 => asS v55 fun p57 n58 c59 => 
(nw w56 (.cells #[(.slice p42 n43 c44)] 30) fun r60 w61 => (rn Tryd.prog (Builtin.append_ #[22, 22] 22 #[(.slice p21 n22 c23), (.slice (some (⟨r60, 0, none⟩ : Addr)) 1 1)]) w61 fun v62 w63 => asS v62 fun p64 n65 c66 => (J31 [(.slice p57 n58 c59), (.slice p64 n65 c66)] w63))))) (J31 [(.slice p18 n19 c20), (.slice p21 n22 c23)] w46)))))))) 
(cond ((Go.bits .and .i64 k_35 (3 : Int)) == (1 : Int)) (cl Tryd.prog 14 #[(.pointer p6), (.int .i64 (Go.bits .and .i64 (Int.fdiv k_35 (2 ^ (min (Int.toNat (2 : Int)) 64))) (255 : Int)))] w37 fun v67 w68 => asB v67 fun b69 => (J31 [(.slice p18 n19 c20), (.slice p21 n22 c23)] w68)) 
(cond (decide ((n19 : Int) > (0 : Int))) (lv (IntKind.wrap .i64 ((IntKind.wrap .i64 ((n19 : Int) - (1 : Int))) - (Go.bits .and .i64 (Int.fdiv k_35 (2 ^ (min (Int.toNat (2 : Int)) 64))) (31 : Int)))) fun n_70 => 

(cond (decide (n_70 ≥ (0 : Int))) (dr p18 fun a71 => (bnd n_70 n19 (ld w37 (Addr.add a71 (Int.toNat n_70 * 1)) fun v72 => asS v72 fun p73 n74 c75 => (cl Tryd.prog 15 #[(.pointer p9), (.slice p73 n74 c75)] w37 fun v76 w77 => asT 2 v76 fun t78 => asI .i64 (t78 0) fun x79 => asI .i64 (t78 1) fun x80 => (lv x79 fun t_81 => (lv x80 fun e_82 => 
(cl Tryd.prog 16 #[(.pointer p9)] w77 fun v83 w84 => asT 3 v83 fun t85 => asS (t85 0) fun p86 n87 c88 => asI .i64 (t85 1) fun x89 => asB (t85 2) fun b90 => (lv x89 fun m_91 => 
(jn (fun s92 w93 => asB (s92.getD 0 undef) fun b95 => (cond b95 
(Q (.bool false) w93) 
(jn (fun s96 w97 => asB (s96.getD 0 undef) fun b107 => 
(cond (!b107) 
(Q (.bool false) w97) (J31 [(.slice p18 n19 c20), (.slice p21 n22 c23)] w97)))
 (fun J98 => (cond (!b90) (J98 [(.bool true)] w93) (dr p21 fun a99 => (bnd m_91 n22 (ld w93 (Addr.add a99 (Int.toNat m_91 * 1)) fun v100 => asS v100 fun p101 n102 c103 => (cl Tryd.prog 17 #[(.slice p86 n87 c88), (.slice p101 n102 c103)] w93 fun v104 w105 => asB v104 fun b106 => (J98 [(.bool b106)] w105))))))))))
 (fun J94 => (cond (e_82 == (0 : Int)) (cond (t_81 != n_70) (J94 [(.bool true)] w84) (cond (m_91 != n_70) (J94 [(.bool true)] w84) (J94 [(.bool (!b90))] w84))) (J94 [(.bool false)] w84)))))))))))) (J31 [(.slice p18 n19 c20), (.slice p21 n22 c23)] w37))) (J31 [(.slice p18 n19 c20), (.slice p21 n22 c23)] w37)))))
 (fun J38 => (cond ((Go.bits .and .i64 k_35 (3 : Int)) == (0 : Int)) (J38 [(.bool (decide ((views_n : Int) > (0 : Int))))] w26) (J38 [(.bool false)] w26)))))))))) 

(Q (.bool true) w26)))
 (fun J27 => (cond (decide (x24 < (net_n : Int))) (J27 [(.bool (decide (x24 < (300 : Int))))] w16) (J27 [(.bool false)] w16))))))))
 (fun J12 => (cond (!b3) (J12 [(.bool true)] w8) (cond (Option.isNone p6) (J12 [(.bool true)] w8) (J12 [(.bool (Option.isNone p9))] w8))))))))
theorem F3_link (views : Option Addr) (views_n views_c : Nat) (net : Option Addr) (net_n net_c : Nat) (w : World) (Q : Value → World → Prop) : fnEv Tryd.prog Tryd.f3 h3 [(.slice views views_n views_c), (.slice net net_n net_c)] w Q = F3 views views_n views_c net net_n net_c w Q := by kernel_rfl
theorem F3_calls {views : Option Addr} {views_n views_c : Nat} {net : Option Addr} {net_n net_c : Nat} {w : World} {Q : Value → World → Prop} (hF_ : F3 views views_n views_c net net_n net_c w Q) : cl Tryd.prog 3 #[(.slice views views_n views_c), (.slice net net_n net_c)] w Q :=
  calls_of_ev (fn := Tryd.f3) Tryd.func3 h3 (args := [(.slice views views_n views_c), (.slice net net_n net_c)]) (by rw [F3_link]; exact hF_)

/-! tiltyard/tiltyardlaw22.SnapComes -/
def h4 : Hint := (.s .d (.s .d (.s .d (.s .d (.s (.j [(29, 4)] .d .d) (.s .d (.s (.s .d (.l [(10, 3), (11, 3)] (.s (.j [(37, 4)] .d .d) (.j [(10, 3)] (.s .d (.s .d (.s .d (.s (.j [(66, 4)] .d .d) (.s .d (.s (.j [(79, 4)] .d .d) (.j [(90, 4)] .d .d))))))) .d)))) .d)))))))
set_option linter.unusedVariables false in
def F4 (views : Option Addr) (views_n views_c : Nat) (lost : Option Addr) (lost_n lost_c : Nat) (unheard : Option Addr) (unheard_n unheard_c : Nat) (w : World) (Q : Value → World → Prop) : Prop :=
 
(cl Tryd.prog 10 #[] w fun v1 w2 => asB v1 fun b3 => 
(cl Tryd.prog 11 #[] w2 fun v4 w5 => asP v4 fun p6 => 
(cl Tryd.prog 12 #[] w5 fun v7 w8 => asP v7 fun p9 => 
(jn (fun s10 w11 => asB (s10.getD 0 undef) fun b13 => (cond b13 
(Q (.bool false) w11) 
(lv (0 : Int) fun tick_14 => 
(lv (0 : Int) fun i_15 => 
(lp [(.int .i64 tick_14), (.int .i64 i_15)] w11 fun J18 s16 w17 => asI .i64 (s16.getD 0 undef) fun x19 => asI .i64 (s16.getD 1 undef) fun x20 => (jn (fun s21 w22 => asB (s21.getD 0 undef) fun b24 => (cond b24 
(jn (fun s25 w26 => asI .i64 (s25.getD 0 undef) fun x70 => (lv (IntKind.wrap .i64 (x20 + (1 : Int))) fun i_71 => (J18 [(.int .i64 x70), (.int .i64 i_71)] w26)))
 (fun J27 => (lv (IntKind.wrap .i64 ((IntKind.wrap .i64 (x19 + (1 : Int))) + (Go.bits .and .i64 x20 (3 : Int)))) fun tick_28 => 
(dr views fun a29 => (bnd x20 views_n (ld w22 (Addr.add a29 (Int.toNat x20 * 1)) fun v30 => asS v30 fun p31 n32 c33 => (cl Tryd.prog 13 #[(.pointer p6), (.int .i64 tick_28), (.slice p31 n32 c33)] w22 fun v34 w35 => asT 2 v34 fun t36 => asS (t36 0) fun p37 n38 c39 => asI .i64 (t36 1) fun x40 => (lv x40 fun e_41 => 

(cond (e_41 != (0 : Int)) (J27 [(.int .i64 tick_28)] w35) 
(jn (fun s42 w43 => asB (s42.getD 0 undef) fun b48 => (cond b48 (J27 [(.int .i64 tick_28)] w43) 
(cl Tryd.prog 15 #[(.pointer p9), (.slice p37 n38 c39)] w43 fun v49 w50 => asT 2 v49 fun t51 => asI .i64 (t51 0) fun x52 => asI .i64 (t51 1) fun x53 => (lv x52 fun n_54 => (lv x53 fun f_55 => 
(jn (fun s56 w57 => asB (s56.getD 0 undef) fun b59 => (cond b59 
(Q (.bool false) w57) 
(jn (fun s60 w61 => asB (s60.getD 0 undef) fun b66 => (cond b66 (cl Tryd.prog 14 #[(.pointer p6), (.int .i64 tick_28)] w61 fun v67 w68 => asB v67 fun b69 => 

(cond (!b69) 
(Q (.bool false) w68) (J27 [(.int .i64 tick_28)] w68))) (J27 [(.int .i64 tick_28)] w61)))
 (fun J62 => (cond (decide (x20 ≥ (unheard_n : Int))) (J62 [(.bool true)] w57) (dr unheard fun a63 => (bnd x20 unheard_n (ld w57 (Addr.add a63 (Int.toNat x20 * 1)) fun v64 => asB v64 fun b65 => (J62 [(.bool (!b65))] w57)))))))))
 (fun J58 => (cond (f_55 != (0 : Int)) (J58 [(.bool true)] w50) (J58 [(.bool (n_54 != tick_28))] w50)))))))))
 (fun J44 => (cond (decide (x20 < (lost_n : Int))) (dr lost fun a45 => (bnd x20 lost_n (ld w35 (Addr.add a45 (Int.toNat x20 * 1)) fun v46 => asB v46 fun b47 => (J44 [(.bool b47)] w35)))) (J44 [(.bool false)] w35))))))))))))) 

(Q (.bool true) w22)))
 (fun J23 => (cond (decide (x20 < (views_n : Int))) (J23 [(.bool (decide (x20 < (100 : Int))))] w17) (J23 [(.bool false)] w17)))))))))
 (fun J12 => (cond (!b3) (J12 [(.bool true)] w8) (cond (Option.isNone p6) (J12 [(.bool true)] w8) (J12 [(.bool (Option.isNone p9))] w8))))))))
theorem F4_link (views : Option Addr) (views_n views_c : Nat) (lost : Option Addr) (lost_n lost_c : Nat) (unheard : Option Addr) (unheard_n unheard_c : Nat) (w : World) (Q : Value → World → Prop) : fnEv Tryd.prog Tryd.f4 h4 [(.slice views views_n views_c), (.slice lost lost_n lost_c), (.slice unheard unheard_n unheard_c)] w Q = F4 views views_n views_c lost lost_n lost_c unheard unheard_n unheard_c w Q := by kernel_rfl
theorem F4_calls {views : Option Addr} {views_n views_c : Nat} {lost : Option Addr} {lost_n lost_c : Nat} {unheard : Option Addr} {unheard_n unheard_c : Nat} {w : World} {Q : Value → World → Prop} (hF_ : F4 views views_n views_c lost lost_n lost_c unheard unheard_n unheard_c w Q) : cl Tryd.prog 4 #[(.slice views views_n views_c), (.slice lost lost_n lost_c), (.slice unheard unheard_n unheard_c)] w Q :=
  calls_of_ev (fn := Tryd.f4) Tryd.func4 h4 (args := [(.slice views views_n views_c), (.slice lost lost_n lost_c), (.slice unheard unheard_n unheard_c)]) (by rw [F4_link]; exact hF_)

/-! tiltyard/tiltyardlaw22.SnapWhole -/
def h5 : Hint := (.s .d (.s .d (.s .d (.s (.j [(22, 4)] .d .d) (.s (.s .d (.l [(5, 3)] (.s (.j [(30, 4)] .d .d) (.j [] (.s .d (.s .d (.s .d (.s .d (.s .d (.s .d (.s .d (.j [(80, 4)] .d .d)))))))) .d)))) .d)))))
set_option linter.unusedVariables false in
def F5 (views : Option Addr) (views_n views_c : Nat) (w : World) (Q : Value → World → Prop) : Prop :=
 
(cl Tryd.prog 10 #[] w fun v1 w2 => asB v1 fun b3 => 
(cl Tryd.prog 11 #[] w2 fun v4 w5 => asP v4 fun p6 => 
(jn (fun s7 w8 => asB (s7.getD 0 undef) fun b10 => (cond b10 
(Q (.bool false) w8) 
(lv (0 : Int) fun i_11 => 
(lp [(.int .i64 i_11)] w8 fun J14 s12 w13 => asI .i64 (s12.getD 0 undef) fun x15 => (jn (fun s16 w17 => asB (s16.getD 0 undef) fun b19 => (cond b19 
(jn (fun s20 w21 => (lv (IntKind.wrap .i64 (x15 + (1 : Int))) fun i_67 => (J14 [(.int .i64 i_67)] w21)))
 (fun J22 => (dr views fun a23 => (bnd x15 views_n (ld w17 (Addr.add a23 (Int.toNat x15 * 1)) fun v24 => asS v24 fun p25 n26 c27 => (cl Tryd.prog 13 #[(.pointer p6), (.int .i64 x15), (.slice p25 n26 c27)] w17 fun v28 w29 => asT 2 v28 fun t30 => asS (t30 0) fun p31 n32 c33 => asI .i64 (t30 1) fun x34 => (lv x34 fun e_35 => 

(cond (e_35 != (0 : Int)) (J22 [] w29) 
(cl Tryd.prog 12 #[] w29 fun v36 w37 => asP v36 fun p38 => 

(cond (Option.isNone p38) 
(Q (.bool false) w37) 
(cl Tryd.prog 15 #[(.pointer p38), (.slice p31 n32 c33)] w37 fun v39 w40 => asT 2 v39 fun t41 => asI .i64 (t41 0) fun x42 => asI .i64 (t41 1) fun x43 => (lv x42 fun n_44 => (lv x43 fun f_45 => 
(cl Tryd.prog 16 #[(.pointer p38)] w40 fun v46 w47 => asT 3 v46 fun t48 => asS (t48 0) fun p49 n50 c51 => asI .i64 (t48 1) fun x52 => asB (t48 2) fun b53 => (lv x52 fun __54 => 
(dr views fun a55 => (bnd x15 views_n (ld w47 (Addr.add a55 (Int.toNat x15 * 1)) fun v56 => asS v56 fun p57 n58 c59 => (cl Tryd.prog 17 #[(.slice p49 n50 c51), (.slice p57 n58 c59)] w47 fun v60 w61 => asB v60 fun b62 => 
(jn (fun s63 w64 => asB (s63.getD 0 undef) fun b66 => (cond b66 
(Q (.bool false) w64) (J22 [] w64)))
 (fun J65 => (cond (n_44 != x15) (J65 [(.bool true)] w61) (cond (f_45 != (0 : Int)) (J65 [(.bool true)] w61) (cond (!b53) (J65 [(.bool true)] w61) (J65 [(.bool (!b62))] w61))))))))))))))))))))))))) 

(Q (.bool true) w17)))
 (fun J18 => (cond (decide (x15 < (views_n : Int))) (J18 [(.bool (decide (x15 < (60 : Int))))] w13) (J18 [(.bool false)] w13))))))))
 (fun J9 => (cond (!b3) (J9 [(.bool true)] w5) (J9 [(.bool (Option.isNone p6))] w5))))))
theorem F5_link (views : Option Addr) (views_n views_c : Nat) (w : World) (Q : Value → World → Prop) : fnEv Tryd.prog Tryd.f5 h5 [(.slice views views_n views_c)] w Q = F5 views views_n views_c w Q := by kernel_rfl
theorem F5_calls {views : Option Addr} {views_n views_c : Nat} {w : World} {Q : Value → World → Prop} (hF_ : F5 views views_n views_c w Q) : cl Tryd.prog 5 #[(.slice views views_n views_c)] w Q :=
  calls_of_ev (fn := Tryd.f5) Tryd.func5 h5 (args := [(.slice views views_n views_c)]) (by rw [F5_link]; exact hF_)

/-! tiltyard/tiltyardlaw22.SnapSmall -/
def h6 : Hint := (.s .d (.s .d (.s .d (.s (.j [(20, 4)] .d .d) (.s .d (.s .d (.s .d (.s (.s .d (.l [(10, 3)] (.s .d (.s (.s .d (.j [(53, 4)] .d .d)) .d)))) .d))))))))
set_option linter.unusedVariables false in
def F6 (view : Option Addr) (view_n view_c : Nat) (ticks : Int) (w : World) (Q : Value → World → Prop) : Prop :=
 
(cl Tryd.prog 10 #[] w fun v1 w2 => asB v1 fun b3 => 
(cl Tryd.prog 11 #[] w2 fun v4 w5 => asP v4 fun p6 => 
(jn (fun s7 w8 => asB (s7.getD 0 undef) fun b10 => (cond b10 
(Q (.bool false) w8) 
(cl Tryd.prog 13 #[(.pointer p6), (.int .i64 (0 : Int)), (.slice view view_n view_c)] w8 fun v11 w12 => asT 2 v11 fun t13 => asS (t13 0) fun p14 n15 c16 => asI .i64 (t13 1) fun x17 => (lv x17 fun e_18 => 
(cl Tryd.prog 14 #[(.pointer p6), (.int .i64 (0 : Int))] w12 fun v19 w20 => asB v19 fun b21 => 

(cond (e_18 != (0 : Int)) 
(Q (.bool (!b21)) w20) 
(lv (1 : Int) fun i_22 => 
(lp [(.int .i64 i_22)] w20 fun J25 s23 w24 => asI .i64 (s23.getD 0 undef) fun x26 => 
(cond (decide (x26 ≤ (IntKind.wrap .i64 ((1 : Int) + (Go.bits .and .i64 ticks (7 : Int)))))) 
(cl Tryd.prog 13 #[(.pointer p6), (.int .i64 x26), (.slice view view_n view_c)] w24 fun v27 w28 => asT 2 v27 fun t29 => asS (t29 0) fun p30 n31 c32 => asI .i64 (t29 1) fun x33 => (lv x33 fun f_34 => 
(jn (fun s35 w36 => asB (s35.getD 0 undef) fun b38 => (cond b38 
(Q (.bool false) w36) 
(lv (IntKind.wrap .i64 (x26 + (1 : Int))) fun i_39 => (J25 [(.int .i64 i_39)] w36))))
 (fun J37 => (cond (f_34 != (0 : Int)) (J37 [(.bool true)] w28) (J37 [(.bool ((n31 : Int) != (9 : Int)))] w28)))))) 

(Q (.bool b21) w24))))))))))
 (fun J9 => (cond (!b3) (J9 [(.bool true)] w5) (J9 [(.bool (Option.isNone p6))] w5))))))
theorem F6_link (view : Option Addr) (view_n view_c : Nat) (ticks : Int) (w : World) (Q : Value → World → Prop) : fnEv Tryd.prog Tryd.f6 h6 [(.slice view view_n view_c), (.int .i64 ticks)] w Q = F6 view view_n view_c ticks w Q := by kernel_rfl
theorem F6_calls {view : Option Addr} {view_n view_c : Nat} {ticks : Int} {w : World} {Q : Value → World → Prop} (hF_ : F6 view view_n view_c ticks w Q) : cl Tryd.prog 6 #[(.slice view view_n view_c), (.int .i64 ticks)] w Q :=
  calls_of_ev (fn := Tryd.f6) Tryd.func6 h6 (args := [(.slice view view_n view_c), (.int .i64 ticks)]) (by rw [F6_link]; exact hF_)

/-! tiltyard/tiltyardlaw22.SnapAcks -/
def h7 : Hint := (.s .d (.s .d (.s .d (.s (.j [(17, 4)] .d .d) (.s .d (.s (.s .d (.l [(5, 3), (6, 3)] (.s (.j [(25, 4)] .d .d) (.j [(5, 3)] (.s .d (.s .d (.s (.j [(68, 4)] .d .d) .d))) .d)))) .d))))))
set_option linter.unusedVariables false in
def F7 (acks : Option Addr) (acks_n acks_c : Nat) (w : World) (Q : Value → World → Prop) : Prop :=
 
(cl Tryd.prog 10 #[] w fun v1 w2 => asB v1 fun b3 => 
(cl Tryd.prog 11 #[] w2 fun v4 w5 => asP v4 fun p6 => 
(jn (fun s7 w8 => asB (s7.getD 0 undef) fun b10 => (cond b10 
(Q (.bool false) w8) 
(lv (-1 : Int) fun last_11 => 
(lv (0 : Int) fun i_12 => 
(lp [(.int .i64 last_11), (.int .i64 i_12)] w8 fun J15 s13 w14 => asI .i64 (s13.getD 0 undef) fun x16 => asI .i64 (s13.getD 1 undef) fun x17 => (jn (fun s18 w19 => asB (s18.getD 0 undef) fun b21 => (cond b21 
(jn (fun s22 w23 => asI .i64 (s22.getD 0 undef) fun x56 => (lv (IntKind.wrap .i64 (x17 + (1 : Int))) fun i_57 => (J15 [(.int .i64 x56), (.int .i64 i_57)] w23)))
 (fun J24 => (cl Tryd.prog 13 #[(.pointer p6), (.int .i64 x17), (.slice none 0 0)] w19 fun v25 w26 => asT 2 v25 fun t27 => asS (t27 0) fun p28 n29 c30 => asI .i64 (t27 1) fun x31 => (lv x31 fun e_32 => 
(dr acks fun a33 => (bnd x17 acks_n (ld w26 (Addr.add a33 (Int.toNat x17 * 1)) fun v34 => asI .i64 v34 fun x35 => (cl Tryd.prog 14 #[(.pointer p6), (.int .i64 x35)] w26 fun v36 w37 => asB v36 fun b38 => 
(jn (fun s39 w40 => asB (s39.getD 0 undef) fun b51 => (cond b51 
(Q (.bool false) w40) 

(cond b38 (dr acks fun a52 => (bnd x17 acks_n (ld w40 (Addr.add a52 (Int.toNat x17 * 1)) fun v53 => asI .i64 v53 fun x54 => (lv x54 fun last_55 => (J24 [(.int .i64 last_55)] w40))))) (J24 [(.int .i64 x16)] w40))))
 (fun J41 => (cond (e_32 != (0 : Int)) (J41 [(.bool true)] w37) (dr acks fun a42 => (bnd x17 acks_n (ld w37 (Addr.add a42 (Int.toNat x17 * 1)) fun v43 => asI .i64 v43 fun x44 => (cond (decide (x44 > x16)) (dr acks fun a45 => (bnd x17 acks_n (ld w37 (Addr.add a45 (Int.toNat x17 * 1)) fun v46 => asI .i64 v46 fun x47 => (cond (decide (x47 ≤ x17)) (dr acks fun a48 => (bnd x17 acks_n (ld w37 (Addr.add a48 (Int.toNat x17 * 1)) fun v49 => asI .i64 v49 fun x50 => (J41 [(.bool (!(b38 == (decide (x50 > (IntKind.wrap .i64 (x17 - (16 : Int))))))))] w37)))) (J41 [(.bool (!(b38 == false)))] w37))))) (J41 [(.bool (!(b38 == false)))] w37)))))))))))))))) 

(Q (.bool true) w19)))
 (fun J20 => (cond (decide (x17 < (acks_n : Int))) (J20 [(.bool (decide (x17 < (60 : Int))))] w14) (J20 [(.bool false)] w14)))))))))
 (fun J9 => (cond (!b3) (J9 [(.bool true)] w5) (J9 [(.bool (Option.isNone p6))] w5))))))
theorem F7_link (acks : Option Addr) (acks_n acks_c : Nat) (w : World) (Q : Value → World → Prop) : fnEv Tryd.prog Tryd.f7 h7 [(.slice acks acks_n acks_c)] w Q = F7 acks acks_n acks_c w Q := by kernel_rfl
theorem F7_calls {acks : Option Addr} {acks_n acks_c : Nat} {w : World} {Q : Value → World → Prop} (hF_ : F7 acks acks_n acks_c w Q) : cl Tryd.prog 7 #[(.slice acks acks_n acks_c)] w Q :=
  calls_of_ev (fn := Tryd.f7) Tryd.func7 h7 (args := [(.slice acks acks_n acks_c)]) (by rw [F7_link]; exact hF_)

/-! tiltyard/tiltyardlaw22.SnapNear -/
def h8 : Hint := (.s .d (.s .d (.s .d (.s .d (.s .d (.s .d (.s .d (.s .d (.s .d (.j [(8, 4)] .d .d))))))))))
set_option linter.unusedVariables false in
def F8 (l : Option Addr) (l_n l_c : Nat) (me : Int) (r : Int) (most : Int) (w : World) (Q : Value → World → Prop) : Prop :=
 
(cl Tryd.prog 10 #[] w fun v1 w2 => asB v1 fun b3 => 
(cl Tryd.prog 18 #[(.slice l l_n l_c)] w2 fun v4 w5 => asS v4 fun p6 n7 c8 => 
(cl Tryd.prog 19 #[(.slice p6 n7 c8), (.int .i64 me), (.int .i64 r), (.int .i64 most)] w5 fun v9 w10 => asT 2 v9 fun t11 => asS (t11 0) fun p12 n13 c14 => asI .i64 (t11 1) fun x15 => (lv x15 fun e_16 => 
(cl Tryd.prog 20 #[(.slice l l_n l_c)] w10 fun v17 w18 => asB v17 fun b19 => 
(cl Tryd.prog 21 #[(.slice p6 n7 c8)] w18 fun v20 w21 => asI .i64 v20 fun x22 => (lv x22 fun right_23 => 
(cl Tryd.prog 22 #[(.slice p6 n7 c8), (.slice l l_n l_c)] w21 fun v24 w25 => asB v24 fun b26 => 
(cl Tryd.prog 23 #[(.slice l l_n l_c), (.int .i64 me), (.int .i64 r), (.int .i64 most)] w25 fun v27 w28 => asT 2 v27 fun t29 => asS (t29 0) fun p30 n31 c32 => asI .i64 (t29 1) fun x33 => (lv x33 fun f_34 => 
(cl Tryd.prog 17 #[(.slice p12 n13 c14), (.slice p30 n31 c32)] w28 fun v35 w36 => asB v35 fun b37 => 
(jn (fun s38 w39 => asB (s38.getD 0 undef) fun b41 => (Q (.bool b41) w39))
 (fun J40 => (cond b3 (cond b26 (cond b37 (cond (e_16 == f_34) (cond ((right_23 == (0 : Int)) == b19) (cond b19 (J40 [(.bool true)] w36) (J40 [(.bool (right_23 == (220 : Int)))] w36)) (J40 [(.bool false)] w36)) (J40 [(.bool false)] w36)) (J40 [(.bool false)] w36)) (J40 [(.bool false)] w36)) (J40 [(.bool false)] w36)))))))))))))))
theorem F8_link (l : Option Addr) (l_n l_c : Nat) (me : Int) (r : Int) (most : Int) (w : World) (Q : Value → World → Prop) : fnEv Tryd.prog Tryd.f8 h8 [(.slice l l_n l_c), (.int .i64 me), (.int .i64 r), (.int .i64 most)] w Q = F8 l l_n l_c me r most w Q := by kernel_rfl
theorem F8_calls {l : Option Addr} {l_n l_c : Nat} {me : Int} {r : Int} {most : Int} {w : World} {Q : Value → World → Prop} (hF_ : F8 l l_n l_c me r most w Q) : cl Tryd.prog 8 #[(.slice l l_n l_c), (.int .i64 me), (.int .i64 r), (.int .i64 most)] w Q :=
  calls_of_ev (fn := Tryd.f8) Tryd.func8 h8 (args := [(.slice l l_n l_c), (.int .i64 me), (.int .i64 r), (.int .i64 most)]) (by rw [F8_link]; exact hF_)

/-! tiltyard/tiltyardlaw22.SnapInside -/
def h9 : Hint := (.s .d (.s .d (.s .d (.s (.j [(30, 4)] .d (.s (.j [(8, 4)] .d .d) .d)) (.s .d (.s (.l [(12, 3)] (.s (.j [(49, 4)] .d .d) .d)) (.s (.j [(61, 4)] .d .d) (.s .d (.s (.s .d (.l [(13, 3), (14, 3)] (.s .d (.j [(13, 3)] (.s (.o (ofL [0, 1, 2, 3, 4, 5, 6, 7, 8, 9, 10, 11, 12, 13, 14] .nil)) (.j [(87, 4)] .d (.s (.s (.j [(102, 4)] (.o (ofL [0, 1, 2, 3, 4, 5, 6, 7, 8, 9, 10, 11, 12, 13, 14] .nil)) .d) .d) .d))) .d)))) .d)))))))))
set_option linter.unusedVariables false in
def F9 (l : Option Addr) (l_n l_c : Nat) (me : Int) (r : Int) (most : Int) (w : World) (Q : Value → World → Prop) : Prop :=
 
(cl Tryd.prog 10 #[] w fun v1 w2 => asB v1 fun b3 => 
(cl Tryd.prog 19 #[(.slice l l_n l_c), (.int .i64 me), (.int .i64 r), (.int .i64 most)] w2 fun v4 w5 => asT 2 v4 fun t6 => asS (t6 0) fun p7 n8 c9 => asI .i64 (t6 1) fun x10 => (lv x10 fun e_11 => 
(jn (fun s12 w13 => asB (s12.getD 0 undef) fun b15 => (cond b15 (jn (fun s16 w17 => asB (s16.getD 0 undef) fun b19 => (Q (.bool b19) w17))
 (fun J18 => (cond b3 (J18 [(.bool ((n8 : Int) == (0 : Int)))] w13) (J18 [(.bool false)] w13)))) 
(lv (0 : Int) fun at_20 => 
(lp [(.int .i64 at_20)] w13 fun J23 s21 w22 => asI .i64 (s21.getD 0 undef) fun x24 => (jn (fun s25 w26 => asB (s25.getD 0 undef) fun b31 => (cond b31 
(lv (IntKind.wrap .i64 (x24 + (1 : Int))) fun at_32 => (J23 [(.int .i64 at_32)] w26)) 
(jn (fun s33 w34 => asB (s33.getD 0 undef) fun b36 => (cond b36 
(Q (.bool false) w34) 
(lv (0 : Int) fun k_37 => 
(lv (0 : Int) fun i_38 => 
(lp [(.int .i64 k_37), (.int .i64 i_38)] w34 fun J41 s39 w40 => asI .i64 (s39.getD 0 undef) fun x42 => asI .i64 (s39.getD 1 undef) fun x43 => 
(cond (decide (x43 < (l_n : Int))) 
(jn (fun s44 w45 => asI .i64 (s44.getD 0 undef) fun x106 => (lv (IntKind.wrap .i64 (x43 + (1 : Int))) fun i_107 => (J41 [(.int .i64 x106), (.int .i64 i_107)] w45)))
 (fun J46 => (dw w40 fun w47 => (dr l fun a48 => (bnd x43 l_n (ld w47 (Addr.add (Addr.add a48 (Int.toNat x43 * 8)) 1) fun v49 => asI .i64 v49 fun x50 => (ld w47 (Addr.add (Addr.add (Addr.add a48 (Int.toNat x43 * 8)) 1) 1) fun v51 => asI .i64 v51 fun x52 => (dr l fun a53 => (bnd x24 l_n (ld w47 (Addr.add (Addr.add a53 (Int.toNat x24 * 8)) 1) fun v54 => asI .i64 v54 fun x55 => (ld w47 (Addr.add (Addr.add (Addr.add a53 (Int.toNat x24 * 8)) 1) 1) fun v56 => asI .i64 v56 fun x57 => (cl Tryd.prog 24 #[(.agg #[(.int .i64 x50), (.int .i64 x52)]), (.agg #[(.int .i64 x55), (.int .i64 x57)]), (.int .i64 r)] w47 fun v58 w59 => asB v58 fun b60 => 
(jn (fun s61 w62 => asB (s61.getD 0 undef) fun b64 => (cond b64 (jn (fun s65 w66 => asB (s65.getD 0 undef) fun b104 => (cond b104 
(Q (.bool false) w66) 
(lv (IntKind.wrap .i64 (x42 + (1 : Int))) fun k_105 => (J46 [(.int .i64 k_105)] w66))))
 (fun J67 => (dw w62 fun w68 => (cond (decide (x42 ≥ (n8 : Int))) (J67 [(.bool true)] w68) (dr p7 fun a69 => (bnd x42 n8 (ld w68 (Addr.add a69 (Int.toNat x42 * 8)) fun v70 => asI .i64 v70 fun x71 => (ld w68 (Addr.add (Addr.add a69 (Int.toNat x42 * 8)) 1) fun v72 => asI .i64 v72 fun x73 => (ld w68 (Addr.add (Addr.add a69 (Int.toNat x42 * 8)) 2) fun v74 => asI .i64 v74 fun x75 => (ld w68 (Addr.add (Addr.add a69 (Int.toNat x42 * 8)) 3) fun v76 => asI .i64 v76 fun x77 => (ld w68 (Addr.add (Addr.add a69 (Int.toNat x42 * 8)) 4) fun v78 => asI .i64 v78 fun x79 => (ld w68 (Addr.add (Addr.add a69 (Int.toNat x42 * 8)) 5) fun v80 => asI .i64 v80 fun x81 => (ld w68 (Addr.add (Addr.add a69 (Int.toNat x42 * 8)) 6) fun v82 => asI .i64 v82 fun x83 => (ld w68 (Addr.add (Addr.add a69 (Int.toNat x42 * 8)) 7) fun v84 => asI .i64 v84 fun x85 => (dr l fun a86 => (bnd x43 l_n (ld w68 (Addr.add a86 (Int.toNat x43 * 8)) fun v87 => asI .i64 v87 fun x88 => (ld w68 (Addr.add (Addr.add a86 (Int.toNat x43 * 8)) 1) fun v89 => asI .i64 v89 fun x90 => (ld w68 (Addr.add (Addr.add a86 (Int.toNat x43 * 8)) 2) fun v91 => asI .i64 v91 fun x92 => (ld w68 (Addr.add (Addr.add a86 (Int.toNat x43 * 8)) 3) fun v93 => asI .i64 v93 fun x94 => (ld w68 (Addr.add (Addr.add a86 (Int.toNat x43 * 8)) 4) fun v95 => asI .i64 v95 fun x96 => (ld w68 (Addr.add (Addr.add a86 (Int.toNat x43 * 8)) 5) fun v97 => asI .i64 v97 fun x98 => (ld w68 (Addr.add (Addr.add a86 (Int.toNat x43 * 8)) 6) fun v99 => asI .i64 v99 fun x100 => (ld w68 (Addr.add (Addr.add a86 (Int.toNat x43 * 8)) 7) fun v101 => asI .i64 v101 fun x102 => (eqW Tryd.prog 59 (.agg #[(.int .i64 x71), (.int .i64 x73), (.int .i64 x75), (.int .i64 x77), (.int .i64 x79), (.int .i64 x81), (.int .i64 x83), (.int .i64 x85)]) (.agg #[(.int .i64 x88), (.int .i64 x90), (.int .i64 x92), (.int .i64 x94), (.int .i64 x96), (.int .i64 x98), (.int .i64 x100), (.int .i64 x102)]) fun b103 => (J67 [(.bool (!b103))] w68)))))))))))))))))))))))))) (J46 [(.int .i64 x42)] w62)))
 (fun J63 => (cond b60 (J63 [(.bool (decide (x42 < most)))] w59) (J63 [(.bool false)] w59)))))))))))))))) 

(Q (.bool (x42 == (n8 : Int))) w40)))))))
 (fun J35 => (cond (x24 == (l_n : Int)) (J35 [(.bool true)] w26) (J35 [(.bool (decide ((n8 : Int) > most)))] w26))))))
 (fun J27 => (cond (decide (x24 < (l_n : Int))) (dr l fun a28 => (bnd x24 l_n (ld w22 (Addr.add a28 (Int.toNat x24 * 8)) fun v29 => asI .i64 v29 fun x30 => (J27 [(.bool (x30 != me))] w22)))) (J27 [(.bool false)] w22))))))))
 (fun J14 => (cond (!b3) (J14 [(.bool true)] w5) (J14 [(.bool (e_11 != (0 : Int)))] w5)))))))
theorem F9_link (l : Option Addr) (l_n l_c : Nat) (me : Int) (r : Int) (most : Int) (w : World) (Q : Value → World → Prop) : fnEv Tryd.prog Tryd.f9 h9 [(.slice l l_n l_c), (.int .i64 me), (.int .i64 r), (.int .i64 most)] w Q = F9 l l_n l_c me r most w Q := by kernel_rfl
theorem F9_calls {l : Option Addr} {l_n l_c : Nat} {me : Int} {r : Int} {most : Int} {w : World} {Q : Value → World → Prop} (hF_ : F9 l l_n l_c me r most w Q) : cl Tryd.prog 9 #[(.slice l l_n l_c), (.int .i64 me), (.int .i64 r), (.int .i64 most)] w Q :=
  calls_of_ev (fn := Tryd.f9) Tryd.func9 h9 (args := [(.slice l l_n l_c), (.int .i64 me), (.int .i64 r), (.int .i64 most)]) (by rw [F9_link]; exact hF_)

end Go.Proofs.YtfnepdppkmjboaaDoor

/- SnL2: each ack is of a newer snapshot, which was made (SnapAcks): the walk and the plain law. Conditions: those of the theorem, on its arguments. -/
namespace Go.Proofs.YtfnepdppkmjboaaDoor
open Go Go.Sx Go.Fp
attribute [local irreducible] jn lv ld st nw asI asB asP asS asY asM asF asA asT lp rn ru rq cl dw dr bnd bn2 nz nn hd hr so eqW
attribute [local irreducible] callOk

def tk (i : Nat) : List Int := (List.range' (i - 16) (min i 16)).map fun k : Nat => (k : Int)
theorem tk_mem {i : Nat} {t : Int} : t ∈ tk i ↔ 0 ≤ t ∧ (i : Int) - 16 ≤ t ∧ t < i := by
  unfold tk
  rw [List.mem_map]
  constructor
  · rintro ⟨k, hk, rfl⟩
    rw [List.mem_range'_1] at hk
    omega
  · intro h
    exact ⟨t.toNat, by rw [List.mem_range'_1]; omega, by omega⟩
theorem tk_succ (i : Nat) : lastR (tk i ++ [(i : Int)]) = tk (i + 1) := by
  have e : tk i ++ [(i : Int)] = (List.range' (i - 16) (min i 16 + 1)).map fun k : Nat => (k : Int) := by
    unfold tk
    rw [List.range'_1_concat, List.map_append]
    have : i - 16 + min i 16 = i := by omega
    rw [this]
    rfl
  rw [e]
  unfold lastR
  rw [List.length_map, List.length_range']
  split
  · rename_i h
    have h16 : min i 16 + 1 = 16 + 1 := by omega
    rw [h16, List.range'_succ, List.map_cons, List.drop_succ_cons, List.drop_zero]
    unfold tk
    have e1 : min (i + 1) 16 = 16 := by omega
    have e2 : i + 1 - 16 = i - 16 + 1 := by omega
    rw [e1, e2]
  · rename_i h
    unfold tk
    have e1 : min (i + 1) 16 = min i 16 + 1 := by omega
    have e2 : i + 1 - 16 = i - 16 := by omega
    rw [e1, e2]
theorem any_tick {A : List (Int × List Ent)} {t : Int} : (A.any fun x => x.1 == t) = decide (t ∈ A.map (·.1)) := by
  rw [Bool.eq_iff_iff, List.any_eq_true, decide_eq_true_eq, List.mem_map]
  constructor
  · rintro ⟨x, hx, e⟩
    exact ⟨x, hx, by simpa using e⟩
  · rintro ⟨x, hx, e⟩
    exact ⟨x, hx, by simpa using e⟩

set_option maxHeartbeats 3200000 in
theorem snapAcks_law (W : World) (hp : Pts W) (a1 : Option Addr) (len1 cap1 : Nat) (z1 : List Int) (Ra : Reads W a1 (iv .i64 z1)) (La : z1.length = len1) (F1 : ∀ n ∈ z1, (Lit.int .i64 n).wf = true) (Y1 : len1 * 8 ≤ 140737488351232) :
    cl Tryd.prog 7 #[.slice a1 len1 cap1] W fun v w' => v = .bool true ∧ Ext no W w' := by
  subst La
  apply F7_calls
  unfold F7
  refine awake_k hp fun w1 hx1 => asB_i rfl ?_
  refine newS_k ((Bn.fresh W).to hx1) fun rs w2 hS => asP_i rfl ?_
  refine jn_mk (cond_f rfl (asB_i rfl (cond_f rfl (lv_i (lv_i ?_)))))
  refine lp_mk (fun t : Int × Nat => [.int .i64 t.1, .int .i64 (t.2 : Int)]) (fun z t w' => z = 60 - t.2 ∧ t.2 ≤ 60 ∧ t.2 ≤ z1.length ∧ (-1 ≤ t.1 ∧ t.1 < 60) ∧ ∃ A : List (Int × List Ent), SOk A ∧ A.map (·.1) = tk t.2 ∧ Bn W no W w' [] (Pj emp (RJ rs [.int .i64 t.1] 64 A))) 60 ((-1 : Int), 0) rfl
    ⟨rfl, by decide, Nat.zero_le _, by decide, [], SOk.nil, rfl, hS⟩ ?_
  clear hS
  rintro _ ⟨last, i⟩ w3 ⟨rfl, hi, hil, hlast, A, hA, hAt, hS⟩ J hJ
  simp only at hi hil hlast hAt hS hJ ⊢
  refine asI_i rfl (asI_i rfl ?_)
  refine jn_of (fun s w' => s = [.bool (decide ((i : Int) < (z1.length : Int)) && decide ((i : Int) < 60))] ∧ w' = w3) ?_ ?_
  rotate_left
  · intro J2 hJ2
    refine cond_split (fun h => hJ2 _ _ ⟨by rw [h, Bool.true_and], rfl⟩) (fun h => hJ2 _ _ ⟨by rw [h, Bool.false_and], rfl⟩)
  rintro _ w3 ⟨rfl, rfl⟩
  refine asB_i rfl (cond_split (fun hc => ?_) (fun hc => ?_))
  rotate_left
  · exact ⟨trivial, hS.all⟩
  simp only [Bool.and_eq_true, decide_eq_true_eq] at hc
  have hi60 : i < 60 := by omega
  have hiz : i < z1.length := by omega
  have hget := iv_get (k := .i64) hiz
  have hwf := bounds_i64 (F1 _ (List.getElem_mem hiz))
  have hgd : z1.getD i 0 = z1[i] := by rw [List.getD_eq_getElem?_getD, List.getElem?_eq_getElem hiz]; rfl
  rw [← hgd] at hwf
  generalize z1.getD i 0 = k at hget hwf
  have hrd : ∀ {w' : World}, Ext no W w' → ∀ {K : Value → Prop}, K (.int .i64 k) → dr a1 fun a => bnd (i : Int) z1.length (ld w' (Addr.add a (Int.toNat (i : Int) * 1)) K) := @fun w' hx K hK =>
    Reads.at (Ra.ext hx fun _ _ h => h) (by omega) (by rw [Int.toNat_natCast]; exact hget) hK (by rw [iv_length]; exact Nat.le_refl _)
  have hlate : lateB A (i : Int) = false := by
    unfold lateB
    cases hg : A.getLast? with
    | none => rfl
    | some x =>
      have hm : x.1 ∈ A.map (·.1) := List.mem_map_of_mem (List.mem_of_getLast? hg)
      rw [hAt, tk_mem] at hm
      simp only [decide_eq_false_iff_not]
      omega
  have hmk : makeE A (i : Int) [] = 0 := by
    unfold makeE badT
    rw [hlate, decide_eq_false (by omega), decide_eq_false (by omega), if_neg (by simp), if_pos (show okV (-1) [] = true from rfl)]
  refine jn_of (fun s w' => ∃ l2 : Int, s = [.int .i64 l2] ∧ (-1 ≤ l2 ∧ l2 < 60) ∧ ∃ A2 : List (Int × List Ent), SOk A2 ∧ A2.map (·.1) = tk (i + 1) ∧ Bn W no W w' [] (Pj emp (RJ rs [.int .i64 l2] 64 A2))) ?_ ?_
  · rintro _ w4 ⟨l2, rfl, hl2, A2, hA2, ht2, hS2⟩
    have ei : IntKind.wrap .i64 ((i : Int) + 1) = ((i + 1 : Nat) : Int) := by rw [wr64 (by omega) (by omega)]; omega
    refine asI_i rfl (lv_i ?_)
    rw [ei]
    exact hJ (60 - (i + 1)) (l2, i + 1) _ (by omega) ⟨rfl, by simp only; omega, by simp only; omega, hl2, A2, hA2, ht2, hS2⟩
  intro J2 hJ2
  refine makeR hp hS emp_kp hA ⟨hlast.1, by omega⟩ (by unfold I64; omega) (es := []) (.inl rfl) rfl (by decide) (by simp) (fun he => absurd hmk he) fun _ p6 c6 bs6 w6 L6 hS hV6 hP6 => ?_
  have hA2 := hA.made hmk (by simp)
  have ht2 : (lastR (A ++ [((i : Int), ([] : List Ent))])).map (·.1) = tk (i + 1) := by
    rw [lastR_map, List.map_append, hAt]
    exact tk_succ i
  generalize lastR (A ++ [((i : Int), ([] : List Ent))]) = A2 at hA2 ht2 hS
  replace hS := hS.behind
  refine asT_i rfl rfl (asS_i rfl (asI_i rfl (lv_i (hrd hS.all (asI_i rfl ?_)))))
  refine ackR hS emp_kp hA2.len fun w7 hS => asB_i rfl ?_
  have hack : ackB A2 last k = (decide (k > last) && (decide (k ≤ (i : Int)) && decide (k > IntKind.wrap .i64 ((i : Int) - 16)))) := by
    rw [wr64 (by omega) (by omega)]
    unfold ackB
    rw [any_tick, ht2, Bool.eq_iff_iff]
    simp only [Bool.and_eq_true, decide_eq_true_eq, tk_mem]
    omega
  refine jn_of (fun s w' => s = [.bool false] ∧ w' = w7) ?_ ?_
  rotate_left
  · intro J3 hJ3
    refine cond_f rfl (hrd hS.all (asI_i rfl (cond_split (fun h1 => hrd hS.all (asI_i rfl (cond_split (fun h2 => hrd hS.all (asI_i rfl (hJ3 _ _ ⟨?_, rfl⟩))) (fun h2 => hJ3 _ _ ⟨?_, rfl⟩)))) (fun h1 => hJ3 _ _ ⟨?_, rfl⟩))))
    · rw [hack, h1, h2]; simp
    · rw [hack, h1, h2]; simp
    · rw [hack, h1]; simp
  rintro _ w7 ⟨rfl, rfl⟩
  refine asB_i rfl (cond_f rfl (cond_split (fun hb => hrd hS.all (asI_i rfl (lv_i (hJ2 _ _ ⟨k, rfl, ?_, A2, hA2, ht2, ?_⟩)))) (fun hb => hJ2 _ _ ⟨last, rfl, hlast, A2, hA2, ht2, ?_⟩)))
  · rw [hack] at hb
    simp only [Bool.and_eq_true, decide_eq_true_eq] at hb
    omega
  · rw [hb] at hS
    exact hS
  · rw [hb] at hS
    exact hS
end Go.Proofs.YtfnepdppkmjboaaDoor
