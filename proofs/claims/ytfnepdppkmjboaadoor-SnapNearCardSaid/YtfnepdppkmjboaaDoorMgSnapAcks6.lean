/- SnLd: the listed table of parts, as the condition of the rows gives it: it stands as SnF's Pts says. Conditions: those of each theorem, on its arguments. -/
import Derived.Test.YtfnepdppkmjboaaDoorMgSnapAcks4
import Derived.Test.YtfnepdppkmjboaaDoorRows
import Derived.ProofKit
import Derived.OpenShut
import Derived.LaidMore
import Derived.DataReads
import Derived.Deep.Strs
import Derived.Stop.Joined
import Derived.Test.YtfnepdppkmjboaaDoorMgSnapAcks5
namespace Go.Proofs.YtfnepdppkmjboaaDoor
open Go Go.Sx Go.Fp Go.ChangeShapes Go.WideShapes Go.ChangeAt Go.RowKit

def laidL : List (String × DataW Unit) := [("tiltyard/snap.parts", Rows.laid_tiltyard_snap_parts)]
theorem gParts : Tryd.prog.globalNamed "tiltyard/snap.parts" = some 0 := by kernel_rfl
theorem tParts : (Tryd.prog.globals[0]?).map (·.type) = some 104 := by kernel_rfl
theorem cPart : Tryd.prog.cellsOf 103 = 1 := by kernel_rfl
theorem cParts : Tryd.prog.cellsOf 104 = 5 := by kernel_rfl
theorem cNum : Tryd.prog.cellsOf 107 = 3 := by kernel_rfl
theorem cOf : Tryd.prog.cellsOf 105 = 1 := by kernel_rfl
theorem cInt : Tryd.prog.cellsOf 3 = 1 := by kernel_rfl
/-- the door's own heap meets the condition -/
theorem door_met (os : Os) (args : Array Value) : laidMetH Tryd.prog laidL ((World.doorLaid Tryd.prog 25 os).forCall (fun _ _ => 0) ⟨#[], args, []⟩).memory :=
  laidMetH_of_parts3 (fuel := 8) (laidMet_of_run' 8 (by kernel_rfl) (by kernel_rfl)) (by kernel_rfl) (by kernel_rfl)

def nmR (o : Nat) : List UInt8 := match o with
  | 1 => [105, 108, 116, 121, 97, 114, 100, 47, 115, 110, 97, 112, 46, 112, 97, 114, 116, 115, 36, 49]
  | 2 => [105, 108, 116, 121, 97, 114, 100, 47, 115, 110, 97, 112, 46, 112, 97, 114, 116, 115, 36, 50]
  | 3 => [105, 108, 116, 121, 97, 114, 100, 47, 115, 110, 97, 112, 46, 112, 97, 114, 116, 115, 36, 51]
  | 4 => [105, 108, 116, 121, 97, 114, 100, 47, 115, 110, 97, 112, 46, 112, 97, 114, 116, 115, 36, 52]
  | 5 => [105, 108, 116, 121, 97, 114, 100, 47, 115, 110, 97, 112, 46, 112, 97, 114, 116, 115, 36, 53]
  | _ => [105, 108, 116, 121, 97, 114, 100, 47, 115, 110, 97, 112, 46, 112, 97, 114, 116, 115, 36, 54]
def numD (x : Nat × Nat × Int) : DataW (List UInt8) := .agg [.held (116 :: nmR x.1), .lit (.int .i64 (x.2.1 : Int)), .lit (.int .i64 x.2.2)]

section
variable {W : World} {sp : Nat → Bool} {fuel : Nat}
set_option maxRecDepth 100000 in
theorem of_one {o : Nat} {v : Value} {q : List MemPlace} (h : DataW.trod (funcToken Tryd.prog) Tryd.prog W 0 sp true fuel 105 [v] = some (.held (116 :: nmR o), q)) : v = .func (.func (numF o)) #[] #[] := by
  unfold nmR at h
  unfold numF
  split at h
  · exact func_of_trod (f0 := 74) Tryd.underlying105 (by kernel_rfl) h
  · exact func_of_trod (f0 := 75) Tryd.underlying105 (by kernel_rfl) h
  · exact func_of_trod (f0 := 76) Tryd.underlying105 (by kernel_rfl) h
  · exact func_of_trod (f0 := 77) Tryd.underlying105 (by kernel_rfl) h
  · exact func_of_trod (f0 := 78) Tryd.underlying105 (by kernel_rfl) h
  · rename_i h1 h2 h3 h4 h5
    have := func_of_trod (f0 := 79) Tryd.underlying105 (by kernel_rfl) h
    split
    · exact absurd rfl h1
    · exact absurd rfl h2
    · exact absurd rfl h3
    · exact absurd rfl h4
    · exact absurd rfl h5
    · exact this

set_option maxRecDepth 100000 in
theorem num_cells {x : Nat × Nat × Int} {cs : List Value} {q : List MemPlace} (h : DataW.trod (funcToken Tryd.prog) Tryd.prog W 0 sp true fuel 107 cs = some (numD x, q)) : cs = numC x := by
  obtain ⟨y0, y1, y2, n, hx, hl, h0, h1, h2⟩ := Deep.trod_struct3 Tryd.underlying107 h
  rw [cNum] at hl
  simp only [numD, Prod.mk.injEq, DataW.agg.injEq, List.cons.injEq, and_true] at hx
  obtain ⟨⟨e0, e1, e2⟩, _⟩ := hx
  match cs, hl with
  | [c0, c1, c2], _ =>
    have k0 : DataW.trod (funcToken Tryd.prog) Tryd.prog W 0 sp true n 105 [c0] = some (.held (116 :: nmR x.1), y0.2) := by
      rw [e0]
      rw [cOf] at h0
      exact h0
    obtain rfl := of_one k0
    rw [cInt] at h1 h2
    obtain ⟨n1, f1, g1, _⟩ := DataW.trod_int Tryd.underlying3 h1
    obtain ⟨n2, f2, g2, _⟩ := DataW.trod_int Tryd.underlying3 h2
    rw [g1] at e1
    rw [g2] at e2
    simp only [DataW.lit.injEq, Lit.int.injEq, true_and] at e1 e2
    have f1' : [c1] = [Value.int .i64 n1] := f1
    have f2' : [c2] = [Value.int .i64 n2] := f2
    simp only [List.cons.injEq, and_true] at f1' f2'
    rw [f1', f2', ← e1, ← e2]
    rfl

theorem num_row {l : List (Nat × Nat × Int)} (hl : l ≠ []) {c : Value} {q : List MemPlace} (h : DataW.trod (funcToken Tryd.prog) Tryd.prog W 0 sp true fuel 103 [c] = some (.slice (l.map numD) [], q)) :
    ∃ p cap, c = .slice p l.length cap ∧ Reads W p (l.flatMap numC) := by
  rcases DataW.trod_slice Tryd.underlying103 h with ⟨_, hx⟩ | ⟨a, len, cap, elems, rest, n, _, hcs, hx, _, _, _, hlen, hel, _⟩
  · simp at hx
  simp only [Prod.mk.injEq, DataW.slice.injEq] at hx
  obtain ⟨⟨hm, _⟩, _⟩ := hx
  have el : len = l.length := by
    have := congrArg List.length hm
    simp only [List.length_map] at this
    omega
  subst el
  have hc : c = .slice (some a) l.length cap := by simpa using hcs
  rw [cNum] at hel
  have each : ∀ i x, l[i]? = some x → W.cells? 0 (a.add (i * 3)) 3 = some (numC x) := by
    intro i x hi
    have hil := (List.getElem?_eq_some_iff.1 hi).1
    have hb := hel i hil
    have hm' := congrArg (fun z => z[i]?) hm
    simp only [List.getElem?_map, hi, Option.map_some] at hm'
    cases hy : elems[i]? with
    | none => rw [hy] at hm'; simp at hm'
    | some y =>
      rw [hy] at hb hm'
      simp only [Option.map_some, Option.some.injEq] at hm'
      cases hcc : W.cells? 0 (a.add (i * 3)) 3 with
      | none => rw [hcc] at hb; simp at hb
      | some cs =>
        rw [hcc] at hb
        have hb' : DataW.trod (funcToken Tryd.prog) Tryd.prog W 0 sp true n 107 cs = some (numD x, y.2) := by
          rw [hm']
          exact hb
        rw [num_cells hb']
  have hcell : ∀ i x, l[i]? = some x → ∀ j, j < 3 → W.cell? ((a.add (i * 3)).add j) = (numC x)[j]? := by
    intro i x hi j hj
    obtain ⟨_, _, hcell⟩ := World.cells?_some (each i x hi)
    exact hcell j hj
  have hspot : a.spot = none := by
    cases l with
    | nil => exact absurd rfl hl
    | cons x l =>
      have := hcell 0 x rfl 0 (by decide)
      have h3 : (numC x)[0]? = some (.func (.func (numF x.1)) #[] #[]) := rfl
      rw [h3] at this
      exact World.cell?_spot this
  obtain ⟨b, off, spot⟩ := a
  have hspot' : spot = none := hspot
  subst hspot'
  refine ⟨some ⟨b, off, none⟩, cap, hc, .inr ⟨b, off, rfl, fun i v hv => ?_⟩⟩
  have hi : i < (l.flatMap numC).length := (List.getElem?_eq_some_iff.1 hv).1
  rw [fl_lenN numC_length] at hi
  have hq : i / 3 < l.length := by omega
  have hx : l[i / 3]? = some l[i / 3] := List.getElem?_eq_getElem hq
  have h1 := hcell (i / 3) _ hx (i % 3) (Nat.mod_lt _ (by decide))
  have h2 := fl_getN (f := numC) numC_length hx (i % 3) (Nat.mod_lt _ (by decide))
  have e : i / 3 * 3 + i % 3 = i := by omega
  rw [e, hv] at h2
  rw [← h2, add_mk, add_mk, Nat.add_assoc, e] at h1
  exact h1
end

set_option maxRecDepth 100000 in
theorem of_laid {W : World} (h : laidMetH Tryd.prog laidL W) : Pts W := by
  obtain ⟨g, t, cs, fuel, p, hg, ht, hv, hd⟩ := h.funcs (List.mem_singleton.2 rfl)
  obtain rfl := Option.some.inj (gParts.symm.trans hg)
  obtain rfl := Option.some.inj (tParts.symm.trans ht)
  have hd' : DataW.trod (funcToken Tryd.prog) Tryd.prog W 0 (fun _ => true) true fuel 104 cs.toList = some (.agg (parT.map fun l => .slice (l.map numD) []), p) := hd
  obtain ⟨xs, m, rfl, hx, hlen, hn2, hel⟩ := DataW.trod_array Tryd.underlying104 hd'
  rw [cParts] at hlen
  simp only [Prod.mk.injEq, DataW.agg.injEq] at hx
  refine ⟨fun k l hk => ?_⟩
  have hk5 : k < 5 := (List.getElem?_eq_some_iff.1 hk).1
  have h0 := hel k hk5
  rw [cPart, Nat.mul_one] at h0
  have hm := congrArg (fun z => z[k]?) hx.1
  simp only [List.getElem?_map, hk, Option.map_some] at hm
  cases hy : xs[k]? with
  | none => rw [hy] at hm; simp at hm
  | some y =>
    rw [hy] at hm h0
    simp only [Option.map_some, Option.some.injEq] at hm
    have htk : (cs.toList.drop k).take 1 = [cs.toList[k]] := by
      rw [List.drop_eq_getElem_cons (by omega)]
      rfl
    rw [htk] at h0
    have h0' : DataW.trod (funcToken Tryd.prog) Tryd.prog W 0 (fun _ => true) true m 103 [cs.toList[k]] = some (.slice (l.map numD) [], y.2) := by
      rw [hm]
      exact h0
    have hne : l ≠ [] := by
      rintro rfl
      have : ∀ l ∈ parT, l ≠ [] := by decide
      exact this [] (List.mem_of_getElem? hk) rfl
    obtain ⟨pp, cap, hc, hr⟩ := num_row hne h0'
    refine ⟨pp, cap, ?_, hr⟩
    have := World.var?_cell hg hv k
    rw [this, ← hc]
    simp
end Go.Proofs.YtfnepdppkmjboaaDoor

/- SnL1: where nothing is other little is told (SnapSmall): the walk and the plain law. Conditions: those of the theorem, on its arguments. -/
namespace Go.Proofs.YtfnepdppkmjboaaDoor
open Go Go.Sx Go.Fp
attribute [local irreducible] jn lv ld st nw asI asB asP asS asY asM asF asA asT lp rn ru rq cl dw dr bnd bn2 nz nn hd hr so eqW
attribute [local irreducible] callOk

theorem andk (x : Int) {m : Nat} (hm : m < 9223372036854775808) : 0 ≤ Go.bits .and .i64 x (m : Int) ∧ Go.bits .and .i64 x (m : Int) ≤ m := by
  have hb : (BitVec.ofInt 64 (m : Int)).toNat = m := ofInt_nat 64 m (by omega)
  have e : Go.bits .and .i64 x (m : Int) = IntKind.wrap .i64 ((((BitVec.ofInt 64 x) &&& (BitVec.ofInt 64 (m : Int))).toNat : Nat) : Int) := rfl
  have h : ((BitVec.ofInt 64 x) &&& (BitVec.ofInt 64 (m : Int))).toNat ≤ m := by
    rw [BitVec.toNat_and, hb]
    exact Nat.and_le_right
  rw [e, wr64 (by omega) (by omega)]
  omega

theorem gone_self (T : List Ent) : goneL T T 64 = [] := by
  unfold goneL
  rw [List.filter_eq_nil_iff]
  intro p _
  unfold goneB
  cases h : (T.getD p Ent.zero).h == 0
  · simp
  · have : (T.getD p Ent.zero).h = 0 := by simpa using h
    rw [this]
    simp
theorem oth_self (T : List Ent) : othL T T 64 = [] := by
  unfold othL
  rw [List.filter_eq_nil_iff]
  intro p _
  unfold othB
  simp
theorem small_len {tick acked : Int} {es : List Ent} : (makeB tick acked (some es) es).length = 71 := by
  unfold makeB bodyB
  rw [show (some es).getD [] = es from rfl, gone_self, oth_self]
  simp [headB, numBits_length]

set_option maxHeartbeats 3200000 in
theorem snapSmall_law (W : World) (hp : Pts W) (a0 : Option Addr) (len0 cap0 : Nat) (z0 : List (List Value)) (R0 : Reads W a0 z0.flatten) (L0 : z0.length = len0) (F0 : ∀ c ∈ z0, FitsAll [.int .i64, .int .i64, .int .i64, .int .i64, .int .i64, .int .i64, .int .i64, .int .i64] c) (Y0 : len0 * 64 ≤ 140737488351232)
    (ticks : Int) (_ws : (Lit.int .i64 ticks).wf = true) :
    cl Tryd.prog 6 #[.slice a0 len0 cap0, .int .i64 ticks] W fun v w' => v = .bool true ∧ Ext no W w' := by
  obtain ⟨es, hz, hl, hI⟩ := ents_of rfl F0
  rw [hz] at R0
  rw [L0] at hl
  clear hz L0 F0
  apply F6_calls
  unfold F6
  refine awake_k hp fun w1 hx1 => asB_i rfl ?_
  refine newS_k ((Bn.fresh W).to hx1) fun rs w2 hS => asP_i rfl ?_
  refine jn_mk (cond_f rfl (asB_i rfl (cond_f rfl ?_)))
  refine makeR hp hS emp_kp SOk.nil (by decide) (by unfold I64; decide) (R0.ext hS.all fun _ _ h => h) hl (by omega) hI (fun he w3 hS => ?_) (fun he p3 c3 bs3 w3 L3 hS hV3 hP3 => ?_)
  · refine asT_i rfl rfl (asS_i rfl (asI_i rfl (lv_i ?_)))
    refine ackR hS emp_kp (by decide) fun w4 hS => asB_i rfl ?_
    refine cond_t (by simpa using he) ⟨rfl, hS.all⟩
  · refine asT_i rfl rfl (asS_i rfl (asI_i rfl (lv_i ?_)))
    have hA1 := SOk.nil.made he hI
    have hok := (makeE0 he).2.2.2
    have hS := hS.behind
    refine ackR hS emp_kp hA1.len fun w4 hS => asB_i rfl ?_
    have ea : ackB (lastR ([] ++ [((0 : Int), es)])) (-1) 0 = true := rfl
    rw [ea] at hS ⊢
    simp only [if_true] at hS
    refine cond_f rfl (lv_i ?_)
    have h7 := andk ticks (m := 7) (by decide)
    have h7' : 0 ≤ Go.bits .and .i64 ticks (7 : Int) ∧ Go.bits .and .i64 ticks (7 : Int) ≤ 7 := h7
    generalize Go.bits .and .i64 ticks (7 : Int) = n at h7'
    rw [wr64 (by omega) (by omega)]
    refine lp_mk (fun i : Nat => [.int .i64 (i : Int)]) (fun z i w' => z = 9 - i ∧ 1 ≤ i ∧ (i : Int) ≤ 2 + n ∧ ∃ A : List (Int × List Ent), SOk A ∧ A.length = i ∧ A[0]? = some (0, es) ∧ (∀ x ∈ A, x.1 < (i : Int)) ∧ Bn W no W w' [] (Pj emp (RJ rs [.int .i64 0] 64 A))) 8 1 rfl
      ⟨rfl, Nat.le_refl _, by omega, _, hA1, rfl, rfl, (fun x hx => by
        have : x ∈ [((0 : Int), es)] := hx
        rw [List.mem_singleton.1 this]; exact Int.zero_lt_one), hS⟩ ?_
    clear hS
    rintro _ i w5 ⟨rfl, hi1, hi2, A, hA, hAl, hA0, hAi, hS⟩ J hJ
    refine asI_i rfl (cond_split (fun hc => ?_) (fun hc => ⟨rfl, hS.all⟩))
    have hin : (i : Int) ≤ 1 + n := of_decide_eq_true hc
    have hlate : lateB A (i : Int) = false := by
      unfold lateB
      cases hg : A.getLast? with
      | none => rfl
      | some x =>
        have := hAi x (List.mem_of_getLast? hg)
        simp only [decide_eq_false_iff_not]
        omega
    have hmk : makeE A (i : Int) es = 0 := by
      unfold makeE badT
      rw [hlate, decide_eq_false (by omega), decide_eq_false (by omega), if_neg (by simp), if_pos hok]
    refine makeR hp hS emp_kp hA (by decide) (by unfold I64; omega) (R0.ext hS.all fun _ _ h => h) hl (by omega) hI (fun he => absurd hmk he) fun _ p6 c6 bs6 w6 L6 hS hV6 hP6 => ?_
    refine asT_i rfl rfl (asS_i rfl (asI_i rfl (lv_i ?_)))
    have hfind : (A.find? fun x => x.1 == 0) = some (0, es) := by
      cases A with
      | nil => cases hA0
      | cons x A =>
        have : x = (0, es) := by simpa using hA0
        subst this
        rfl
    have hb : baseV A 0 (i : Int) = some es := by
      unfold baseV
      rw [if_pos ⟨by decide, by omega⟩, hfind]
      rfl
    rw [hb] at hP6
    have hlen := hP6.len
    rw [small_len] at hlen
    have h9 : bs6.length = 9 := by omega
    refine jn_mk (cond_f rfl (asB_i ?_ (cond_f (b := false) rfl (lv_i ?_))))
    · rw [h9]; rfl
    have ei : IntKind.wrap .i64 ((i : Int) + 1) = ((i + 1 : Nat) : Int) := by rw [wr64 (by omega) (by omega)]; omega
    rw [ei]
    have hlast : lastR (A ++ [((i : Int), es)]) = A ++ [((i : Int), es)] := by
      unfold lastR
      rw [if_neg (by simp; omega)]
    refine hJ (9 - (i + 1)) (i + 1) _ (by omega) ⟨rfl, by omega, by omega, _, hA.made hmk hI, ?_, ?_, ?_, hS.behind⟩
    · rw [hlast]; simp [hAl]
    · rw [hlast, List.getElem?_append_left (by omega)]
      exact hA0
    · rw [hlast]
      intro x hx
      rcases List.mem_append.1 hx with hx | hx
      · have := hAi x hx
        omega
      · rw [List.mem_singleton.1 hx]
        simp only
        omega
end Go.Proofs.YtfnepdppkmjboaaDoor

/- OpN: slices of slices of structs laid open as arguments. No condition. -/
namespace Go.Sx
open Go Go.ChangeShapes Go.WideShapes Go.ChangeAt Go.RowKit

/-- a slice as it stands in a cell, with what it reads as -/
structure SS where
  p : Option Addr
  n : Nat
  c : Nat
  z : List (List Value)
def SS.v (s : SS) : Value := .slice s.p s.n s.c

theorem weightsAll_mem {H : Type} {P : Program} {e : TypeId} {k : Nat} : ∀ {l : List (DataW H)} {d : DataW H}, d ∈ l → k ∈ d.weights P e → k ∈ DataW.weightsAll P e l
  | x :: l, d, hd, hk => by
    unfold DataW.weightsAll
    rcases List.mem_cons.1 hd with rfl | hd
    · exact List.mem_append_left _ hk
    · exact List.mem_append_right _ (weightsAll_mem hd hk)

section
variable {H : Type} {enc : TypeId × Value → H} {P : Program} {W : World} {base : Nat}

theorem op_sslice {t t1 e : TypeId} {a : Option Addr} {len cap : Nat} {d : DataW H} {ps : List MemPlace} {ts : List TypeId} {ds : List (DataW H)} {j : Nat}
    (hsz : (DataW.weightsEach P ts ds).all (· ≤ reachBytes) = true) (ht : ts[j]? = some t) (hd : ds[j]? = some d) (hu : P.underlying t = some (.slice t1)) (hu1 : P.underlying t1 = some (.slice e)) {n : Nat} {ls : List Lf} (hl : lfs P n e = some ls) (hpos : 0 < ls.length) (hC : P.cellsOf e = ls.length)
    (hC1 : P.cellsOf t1 = 1) (hB1 : P.bytesOf t1 = 24) {B : Nat} (hB : P.bytesOf e = B) (h : DataW.Trod enc P W base (fun _ => true) true t (.slice a len cap) d ps) :
    ∃ z : List SS, Reads W a (z.map SS.v) ∧ z.length = len ∧ (∀ s ∈ z, Reads W s.p s.z.flatten ∧ s.z.length = s.n ∧ (∀ c ∈ s.z, FitsAll ls c) ∧ s.n * B ≤ 140737488351232) ∧ len * 24 ≤ 140737488351232 := by
  obtain ⟨fuel, hf⟩ := h
  rcases DataW.trod_slice hu hf with ⟨hcs, _⟩ | ⟨x, l, c, elems, rest, m, _, hcs, hx, _, _, _, hel, hat, _⟩
  · simp [Value.cells] at hcs
    obtain ⟨rfl, rfl, rfl⟩ := hcs
    exact ⟨[], .inl rfl, rfl, by simp, by simp⟩
  · simp [Value.cells] at hcs
    obtain ⟨rfl, rfl, rfl⟩ := hcs
    obtain ⟨hx, _⟩ := Prod.mk.inj hx
    have hd' := hd
    rw [hx] at hd'
    have each : ∀ i, i < len → ∃ s : SS, W.cell? (x.add i) = some s.v ∧ Reads W s.p s.z.flatten ∧ s.z.length = s.n ∧ (∀ c ∈ s.z, FitsAll ls c) ∧ s.n * B ≤ 140737488351232 := by
      intro i hi
      have hb := hat i hi
      have hie : i < elems.length := by omega
      rw [List.getElem?_eq_getElem hie, hC1, Nat.mul_one] at hb
      have hmem : elems[i] ∈ elems := List.getElem_mem hie
      generalize elems[i] = y at hb hmem
      cases hcc : W.cells? base (x.add i) 1 with
      | none => rw [hcc] at hb; simp at hb
      | some cs =>
        rw [hcc] at hb
        have hb' : DataW.trod enc P W base (fun _ => true) true m t1 cs = some y := hb
        have hform : ∃ p k cp, cs = [Value.slice p k cp] := by
          rcases DataW.trod_slice hu1 hb' with ⟨h1, _⟩ | ⟨q, l2, c2, _, _, _, _, h1, _⟩
          · exact ⟨_, _, _, h1⟩
          · exact ⟨_, _, _, h1⟩
        obtain ⟨p, k, cp, rfl⟩ := hform
        have hw : (DataW.weightsEach P [t1] [y.1]).all (· ≤ reachBytes) = true := by
          rw [List.all_eq_true]
          intro k' hk'
          have hk2 : k' ∈ y.1.weights P t1 := by
            have e1 : DataW.weightsEach P [t1] [y.1] = y.1.weights P t1 ++ DataW.weightsEach P [] [] := rfl
            rw [e1] at hk'
            rcases List.mem_append.1 hk' with h | h
            · exact h
            · cases h
          have hk3 : k' ∈ DataW.weightsAll P t1 (elems.map (·.1)) := weightsAll_mem (List.mem_map_of_mem hmem) hk2
          refine List.all_eq_true.1 hsz _ (DataW.weights_mem_each ht hd' k' ?_)
          unfold DataW.weights
          rw [hu]
          exact List.mem_cons_of_mem _ (List.mem_append_left _ hk3)
        have hT : DataW.Trod enc P W base (fun _ => true) true t1 (.slice p k cp) y.1 y.2 := ⟨m, by simpa [Value.cells] using hb'⟩
        obtain ⟨z, h1, h2, h3, h4⟩ := op_slice (j := 0) hw rfl rfl hu1 hl hpos hC hB hT
        exact ⟨⟨p, k, cp, z⟩, cell_of_cells?_one hcc, h1, h2, h3, h4⟩
    have hf2 : ∃ f : Nat → SS, ∀ i, i < len → W.cell? (x.add i) = some (f i).v ∧ Reads W (f i).p (f i).z.flatten ∧ (f i).z.length = (f i).n ∧ (∀ c ∈ (f i).z, FitsAll ls c) ∧ (f i).n * B ≤ 140737488351232 :=
      ⟨fun i => if h : i < len then Classical.choose (each i h) else ⟨none, 0, 0, []⟩, fun i hi => by
        simp only [dif_pos hi]
        exact Classical.choose_spec (each i hi)⟩
    obtain ⟨f, hf⟩ := hf2
    refine ⟨(List.range len).map f, ?_, by simp, fun s hs => ?_, ?_⟩
    · refine reads_of fun k v hv => ?_
      simp only [List.map_map, List.getElem?_map, Option.map_eq_some_iff] at hv
      obtain ⟨i, hi, rfl⟩ := hv
      obtain ⟨hk, rfl⟩ := List.getElem?_eq_some_iff.1 hi
      have hk' : k < len := by simpa using hk
      simp only [List.getElem_range, Function.comp]
      exact (hf k hk').1
    · simp only [List.mem_map, List.mem_range] at hs
      obtain ⟨i, hi, rfl⟩ := hs
      exact (hf i hi).2
    · have z := sized_slice hsz ht hd' hu
      rw [hB1] at z
      refine Nat.le_trans (Nat.mul_le_mul_right _ ?_) z
      simp
      omega
end
end Go.Sx

/- SnL3: without acks each snapshot is whole (SnapWhole): the walk and the plain law. Conditions: those of the theorem, on its arguments. -/
namespace Go.Proofs.YtfnepdppkmjboaaDoor
open Go Go.Sx Go.Fp
attribute [local irreducible] jn lv ld st nw asI asB asP asS asY asM asF asA asT lp rn ru rq cl dw dr bnd bn2 nz nn hd hr so eqW
attribute [local irreducible] callOk

def lsE : List Lf := [.int .i64, .int .i64, .int .i64, .int .i64, .int .i64, .int .i64, .int .i64, .int .i64]
/-- the entities of each view handed in -/
theorem views_of {W : World} {z : List SS} (F : ∀ s ∈ z, Reads W s.p s.z.flatten ∧ s.z.length = s.n ∧ (∀ c ∈ s.z, FitsAll [.int .i64, .int .i64, .int .i64, .int .i64, .int .i64, .int .i64, .int .i64, .int .i64] c) ∧ s.n * 64 ≤ 140737488351232) :
    ∃ f : SS → List Ent, ∀ s ∈ z, Reads W s.p ((f s).flatMap Ent.cells) ∧ (f s).length = s.n ∧ (∀ e ∈ f s, e.I) ∧ s.n ≤ 4611686018427387904 := by
  have each : ∀ s, s ∈ z → ∃ es : List Ent, Reads W s.p (es.flatMap Ent.cells) ∧ es.length = s.n ∧ (∀ e ∈ es, e.I) ∧ s.n ≤ 4611686018427387904 := by
    intro s hs
    obtain ⟨h1, h2, h3, h4⟩ := F s hs
    obtain ⟨es, hz, hl, hI⟩ := ents_of rfl h3
    rw [hz] at h1
    exact ⟨es, h1, by omega, hI, by omega⟩
  refine ⟨fun s => open Classical in if h : s ∈ z then Classical.choose (each s h) else [], fun s hs => ?_⟩
  simp only [dif_pos hs]
  exact Classical.choose_spec (each s hs)

theorem ssv_get {z : List SS} {i : Nat} {s : SS} (h : z[i]? = some s) : (z.map SS.v)[i]? = some s.v := by
  rw [List.getElem?_map, h]
  rfl
/-- one view of those handed in -/
theorem view_at {W w : World} {a : Option Addr} {z : List SS} (R : Reads W a (z.map SS.v)) (hx : Ext no W w) {i : Nat} {s : SS} (hi : z[i]? = some s) {K : Option Addr → Nat → Nat → Prop} (hK : K s.p s.n s.c) :
    dr a fun x => bnd (i : Int) z.length (ld w (Addr.add x (Int.toNat (i : Int) * 1)) fun v => asS v K) :=
  Reads.at (R.ext hx fun _ _ h => h) (by omega) (by rw [Int.toNat_natCast]; exact ssv_get hi) (asS_i rfl hK) (by rw [List.length_map]; exact Nat.le_refl _)

theorem lateB_of {A : List (Int × List Ent)} {t : Int} (h : ∀ x ∈ A, x.1 < t) : lateB A t = false := by
  unfold lateB
  cases hg : A.getLast? with
  | none => rfl
  | some x =>
    have := h x (List.mem_of_getLast? hg)
    simp only [decide_eq_false_iff_not]
    omega
theorem lastR_lt {A : List (Int × List Ent)} {t : Int} {es : List Ent} (h : ∀ x ∈ A, x.1 < t) : ∀ x ∈ lastR (A ++ [(t, es)]), x.1 < t + 1 := by
  intro x hx
  rcases List.mem_append.1 (lastR_sub hx) with hx | hx
  · have := h x hx
    omega
  · rw [List.mem_singleton.1 hx]
    simp only
    omega
theorem lastR_last {α : Type} {A : List α} {x : α} : (lastR (A ++ [x])).getLast? = some x := by
  unfold lastR
  split
  · rename_i h
    rw [List.length_append] at h
    have hA : A ≠ [] := by
      rintro rfl
      simp at h
    cases A with
    | nil => exact absurd rfl hA
    | cons y A =>
      simp
  · simp

set_option maxHeartbeats 3200000 in
theorem snapWhole_law (W : World) (hp : Pts W) (a0 : Option Addr) (len0 cap0 : Nat) (z0 : List SS) (R0 : Reads W a0 (z0.map SS.v)) (L0 : z0.length = len0)
    (F0 : ∀ s ∈ z0, Reads W s.p s.z.flatten ∧ s.z.length = s.n ∧ (∀ c ∈ s.z, FitsAll [.int .i64, .int .i64, .int .i64, .int .i64, .int .i64, .int .i64, .int .i64, .int .i64] c) ∧ s.n * 64 ≤ 140737488351232) (Y0 : len0 * 24 ≤ 140737488351232) :
    cl Tryd.prog 5 #[.slice a0 len0 cap0] W fun v w' => v = .bool true ∧ Ext no W w' := by
  subst L0
  obtain ⟨f, hf⟩ := views_of F0
  apply F5_calls
  unfold F5
  refine awake_k hp fun w1 hx1 => asB_i rfl ?_
  refine newS_k ((Bn.fresh W).to hx1) fun rs w2 hS => asP_i rfl ?_
  refine jn_mk (cond_f rfl (asB_i rfl (cond_f rfl (lv_i ?_))))
  refine lp_mk (fun i : Nat => [.int .i64 (i : Int)]) (fun z i w' => z = 60 - i ∧ i ≤ 60 ∧ i ≤ z0.length ∧ ∃ A : List (Int × List Ent), SOk A ∧ (∀ x ∈ A, x.1 < (i : Int)) ∧ Bn W no W w' [] (Pj emp (RJ rs [.int .i64 (-1)] 64 A))) 60 0 rfl
    ⟨rfl, by decide, Nat.zero_le _, [], SOk.nil, by simp, hS⟩ ?_
  clear hS
  rintro _ i w3 ⟨rfl, hi, hil, A, hA, hAi, hS⟩ J hJ
  refine asI_i rfl ?_
  refine jn_of (fun s w' => s = [.bool (decide ((i : Int) < (z0.length : Int)) && decide ((i : Int) < 60))] ∧ w' = w3) ?_ ?_
  rotate_left
  · intro J2 hJ2
    refine cond_split (fun h => hJ2 _ _ ⟨by rw [h, Bool.true_and], rfl⟩) (fun h => hJ2 _ _ ⟨by rw [h, Bool.false_and], rfl⟩)
  rintro _ w3 ⟨rfl, rfl⟩
  refine asB_i rfl (cond_split (fun hc => ?_) (fun hc => ⟨rfl, hS.all⟩))
  simp only [Bool.and_eq_true, decide_eq_true_eq] at hc
  have hi60 : i < 60 := by omega
  have hiz : i < z0.length := by omega
  have hget : z0[i]? = some z0[i] := List.getElem?_eq_getElem hiz
  obtain ⟨hv, hvl, hvI, hvn⟩ := hf _ (List.getElem_mem hiz)
  generalize z0[i] = s at hget hv hvl hvI hvn
  generalize f s = es at hv hvl hvI
  have hlate := lateB_of hAi
  refine jn_of (fun t w' => ∃ A2 : List (Int × List Ent), SOk A2 ∧ (∀ x ∈ A2, x.1 < (i : Int) + 1) ∧ Bn W no W w' [] (Pj emp (RJ rs [.int .i64 (-1)] 64 A2))) ?_ ?_
  · rintro _ w4 ⟨A2, hA2, hlt2, hS2⟩
    have ei : IntKind.wrap .i64 ((i : Int) + 1) = ((i + 1 : Nat) : Int) := by rw [wr64 (by omega) (by omega)]; omega
    refine lv_i ?_
    rw [ei]
    exact hJ (60 - (i + 1)) (i + 1) _ (by omega) ⟨rfl, by omega, by omega, A2, hA2, by simpa using hlt2, hS2⟩
  intro J2 hJ2
  refine view_at R0 hS.all hget ?_
  refine makeR hp hS emp_kp hA (by decide) (by unfold I64; omega) (hv.ext hS.all fun _ _ h => h) hvl hvn hvI (fun he w4 hS => ?_) (fun he p4 c4 bs4 w4 L4 hS hV4 hP4 => ?_)
  · refine asT_i rfl rfl (asS_i rfl (asI_i rfl (lv_i (cond_t (by simpa using he) (hJ2 _ _ ⟨A, hA, fun x hx => by have := hAi x hx; omega, hS⟩)))))
  · refine asT_i rfl rfl (asS_i rfl (asI_i rfl (lv_i (cond_f rfl ?_))))
    obtain ⟨h0, h1, -, hok⟩ := makeE0 he
    have hA2 := hA.made he hvI
    have h64 := okV_len hok (by decide)
    have hb : baseV A (-1) (i : Int) = none := by
      unfold baseV
      rw [if_neg (fun h => absurd h.1 (by decide))]
    rw [hb] at hP4
    refine newA_k hS fun ra w5 hS => asP_i rfl (cond_f rfl ?_)
    have kJ : Kp (Pj emp (RJ rs [.int .i64 (-1)] 64 (lastR (A ++ [((i : Int), es)])))) := Pj.kp emp_kp RJ.kp
    refine applyR hp hS kJ SOk.nil (hV4.reads hS fun b hb => List.mem_append_left _ hb) rfl hP4 ⟨h0, h1⟩ rfl hok hvI (fun h => by cases h) (fun he => absurd rfl he) fun _ w6 hS => ?_
    refine asT_i rfl rfl (asI_i rfl (asI_i rfl (lv_i (lv_i ?_))))
    have hA3 : SOk (lastR ([] ++ [((i : Int), es)])) := SOk.nil.put h0 h1 hok hvI (by simp)
    refine viewR hS kJ hA3 (fun h => by cases h) fun t es' hlast p7 c7 w7 hS hx7 hrow7 => ?_
    rw [lastR_last] at hlast
    obtain ⟨rfl, rfl⟩ : (i : Int) = t ∧ es = es' := by simpa using hlast
    refine asT_i rfl rfl (asS_i rfl (asI_i rfl (asB_i rfl (lv_i ?_))))
    refine view_at R0 hS.all hget ?_
    refine rsame_k hvI hrow7.reads (hv.ext hS.all fun _ _ h => h) rfl hvl (by omega) fun w8 hx8 => asB_i rfl ?_
    have hS := (hS.to hx8).fstJ kJ
    refine jn_mk (cond_f (by simp) (cond_f rfl (cond_f rfl (asB_i rfl (cond_f rfl (hJ2 _ _ ⟨_, hA2, lastR_lt hAi, hS.behind⟩))))))
end Go.Proofs.YtfnepdppkmjboaaDoor

/- SnL4: what has its base is applied (SnapComes): the plain law, then the walk. Conditions: those of the theorem, on its arguments. -/
namespace Go.Proofs.YtfnepdppkmjboaaDoor
open Go Go.Sx Go.Fp
attribute [local irreducible] jn lv ld st nw asI asB asP asS asY asM asF asA asT lp rn ru rq cl dw dr bnd bn2 nz nn hd hr so eqW
attribute [local irreducible] callOk

abbrev Tv := Int × List Ent
theorem lastR_out {L : List Tv} (hp : L.Pairwise fun a b => a.1 < b.1) {x : Tv} (hx : x ∈ L) (hn : x ∉ lastR L) : 16 < L.length ∧ (∀ y ∈ lastR L, x.1 < y.1) ∧ ∀ y ∈ L, x.1 ≤ y.1 := by
  unfold lastR at hn ⊢
  split at hn
  · rename_i h
    rw [if_pos h]
    cases L with
    | nil => cases hx
    | cons z L =>
      rw [List.drop_succ_cons, List.drop_zero] at hn ⊢
      rcases List.mem_cons.1 hx with rfl | hx
      · have hp' := (List.pairwise_cons.1 hp).1
        refine ⟨h, hp', fun y hy => ?_⟩
        rcases List.mem_cons.1 hy with rfl | hy
        · exact Int.le_refl _
        · have := hp' y hy
          omega
      · exact absurd hx hn
  · exact absurd hx hn
theorem lastR_mem {A : List Tv} {x : Tv} : x ∈ lastR (A ++ [x]) := List.mem_of_getLast? lastR_last
theorem sub_len : ∀ {L M : List Tv}, L.Pairwise (fun a b => a.1 < b.1) → M.Pairwise (fun a b => a.1 < b.1) → (∀ x ∈ L, x ∈ M) → L.length ≤ M.length
  | [], _, _, _, _ => Nat.zero_le _
  | y :: L, M, hL, hM, hs => by
    obtain ⟨pre, post, rfl⟩ := List.append_of_mem (hs y List.mem_cons_self)
    have h1 := List.pairwise_cons.1 hL
    have h2 := List.pairwise_append.1 hM
    have h3 := List.pairwise_cons.1 h2.2.1
    have := sub_len h1.2 h3.2 fun z hz => by
      have hyz := h1.1 z hz
      rcases List.mem_append.1 (hs z (List.mem_cons_of_mem _ hz)) with h | h
      · have := h2.2.2 z h y List.mem_cons_self
        omega
      · rcases List.mem_cons.1 h with rfl | h
        · omega
        · exact h
    simp only [List.length_cons, List.length_append]
    omega
theorem inc_snoc {A : List Tv} (hA : SOk A) {t : Int} {es : List Ent} (h : ∀ x ∈ A, x.1 < t) : (A ++ [(t, es)]).Pairwise fun a b => a.1 < b.1 :=
  List.pairwise_append.2 ⟨hA.inc, by simp, fun a ha b hb => by
    rw [List.mem_singleton.1 hb]
    exact h a ha⟩
theorem inc_fun {A : List Tv} (hA : SOk A) {x y : Tv} (hx : x ∈ A) (hy : y ∈ A) (h : x.1 = y.1) : x = y := by
  obtain ⟨i, hi⟩ := List.getElem?_of_mem hx
  obtain ⟨j, hj⟩ := List.getElem?_of_mem hy
  obtain ⟨hil, rfl⟩ := List.getElem?_eq_some_iff.1 hi
  obtain ⟨hjl, rfl⟩ := List.getElem?_eq_some_iff.1 hj
  have hp := List.pairwise_iff_getElem.1 hA.inc
  rcases Nat.lt_trichotomy i j with h' | rfl | h'
  · have := hp i j hil hjl h'
    omega
  · rfl
  · have := hp j i hjl hil h'
    omega

/-- a sender and an applier who hears of all that is not lost -/
structure CInv (A A2 : List Tv) (acked tick : Int) : Prop where
  a : SOk A
  a2 : SOk A2
  ac : -1 ≤ acked ∧ acked ≤ tick
  le : ∀ x ∈ A, x.1 ≤ tick
  le2 : ∀ x ∈ A2, x.1 ≤ tick
  agree : ∀ x ∈ A, ∀ y ∈ A2, x.1 = y.1 → x.2 = y.2
  up : ∀ x ∈ A, ∀ y ∈ A2, x.1 ≤ y.1 → y ∈ A
  base : ∀ x ∈ A, x.1 = acked → x ∈ A2
section
variable {A A2 : List Tv} {acked tick t : Int} {es : List Ent}
theorem CInv.skip (h : CInv A A2 acked tick) (ht : tick ≤ t) : CInv A A2 acked t :=
  ⟨h.a, h.a2, ⟨h.ac.1, by have := h.ac.2; omega⟩, fun x hx => by have := h.le x hx; omega, fun x hx => by have := h.le2 x hx; omega, h.agree, h.up, h.base⟩
theorem CInv.lost (h : CInv A A2 acked tick) (ht : tick < t) (hA : SOk (lastR (A ++ [(t, es)]))) : CInv (lastR (A ++ [(t, es)])) A2 acked t := by
  have hlt : ∀ x ∈ A, x.1 < t := fun x hx => by have := h.le x hx; omega
  have hinc := inc_snoc (es := es) h.a hlt
  have hac := h.ac.2
  have mem : ∀ x ∈ lastR (A ++ [(t, es)]), x ∈ A ∨ x = (t, es) := fun x hx => by
    rcases List.mem_append.1 (lastR_sub hx) with hx | hx
    · exact .inl hx
    · exact .inr (List.mem_singleton.1 hx)
  refine ⟨hA, h.a2, ⟨h.ac.1, by omega⟩, fun x hx => ?_, fun x hx => by have := h.le2 x hx; omega, fun x hx y hy e => ?_, fun x hx y hy e => ?_, fun x hx e => ?_⟩
  · rcases mem x hx with hx | rfl
    · have := hlt x hx; omega
    · exact Int.le_refl _
  · rcases mem x hx with hx | rfl
    · exact h.agree x hx y hy e
    · have := h.le2 y hy
      have e' : t = y.1 := e
      omega
  · have hyt := h.le2 y hy
    rcases mem x hx with hx' | rfl
    · have hyA := h.up x hx' y hy e
      rcases Classical.em (y ∈ lastR (A ++ [(t, es)])) with hin | hout
      · exact hin
      · have := (lastR_out hinc (List.mem_append_left _ hyA) hout).2.1 x hx
        omega
    · have e' : t ≤ y.1 := e
      omega
  · rcases mem x hx with hx' | rfl
    · exact h.base x hx' e
    · have e' : t = acked := e
      omega
theorem CInv.appl (h : CInv A A2 acked tick) (ht : tick < t) (hA : SOk (lastR (A ++ [(t, es)]))) (hA2 : SOk (lastR (A2 ++ [(t, es)]))) : CInv (lastR (A ++ [(t, es)])) (lastR (A2 ++ [(t, es)])) acked t := by
  have hl := h.lost ht hA
  have hlt2 : ∀ x ∈ A2, x.1 < t := fun x hx => by have := h.le2 x hx; omega
  have hinc2 := inc_snoc (es := es) h.a2 hlt2
  have mem : ∀ x ∈ lastR (A2 ++ [(t, es)]), x ∈ A2 ∨ x = (t, es) := fun x hx => by
    rcases List.mem_append.1 (lastR_sub hx) with hx | hx
    · exact .inl hx
    · exact .inr (List.mem_singleton.1 hx)
  refine ⟨hA, hA2, hl.ac, hl.le, fun x hx => ?_, fun x hx y hy e => ?_, fun x hx y hy e => ?_, fun x hx e => ?_⟩
  · rcases mem x hx with hx | rfl
    · have := hlt2 x hx; omega
    · exact Int.le_refl _
  · rcases mem y hy with hy | rfl
    · exact hl.agree x hx y hy e
    · have := inc_fun hA hx (lastR_mem (A := A) (x := (t, es))) e
      rw [this]
  · rcases mem y hy with hy | rfl
    · exact hl.up x hx y hy e
    · exact lastR_mem
  · have hx2 := hl.base x hx e
    rcases Classical.em (x ∈ lastR (A2 ++ [(t, es)])) with hin | hout
    · exact hin
    · exfalso
      obtain ⟨h16, _, hmin⟩ := lastR_out hinc2 (List.mem_append_left _ hx2) hout
      have := sub_len hinc2 hA.inc fun y hy => by
        have hxy := hmin y hy
        rcases List.mem_append.1 hy with hy | hy
        · exact hl.up x hx y hy hxy
        · rw [List.mem_singleton.1 hy]
          exact lastR_mem
      have := hA.len
      omega
theorem CInv.acks (h : CInv A A2 acked t) (h1 : (t, es) ∈ A) (h2 : (t, es) ∈ A2) (h0 : 0 ≤ t) : CInv A A2 t t :=
  ⟨h.a, h.a2, ⟨by omega, Int.le_refl _⟩, h.le, h.le2, h.agree, h.up, fun x hx e => by
    rw [inc_fun h.a hx h1 e]
    exact h2⟩
end

set_option maxHeartbeats 3200000 in
theorem snapComes_law (W : World) (hp : Pts W) (a0 : Option Addr) (len0 cap0 : Nat) (z0 : List SS) (R0 : Reads W a0 (z0.map SS.v)) (L0 : z0.length = len0)
    (F0 : ∀ s ∈ z0, Reads W s.p s.z.flatten ∧ s.z.length = s.n ∧ (∀ c ∈ s.z, FitsAll [.int .i64, .int .i64, .int .i64, .int .i64, .int .i64, .int .i64, .int .i64, .int .i64] c) ∧ s.n * 64 ≤ 140737488351232) (Y0 : len0 * 24 ≤ 140737488351232)
    (a1 : Option Addr) (len1 cap1 : Nat) (z1 : List Bool) (R1 : Reads W a1 (tv z1)) (L1 : z1.length = len1) (_Y1 : len1 * 1 ≤ 140737488351232)
    (a2 : Option Addr) (len2 cap2 : Nat) (z2 : List Bool) (R2 : Reads W a2 (tv z2)) (L2 : z2.length = len2) (_Y2 : len2 * 1 ≤ 140737488351232) :
    cl Tryd.prog 4 #[.slice a0 len0 cap0, .slice a1 len1 cap1, .slice a2 len2 cap2] W fun v w' => v = .bool true ∧ Ext no W w' := by
  subst L0
  subst L1
  subst L2
  obtain ⟨f, hf⟩ := views_of F0
  apply F4_calls
  unfold F4
  refine awake_k hp fun w1 hx1 => asB_i rfl ?_
  refine newS_k ((Bn.fresh W).to hx1) fun rs w2 hS => asP_i rfl ?_
  refine newA_k (hS.sndJ emp_kp RJ.kp) fun ra w2 hS => asP_i rfl ?_
  refine jn_mk (cond_f rfl (cond_f rfl (asB_i rfl (cond_f rfl (lv_i (lv_i ?_))))))
  refine lp_mk (fun t : Int × Nat => [.int .i64 t.1, .int .i64 (t.2 : Int)]) (fun z t w' => z = 100 - t.2 ∧ t.2 ≤ 100 ∧ t.2 ≤ z0.length ∧ (0 ≤ t.1 ∧ t.1 ≤ 4 * t.2) ∧ ∃ (acked : Int) (A A2 : List Tv), CInv A A2 acked t.1 ∧ Bn W no W w' [] (Pj (RJ rs [.int .i64 acked] 64 A) (RJ ra [] 66 A2))) 100 ((0 : Int), 0) rfl
    ⟨rfl, by decide, Nat.zero_le _, by decide, -1, [], [], ⟨SOk.nil, SOk.nil, by decide, by simp, by simp, by simp, by simp, by simp⟩, hS⟩ ?_
  clear hS
  rintro _ ⟨tick, i⟩ w3 ⟨rfl, hi, hil, htk, acked, A, A2, hC, hS⟩ J hJ
  simp only at hi hil htk hC hJ
  refine asI_i rfl (asI_i rfl ?_)
  refine jn_of (fun s w' => s = [.bool (decide ((i : Int) < (z0.length : Int)) && decide ((i : Int) < 100))] ∧ w' = w3) ?_ ?_
  rotate_left
  · intro J2 hJ2
    refine cond_split (fun h => hJ2 _ _ ⟨by rw [h, Bool.true_and], rfl⟩) (fun h => hJ2 _ _ ⟨by rw [h, Bool.false_and], rfl⟩)
  rintro _ w3 ⟨rfl, rfl⟩
  refine asB_i rfl (cond_split (fun hc => ?_) (fun hc => ⟨rfl, hS.all⟩))
  simp only [Bool.and_eq_true, decide_eq_true_eq] at hc
  have hi100 : i < 100 := by omega
  have hiz : i < z0.length := by omega
  have hget : z0[i]? = some z0[i] := List.getElem?_eq_getElem hiz
  obtain ⟨hv, hvl, hvI, hvn⟩ := hf _ (List.getElem_mem hiz)
  generalize z0[i] = s at hget hv hvl hvI hvn
  generalize f s = es at hv hvl hvI
  have h3 := andk (i : Int) (m := 3) (by decide)
  have h3' : 0 ≤ Go.bits .and .i64 (i : Int) (3 : Int) ∧ Go.bits .and .i64 (i : Int) (3 : Int) ≤ 3 := h3
  clear h3
  have et : IntKind.wrap .i64 (IntKind.wrap .i64 (tick + 1) + Go.bits .and .i64 (i : Int) (3 : Int)) = tick + 1 + Go.bits .and .i64 (i : Int) (3 : Int) := by
    rw [wr64 (n := tick + 1) (by omega) (by omega), wr64 (by omega) (by omega)]
  obtain ⟨t, ht⟩ : ∃ t, t = tick + 1 + Go.bits .and .i64 (i : Int) (3 : Int) := ⟨_, rfl⟩
  refine jn_of (fun s w' => s = [.int .i64 t] ∧ ∃ (acked : Int) (A A2 : List Tv), CInv A A2 acked t ∧ Bn W no W w' [] (Pj (RJ rs [.int .i64 acked] 64 A) (RJ ra [] 66 A2))) ?_ ?_
  · rintro _ w4 ⟨rfl, hC2⟩
    have ei : IntKind.wrap .i64 ((i : Int) + 1) = ((i + 1 : Nat) : Int) := by rw [wr64 (by omega) (by omega)]; omega
    refine asI_i rfl (lv_i ?_)
    rw [ei]
    exact hJ (100 - (i + 1)) (t, i + 1) _ (by omega) ⟨rfl, by simp only; omega, by simp only; omega, by simp only; omega, hC2⟩
  intro J2 hJ2
  rw [et, ← ht]
  refine lv_i (view_at R0 hS.all hget ?_)
  have hac := hC.ac
  have htt : tick < t := by omega
  refine makeR hp (hS.swap RJ.kp RJ.kp) RJ.kp hC.a ⟨hac.1, by omega⟩ (by unfold I64; omega) (hv.ext hS.all fun _ _ h => h) hvl hvn hvI (fun he w4 hS => ?_) (fun he p4 c4 bs4 w4 L4 hS hV4 hP4 => ?_)
  · refine asT_i rfl rfl (asS_i rfl (asI_i rfl (lv_i (cond_t (by simpa using he) (hJ2 _ _ ⟨rfl, acked, A, A2, hC.skip (by omega), hS.swap RJ.kp RJ.kp⟩)))))
  · refine asT_i rfl rfl (asS_i rfl (asI_i rfl (lv_i (cond_f rfl ?_))))
    obtain ⟨h0, h1, hlate, hok⟩ := makeE0 he
    have hA' := hC.a.made he hvI
    have hlt2 : ∀ x ∈ A2, x.1 < t := fun x hx => by have := hC.le2 x hx; omega
    have hA2' : SOk (lastR (A2 ++ [(t, es)])) := hC.a2.put h0 h1 hok hvI hlt2
    refine jn_of (fun s w' => ∃ b, s = [.bool b] ∧ w' = w4) ?_ ?_
    rotate_left
    · intro J3 hJ3
      refine cond_split (fun h => ?_) (fun h => hJ3 _ _ ⟨_, rfl, rfl⟩)
      have hil1 : i < z1.length := by
        have := of_decide_eq_true h
        omega
      exact Reads.at (R1.ext hS.all fun _ _ h => h) (by omega) (by rw [Int.toNat_natCast]; exact tv_get hil1) (asB_i rfl (hJ3 _ _ ⟨_, rfl, rfl⟩)) (by rw [tv_length]; exact Nat.le_refl _)
    rintro _ w4 ⟨lost, rfl, rfl⟩
    refine asB_i rfl (cond_split (fun hb => hJ2 _ _ ⟨rfl, acked, _, A2, hC.lost htt hA', hS.behind.swap RJ.kp RJ.kp⟩) (fun hb => ?_))
    have happ : applyE A2 t acked (baseV A acked t) = 0 := by
      unfold applyE
      rw [lateB_of hlt2, if_neg (by simp)]
      cases hbs : (baseV A acked t).isSome with
      | false => rfl
      | true =>
        have hm := (baseV_some hC.a hlate hbs).2.2.2
        have hm2 := hC.base _ hm rfl
        have : (A2.find? fun x => x.1 == acked).isSome = true := by
          rw [List.find?_isSome]
          exact ⟨_, hm2, by simp⟩
        cases hfi : A2.find? fun x => x.1 == acked with
        | none => rw [hfi] at this; cases this
        | some x => rfl
    refine applyR hp (hS.swap RJ.kp RJ.kp) RJ.kp hC.a2 (hV4.reads hS fun b hb => List.mem_append_left _ hb) rfl hP4 ⟨h0, h1⟩ (baseV_ok hC.a) hok hvI (fun hbs => ?_) (fun he => absurd happ he) fun _ w6 hS => ?_
    · obtain ⟨g1, g2, g3, g4⟩ := baseV_some hC.a hlate hbs
      exact ⟨g1, g2, g3, fun x hx e => (hC.agree _ g4 x hx e.symm).symm⟩
    have hS := hS.behind
    have hC' := hC.appl htt hA' hA2'
    refine asT_i rfl rfl (asI_i rfl (asI_i rfl (lv_i (lv_i ?_))))
    refine jn_mk (cond_f rfl (asB_i rfl (cond_f (by simp) ?_)))
    refine jn_of (fun s w' => ∃ b, s = [.bool b] ∧ w' = w6) ?_ ?_
    rotate_left
    · intro J3 hJ3
      refine cond_split (fun h => hJ3 _ _ ⟨_, rfl, rfl⟩) (fun h => ?_)
      have hil2 : i < z2.length := by
        have := of_decide_eq_false h
        omega
      exact Reads.at (R2.ext hS.all fun _ _ h => h) (by omega) (by rw [Int.toNat_natCast]; exact tv_get hil2) (asB_i rfl (hJ3 _ _ ⟨_, rfl, rfl⟩)) (by rw [tv_length]; exact Nat.le_refl _)
    rintro _ w6 ⟨heard, rfl, rfl⟩
    refine asB_i rfl (cond_split (fun hb => ?_) (fun hb => hJ2 _ _ ⟨rfl, acked, _, _, hC', hS⟩))
    have hack : ackB (lastR (A ++ [(t, es)])) acked t = true := by
      unfold ackB
      rw [Bool.and_eq_true]
      exact ⟨List.any_eq_true.2 ⟨(t, es), lastR_mem, by simp⟩, decide_eq_true (by omega)⟩
    refine ackR (hS.swap RJ.kp RJ.kp) RJ.kp hA'.len fun w7 hS => asB_i rfl ?_
    rw [hack] at hS ⊢
    simp only [if_true] at hS
    exact cond_f rfl (hJ2 _ _ ⟨rfl, t, _, _, hC'.acks lastR_mem lastR_mem h0, hS.swap RJ.kp RJ.kp⟩)
end Go.Proofs.YtfnepdppkmjboaaDoor

/- SnL5: what an applier has is the view that was told (SnapJust): the walk and the plain law. Conditions: those of the theorem, on its arguments. -/
namespace Go.Sx
open Go Go.RowKit

/-- things side by side, in a list -/
def Ps : List ((Nat → Prop) → World → Prop) → (Nat → Prop) → World → Prop
  | [] => fun B _ => ∀ k, ¬ B k
  | J :: l => Pj (Ps l) J
def KpAll : List ((Nat → Prop) → World → Prop) → Prop
  | [] => True
  | J :: l => Kp J ∧ KpAll l
theorem Ps.kp : ∀ {l : List ((Nat → Prop) → World → Prop)}, KpAll l → Kp (Ps l)
  | [], _ => fun _ _ _ _ h => h
  | _ :: _, h => Pj.kp (Ps.kp h.2) h.1
theorem Pj.comm3 {X a b : (Nat → Prop) → World → Prop} {B : Nat → Prop} {w : World} : Pj (Pj X b) a B w → Pj (Pj X a) b B w := by
  rintro ⟨B12, Ba, hB, hd, ⟨Bx, Bb, hB', hd', jx, jb⟩, ja⟩
  refine ⟨fun k => Bx k ∨ Ba k, Bb, fun k => ?_, fun k h hb => ?_, ⟨Bx, Ba, fun _ => Iff.rfl, fun k hx ha => hd k ((hB' k).2 (.inl hx)) ha, jx, ja⟩, jb⟩
  · rw [hB, hB', or_right_comm]
  · rcases h with h | h
    · exact hd' k h hb
    · exact hd k ((hB' k).2 (.inr hb)) h
theorem Pj.mapL {X X' a : (Nat → Prop) → World → Prop} {B : Nat → Prop} {w : World} (f : ∀ B, X B w → X' B w) : Pj X a B w → Pj X' a B w := by
  rintro ⟨B1, B2, hB, hd, j1, j2⟩
  exact ⟨B1, B2, hB, hd, f B1 j1, j2⟩
section
variable {w00 : World} {M : Nat → Prop} {wa w : World} {L : List (Nat × List Value × TypeId)} {a b c d : (Nat → Prop) → World → Prop} {l : List ((Nat → Prop) → World → Prop)}
theorem Ps.p1 (h : Bn w00 M wa w L (Ps (a :: b :: l))) (k : KpAll (a :: b :: l)) : Bn w00 M wa w L (Ps (b :: a :: l)) :=
  h.map (Ps.kp ⟨k.2.1, k.1, k.2.2⟩) fun _ => Pj.comm3
theorem Ps.p2 (h : Bn w00 M wa w L (Ps (a :: b :: c :: l))) (k : KpAll (a :: b :: c :: l)) : Bn w00 M wa w L (Ps (c :: a :: b :: l)) :=
  h.map (Ps.kp ⟨k.2.2.1, k.1, k.2.1, k.2.2.2⟩) fun _ h => Pj.comm3 (Pj.mapL (fun _ => Pj.comm3) h)
theorem Ps.p2' (h : Bn w00 M wa w L (Ps (c :: a :: b :: l))) (k : KpAll (a :: b :: c :: l)) : Bn w00 M wa w L (Ps (a :: b :: c :: l)) :=
  h.map (Ps.kp k) fun _ h => Pj.mapL (fun _ => Pj.comm3) (Pj.comm3 h)
theorem Ps.p3 (h : Bn w00 M wa w L (Ps (a :: b :: c :: d :: l))) (k : KpAll (a :: b :: c :: d :: l)) : Bn w00 M wa w L (Ps (d :: a :: b :: c :: l)) :=
  h.map (Ps.kp ⟨k.2.2.2.1, k.1, k.2.1, k.2.2.1, k.2.2.2.2⟩) fun _ h => Pj.comm3 (Pj.mapL (fun _ h => Pj.comm3 (Pj.mapL (fun _ => Pj.comm3) h)) h)
theorem Ps.p3' (h : Bn w00 M wa w L (Ps (d :: a :: b :: c :: l))) (k : KpAll (a :: b :: c :: d :: l)) : Bn w00 M wa w L (Ps (a :: b :: c :: d :: l)) :=
  h.map (Ps.kp k) fun _ h => Pj.mapL (fun _ h => Pj.mapL (fun _ => Pj.comm3) (Pj.comm3 h)) (Pj.comm3 h)
end
end Go.Sx
namespace Go.Proofs.YtfnepdppkmjboaaDoor
open Go Go.Sx Go.Fp
attribute [local irreducible] jn lv ld st nw asI asB asP asS asY asM asF asA asT lp rn ru rq cl dw dr bnd bn2 nz nn hd hr so eqW
attribute [local irreducible] callOk

set_option maxRecDepth 100000 in
theorem sMade : SlN Tryd.prog 29 32 1 24 := ⟨rfl, ⟨_, _, rfl, rfl, rfl, rfl, rfl⟩, by decide⟩
set_option maxRecDepth 100000 in
theorem sSeen : SlN Tryd.prog 22 30 1 24 := ⟨rfl, ⟨_, _, rfl, rfl, rfl, rfl, rfl⟩, by decide⟩

/-- a snapshot that was made: its bytes, the view it was made with, what was acked and which base it had -/
structure Mr where
  p : Option Addr
  c : Nat
  bs : List Nat
  s : SS
  es : List Ent
  ak : Int
  b : Option (List Ent)
def Mr.mv (r : Mr) : List Value := [.slice r.p r.bs.length r.c]
def Mr.sv (r : Mr) : List Value := [r.s.v]
def Knows (H : List Mr) (A : List Tv) : Prop := ∀ x ∈ A, 0 ≤ x.1 ∧ (H[x.1.toNat]?).map (·.es) = some x.2
structure MrOk (W : World) (H : List Mr) (L : List (Nat × List Value × TypeId)) (k : Nat) (r : Mr) : Prop where
  pk : Packs r.bs (makeB (k : Int) r.ak r.b r.es)
  hv : HV L r.p (bv r.bs)
  rd : Reads W r.s.p (r.es.flatMap Ent.cells)
  ln : r.es.length = r.s.n
  I : ∀ e ∈ r.es, e.I
  ok : okV (-1) r.es = true
  bok : okV (-1) (r.b.getD []) = true
  base : r.b.isSome = true → r.ak < k ∧ (k : Int) - r.ak < 65536 ∧ 0 ≤ r.ak ∧ ∀ es', (H[r.ak.toNat]?).map (·.es) = some es' → es' = r.b.getD []

theorem Knows.grow {H : List Mr} {A : List Tv} (h : Knows H A) (r : Mr) : Knows (H ++ [r]) A := fun x hx => by
  obtain ⟨h0, h1⟩ := h x hx
  refine ⟨h0, ?_⟩
  cases hg : H[x.1.toNat]? with
  | none => rw [hg] at h1; cases h1
  | some y =>
    rw [List.getElem?_append_left (List.getElem?_eq_some_iff.1 hg).1, hg]
    rw [hg] at h1
    exact h1
theorem Knows.last {H : List Mr} {A : List Tv} (h : Knows H A) {t : Int} {es : List Ent} (h0 : 0 ≤ t) (hr : (H[t.toNat]?).map (·.es) = some es) : Knows H (lastR (A ++ [(t, es)])) := fun x hx => by
  rcases List.mem_append.1 (lastR_sub hx) with hx | hx
  · exact h x hx
  · rw [List.mem_singleton.1 hx]
    exact ⟨h0, hr⟩
theorem Knows.lt {H : List Mr} {A : List Tv} (h : Knows H A) : ∀ x ∈ A, x.1 < (H.length : Int) := fun x hx => by
  obtain ⟨h0, h1⟩ := h x hx
  cases hg : H[x.1.toNat]? with
  | none => rw [hg] at h1; cases h1
  | some y =>
    have := (List.getElem?_eq_some_iff.1 hg).1
    omega
theorem MrOk.grow {W : World} {H : List Mr} {L L' : List (Nat × List Value × TypeId)} {k : Nat} {r : Mr} (h : MrOk W H L k r) (hk : k < H.length) (hL : ∀ b ∈ L, b ∈ L') (r' : Mr) : MrOk W (H ++ [r']) L' k r :=
  ⟨h.pk, h.hv.mono hL, h.rd, h.ln, h.I, h.ok, h.bok, fun hb => by
    obtain ⟨h1, h2, h3, h4⟩ := h.base hb
    refine ⟨h1, h2, h3, fun es' he => h4 es' ?_⟩
    rw [List.getElem?_append_left (by omega)] at he
    exact he⟩

section
variable {w00 : World} {M : Nat → Prop} {wa w : World} {L : List (Nat × List Value × TypeId)} {J : (Nat → Prop) → World → Prop} {q : Nat} {A : List Tv}
theorem applyR2 (hp : Pts w00) (h : Bn w00 M wa w L (Pj J (RJ q [] 66 A))) (kJ : Kp J) (hA : SOk A) {pv : Option Addr} {n c : Nat} {bs : List Nat} (hv : Reads w pv (bv bs)) (hn : bs.length = n)
    {tick acked : Int} {b : Option (List Ent)} {es : List Ent} (hpk : Packs bs (makeB tick acked b es)) (ht : 0 ≤ tick ∧ tick < 1099511627776)
    (hb0 : okV (-1) (b.getD []) = true) (hes : okV (-1) es = true) (hI : ∀ e ∈ es, e.I) (hbase : b.isSome = true → acked < tick ∧ tick - acked < 65536 ∧ 0 ≤ acked ∧ ∀ x ∈ A, x.1 = acked → x.2 = b.getD []) {K : Value → World → Prop}
    (hK : ∀ t e A' w', SOk A' → ((e ≠ 0 ∧ A' = A) ∨ (e = 0 ∧ t = tick ∧ A' = lastR (A ++ [(tick, es)]))) → Bn w00 M wa w' L (Pj J (RJ q [] 66 A')) → K (.tuple #[.int .i64 t, .int .i64 e]) w') :
    cl Tryd.prog 15 #[.pointer (some ⟨q, 0, none⟩), .slice pv n c] w K := by
  refine applyR hp h kJ hA hv hn hpk ht hb0 hes hI hbase (fun he w' hS => hK _ _ A w' hA (.inl ⟨he, rfl⟩) hS) fun he w' hS => hK _ _ _ w' (hA.put ht.1 ht.2 hes hI ?_) (.inr ⟨rfl, rfl, rfl⟩) hS
  have hl : lateB A tick = false := by
    unfold applyE at he
    split at he
    · cases he
    · rename_i h; simpa using h
  exact late_all hA.inc hl
end

theorem and_tmod {x : Int} {n : Nat} (hn : 0 < n) (h0 : 0 ≤ x) : Int.tmod x (n : Int) = ((x.toNat % n : Nat) : Int) ∧ x.toNat % n < n := by
  refine ⟨?_, Nat.mod_lt _ hn⟩
  obtain ⟨k, rfl⟩ := Int.eq_ofNat_of_zero_le h0
  rfl

set_option maxHeartbeats 6400000 in
theorem snapJust_law (W : World) (hp : Pts W) (a0 : Option Addr) (len0 cap0 : Nat) (z0 : List SS) (R0 : Reads W a0 (z0.map SS.v)) (L0 : z0.length = len0)
    (F0 : ∀ s ∈ z0, Reads W s.p s.z.flatten ∧ s.z.length = s.n ∧ (∀ c ∈ s.z, FitsAll [.int .i64, .int .i64, .int .i64, .int .i64, .int .i64, .int .i64, .int .i64, .int .i64] c) ∧ s.n * 64 ≤ 140737488351232) (Y0 : len0 * 24 ≤ 140737488351232)
    (a1 : Option Addr) (len1 cap1 : Nat) (z1 : List Int) (Ra : Reads W a1 (iv .i64 z1)) (La : z1.length = len1) (_F1 : ∀ n ∈ z1, (Lit.int .i64 n).wf = true) (Y1 : len1 * 8 ≤ 140737488351232) :
    cl Tryd.prog 3 #[.slice a0 len0 cap0, .slice a1 len1 cap1] W fun v w' => v = .bool true ∧ Ext no W w' := by
  subst L0
  subst La
  obtain ⟨f, hf⟩ := views_of F0
  apply F3_calls
  unfold F3
  refine awake_k hp fun w1 hx1 => asB_i rfl ?_
  have hS0 : Bn W no W w1 [] (Ps []) := ((Bn.fresh W).to hx1).map (Ps.kp trivial) fun _ h => h
  refine newS_k (hS0.row0 (e := 30) (s := 1) |>.row0 (e := 32) (s := 1)) fun rs w2 hS => asP_i rfl ?_
  refine newA_k hS fun ra w3 hS => asP_i rfl ?_
  clear hS0
  have hS : Bn W no W w3 [] (Ps [RJ ra [] 66 [], RJ rs [.int .i64 (-1)] 64 [], RwJ 32 1 none 0 0 [], RwJ 30 1 none 0 0 []]) := hS
  refine jn_mk (cond_f rfl (cond_f rfl (asB_i rfl (cond_f rfl (lv_i ?_)))))
  refine lp_mk (fun t : (Option Addr × Nat) × (Option Addr × Nat) × Nat × Nat => [.slice t.1.1 t.2.2.1 t.1.2, .slice t.2.1.1 t.2.2.1 t.2.1.2, .int .i64 (t.2.2.2 : Int)])
    (fun z t w' => z = 300 - t.2.2.2 ∧ t.2.2.2 ≤ 300 ∧ t.2.2.2 ≤ z1.length ∧ ∃ (L : List (Nat × List Value × TypeId)) (H : List Mr) (A A2 : List Tv) (acked : Int), H.length = t.2.2.1 ∧ t.2.2.1 ≤ t.2.2.2 ∧ (∀ k r, H[k]? = some r → MrOk W H L k r) ∧ SOk A ∧ SOk A2 ∧ Knows H A ∧ Knows H A2 ∧ (-1 ≤ acked ∧ acked ≤ 255) ∧
      Bn W no W w' L (Ps [RJ ra [] 66 A2, RJ rs [.int .i64 acked] 64 A, RwJ 32 1 t.1.1 t.1.2 t.2.2.1 (H.flatMap Mr.mv), RwJ 30 1 t.2.1.1 t.2.1.2 t.2.2.1 (H.flatMap Mr.sv)])) 300 ((none, 0), (none, 0), 0, 0) rfl
    ⟨rfl, by decide, Nat.zero_le _, [], [], [], [], -1, rfl, Nat.le_refl _, (fun k r h => by cases h), SOk.nil, SOk.nil, (fun x hx => by cases hx), (fun x hx => by cases hx), by decide, hS⟩ ?_
  clear hS hx1
  rintro _ ⟨⟨pm, cm⟩, ⟨pe, ce⟩, m, i⟩ w3 ⟨rfl, hi, hil, L, H, A, A2, acked, hHm, hmi, hH, hA, hA2, hKA, hKA2, hack, hS⟩ J hJ
  simp only at hi hil hHm hmi hS hJ ⊢
  subst hHm
  refine asS_i rfl (asS_i rfl (asI_i rfl ?_))
  refine jn_of (fun s w' => s = [.bool (decide ((i : Int) < (z1.length : Int)) && decide ((i : Int) < 300))] ∧ w' = w3) ?_ ?_
  rotate_left
  · intro J2 hJ2
    refine cond_split (fun h => hJ2 _ _ ⟨by rw [h, Bool.true_and], rfl⟩) (fun h => hJ2 _ _ ⟨by rw [h, Bool.false_and], rfl⟩)
  rintro _ w3 ⟨rfl, rfl⟩
  refine asB_i rfl (cond_split (fun hc => ?_) (fun hc => ⟨trivial, hS.all⟩))
  simp only [Bool.and_eq_true, decide_eq_true_eq] at hc
  have hi300 : i < 300 := by omega
  have hiz : i < z1.length := by omega
  refine jn_of (fun s w' => ∃ (pm : Option Addr) (cm : Nat) (pe : Option Addr) (ce : Nat) (L : List (Nat × List Value × TypeId)) (H : List Mr) (A A2 : List Tv) (acked : Int), s = [.slice pm H.length cm, .slice pe H.length ce] ∧ H.length ≤ i + 1 ∧ (∀ k r, H[k]? = some r → MrOk W H L k r) ∧ SOk A ∧ SOk A2 ∧ Knows H A ∧ Knows H A2 ∧ (-1 ≤ acked ∧ acked ≤ 255) ∧
      Bn W no W w' L (Ps [RJ ra [] 66 A2, RJ rs [.int .i64 acked] 64 A, RwJ 32 1 pm cm H.length (H.flatMap Mr.mv), RwJ 30 1 pe ce H.length (H.flatMap Mr.sv)])) ?_ ?_
  · rintro _ w4 ⟨pm, cm, pe, ce, L, H, A, A2, acked, rfl, hmi, hH, hA, hA2, hKA, hKA2, hack, hS⟩
    have ei : IntKind.wrap .i64 ((i : Int) + 1) = ((i + 1 : Nat) : Int) := by rw [wr64 (by omega) (by omega)]; omega
    refine asS_i rfl (asS_i rfl (lv_i ?_))
    rw [ei]
    exact hJ (300 - (i + 1)) ((pm, cm), (pe, ce), H.length, i + 1) _ (by omega) ⟨rfl, by simp only; omega, by simp only; omega, L, H, A, A2, acked, rfl, hmi, hH, hA, hA2, hKA, hKA2, hack, hS⟩
  intro J2 hJ2
  have hget := iv_get (k := .i64) hiz
  generalize z1.getD i 0 = k at hget
  refine Reads.at (Ra.ext hS.all fun _ _ h => h) (by omega) (by rw [Int.toNat_natCast]; exact hget) (asI_i rfl (lv_i ?_)) (by rw [iv_length]; exact Nat.le_refl _)
  have hKp : KpAll [RJ ra [] 66 A2, RJ rs [.int .i64 acked] 64 A, RwJ 32 1 pm cm H.length (H.flatMap Mr.mv), RwJ 30 1 pe ce H.length (H.flatMap Mr.sv)] := ⟨RJ.kp, RJ.kp, RwJ.kp, RwJ.kp, trivial⟩
  have hy := andk (Int.fdiv k (2 ^ (min (Int.toNat (2 : Int)) 64))) (m := 255) (by decide)
  have hy' : 0 ≤ Go.bits .and .i64 (Int.fdiv k (2 ^ (min (Int.toNat (2 : Int)) 64))) (255 : Int) ∧ Go.bits .and .i64 (Int.fdiv k (2 ^ (min (Int.toNat (2 : Int)) 64))) (255 : Int) ≤ 255 := hy
  have hz := andk (Int.fdiv k (2 ^ (min (Int.toNat (2 : Int)) 64))) (m := 31) (by decide)
  have hz' : 0 ≤ Go.bits .and .i64 (Int.fdiv k (2 ^ (min (Int.toNat (2 : Int)) 64))) (31 : Int) ∧ Go.bits .and .i64 (Int.fdiv k (2 ^ (min (Int.toNat (2 : Int)) 64))) (31 : Int) ≤ 31 := hz
  clear hy hz
  generalize Go.bits .and .i64 (Int.fdiv k (2 ^ (min (Int.toNat (2 : Int)) 64))) (255 : Int) = y at hy'
  generalize Go.bits .and .i64 (Int.fdiv k (2 ^ (min (Int.toNat (2 : Int)) 64))) (31 : Int) = u at hz'
  refine jn_of (fun s w' => s = [.bool (Go.bits .and .i64 k 3 == 0 && decide ((z0.length : Int) > 0))] ∧ w' = w3) ?_ ?_
  rotate_left
  · intro J3 hJ3
    refine cond_split (fun h => hJ3 _ _ ⟨by rw [h, Bool.true_and], rfl⟩) (fun h => hJ3 _ _ ⟨by rw [h, Bool.false_and], rfl⟩)
  rintro _ w3 ⟨rfl, rfl⟩
  refine asB_i rfl (cond_split (fun hb => ?_) (fun hb => cond_split (fun hb1 => ?_) (fun hb1 => ?_)))
  · simp only [Bool.and_eq_true, decide_eq_true_eq] at hb
    have hzl : 0 < z0.length := by omega
    obtain ⟨e1, e2⟩ := and_tmod (x := y) hzl hy'.1
    rw [e1]
    have hgs : z0[y.toNat % z0.length]? = some z0[y.toNat % z0.length] := List.getElem?_eq_getElem e2
    obtain ⟨hv, hvl, hvI, hvn⟩ := hf _ (List.getElem_mem e2)
    generalize z0[y.toNat % z0.length] = s at hgs hv hvl hvI hvn
    generalize f s = es at hv hvl hvI
    refine nz_mk (by omega) (view_at R0 hS.all hgs ?_)
    refine makeR hp (Ps.p1 hS hKp) (Ps.kp ⟨RJ.kp, RwJ.kp, RwJ.kp, trivial⟩) hA ⟨hack.1, by omega⟩ (by unfold I64; omega) (hv.ext hS.all fun _ _ h => h) hvl hvn hvI (fun he w4 hS => ?_) (fun he p4 c4 bs4 w4 L4 hS hV4 hP4 => ?_)
    · refine asT_i rfl rfl (asS_i rfl (asI_i rfl (lv_i (cond_f (by simpa using he) (hJ2 _ _ ⟨pm, cm, pe, ce, L, H, A, A2, acked, rfl, by omega, hH, hA, hA2, hKA, hKA2, hack, Ps.p1 hS ⟨RJ.kp, RJ.kp, RwJ.kp, RwJ.kp, trivial⟩⟩)))))
    · refine asT_i rfl rfl (asS_i rfl (asI_i rfl (lv_i (cond_t rfl ?_))))
      obtain ⟨h0, h1, hlate, hok⟩ := makeE0 he
      have hA' := hA.made he hvI
      have hS := Ps.p1 hS ⟨RJ.kp, RJ.kp, RwJ.kp, RwJ.kp, trivial⟩
      have hS := Ps.p2 hS ⟨RJ.kp, RJ.kp, RwJ.kp, RwJ.kp, trivial⟩
      refine Bn.app1 sMade hS (Ps.kp ⟨RJ.kp, RJ.kp, RwJ.kp, trivial⟩) (vs := [.slice p4 bs4.length c4]) rfl (by simp [one]) (le_maxLen (by omega)) (by omega) fun p5 c5 w5 hS => asS_i rfl ?_
      have hS := Ps.p2' hS ⟨RJ.kp, RJ.kp, RwJ.kp, RwJ.kp, trivial⟩
      have hS := Ps.p3 hS ⟨RJ.kp, RJ.kp, RwJ.kp, RwJ.kp, trivial⟩
      refine Bn.app1 sSeen hS (Ps.kp ⟨RJ.kp, RJ.kp, RwJ.kp, trivial⟩) (vs := [s.v]) rfl (by simp [one, SS.v]) (le_maxLen (by omega)) (by omega) fun p6 c6 w6 hS => asS_i rfl ?_
      have hS := Ps.p3' hS ⟨RJ.kp, RJ.kp, RwJ.kp, RwJ.kp, trivial⟩
      obtain ⟨r, hr⟩ : ∃ r : Mr, r = ⟨p4, c4, bs4, s, es, acked, baseV A acked (H.length : Int)⟩ := ⟨_, rfl⟩
      have hlen : (H ++ [r]).length = H.length + 1 := by simp
      have hm1 : (H ++ [r]).flatMap Mr.mv = H.flatMap Mr.mv ++ [.slice p4 bs4.length c4] := by rw [List.flatMap_append, hr]; rfl
      have hm2 : (H ++ [r]).flatMap Mr.sv = H.flatMap Mr.sv ++ [s.v] := by rw [List.flatMap_append, hr]; rfl
      rw [← hm1, ← hm2, ← hlen] at hS
      have hgr : (H ++ [r])[H.length]? = some r := by simp
      have hes : ((H ++ [r])[(H.length : Int).toNat]?).map (·.es) = some es := by rw [Int.toNat_natCast, hgr, hr]; rfl
      refine hJ2 _ _ ⟨p5, c5, p6, c6, L4 ++ L, H ++ [r], _, A2, acked, ?_, by omega, fun k' r' hk' => ?_, hA', hA2, (hKA.grow r).last (by omega) hes, hKA2.grow r, hack, hS⟩
      · rw [hlen]
      · rcases Nat.lt_or_ge k' H.length with hlt | hge
        · rw [List.getElem?_append_left hlt] at hk'
          exact (hH k' r' hk').grow hlt (fun b hb => List.mem_append_right _ hb) r
        · have hkl := (List.getElem?_eq_some_iff.1 hk').1
          obtain rfl : k' = H.length := by omega
          obtain rfl : r' = r := Option.some.inj (hk'.symm.trans hgr)
          subst hr
          refine ⟨hP4, hV4.mono fun b hb => List.mem_append_left _ hb, hv, hvl, hvI, hok, baseV_ok hA, fun hbs => ?_⟩
          obtain ⟨g1, g2, g3, g4⟩ := baseV_some hA hlate hbs
          refine ⟨g1, g2, g3, fun es' he' => ?_⟩
          have := ((hKA.grow (⟨p4, c4, bs4, s, es, acked, baseV A acked (H.length : Int)⟩ : Mr)) _ g4).2
          exact Option.some.inj (he'.symm.trans this)
  · refine ackR (Ps.p1 hS hKp) (Ps.kp ⟨RJ.kp, RwJ.kp, RwJ.kp, trivial⟩) hA.len fun w4 hS => asB_i rfl ?_
    refine hJ2 _ _ ⟨pm, cm, pe, ce, L, H, A, A2, _, rfl, by omega, hH, hA, hA2, hKA, hKA2, ?_, Ps.p1 hS ⟨RJ.kp, RJ.kp, RwJ.kp, RwJ.kp, trivial⟩⟩
    split <;> omega
  · refine cond_split (fun hpos => lv_i ?_) (fun _ => hJ2 _ _ ⟨pm, cm, pe, ce, L, H, A, A2, acked, rfl, by omega, hH, hA, hA2, hKA, hKA2, hack, hS⟩)
    have hH0 : 0 < H.length := by
      have := of_decide_eq_true hpos
      omega
    have en : IntKind.wrap .i64 (IntKind.wrap .i64 ((H.length : Int) - 1) - u) = (H.length : Int) - 1 - u := by
      rw [wr64 (n := (H.length : Int) - 1) (by omega) (by omega), wr64 (by omega) (by omega)]
    rw [en]
    refine cond_split (fun hn0 => ?_) (fun _ => hJ2 _ _ ⟨pm, cm, pe, ce, L, H, A, A2, acked, rfl, by omega, hH, hA, hA2, hKA, hKA2, hack, hS⟩)
    have hn0' : 0 ≤ (H.length : Int) - 1 - u := of_decide_eq_true hn0
    obtain ⟨n, hn⟩ : ∃ n : Nat, (H.length : Int) - 1 - u = (n : Int) := ⟨((H.length : Int) - 1 - u).toNat, by omega⟩
    rw [hn]
    have hnl : n < H.length := by omega
    have hgr : H[n]? = some H[n] := List.getElem?_eq_getElem hnl
    have hro := hH n _ hgr
    generalize H[n] = r at hgr hro
    have hrow := (Ps.p2 hS hKp).rrow
    have hmr : (H.flatMap Mr.mv)[n]? = some (.slice r.p r.bs.length r.c) := by
      have := fl_getN (f := Mr.mv) (s := 1) (fun _ => rfl) hgr 0 (by decide)
      rw [Nat.mul_one, Nat.add_zero] at this
      exact this
    refine Reads.at hrow.reads (by omega) (by rw [Int.toNat_natCast]; exact hmr) (asS_i rfl ?_) (by rw [hrow.len]; omega)
    have hrn : (H[(n : Int).toNat]?).map (·.es) = some r.es := by rw [Int.toNat_natCast, hgr]; rfl
    refine applyR2 hp hS (Ps.kp ⟨RJ.kp, RwJ.kp, RwJ.kp, trivial⟩) hA2 (hro.hv.reads hS fun b hb => hb) rfl hro.pk ⟨by omega, by omega⟩ hro.bok hro.ok hro.I (fun hbs => ?_) fun t e A3 w4 hA3 hcase hS => ?_
    · obtain ⟨g1, g2, g3, g4⟩ := hro.base hbs
      refine ⟨g1, g2, g3, fun x hx e => g4 _ ?_⟩
      rw [← e]
      exact (hKA2 x hx).2
    have hKA3 : Knows H A3 := by
      rcases hcase with ⟨_, rfl⟩ | ⟨_, _, rfl⟩
      · exact hKA2
      · exact hKA2.last (by omega) hrn
    refine asT_i rfl rfl (asI_i rfl (asI_i rfl (lv_i (lv_i ?_))))
    refine viewR hS (Ps.kp ⟨RJ.kp, RwJ.kp, RwJ.kp, trivial⟩) hA3 (fun hnil => ?_) fun t' es' hlast p7 c7 w7 hS hx7 hrow7 => ?_
    · refine asT_i rfl rfl (asS_i rfl (asI_i rfl (asB_i rfl (lv_i ?_))))
      have he : e ≠ 0 := by
        rcases hcase with ⟨he, _⟩ | ⟨_, _, rfl⟩
        · exact he
        · have := lastR_last (A := A2) (x := ((n : Int), r.es))
          rw [hnil] at this
          cases this
      refine jn_mk (cond_f (by simpa using he) (asB_i rfl (cond_f rfl ?_)))
      refine jn_mk (cond_t rfl (asB_i rfl (cond_f rfl (hJ2 _ _ ⟨pm, cm, pe, ce, L, H, A, A3, acked, rfl, by omega, hH, hA, hA3, hKA, hKA3, hack, hS⟩))))
    · refine asT_i rfl rfl (asS_i rfl (asI_i rfl (asB_i rfl (lv_i ?_))))
      refine jn_of (fun s w' => s = [.bool false] ∧ w' = w7) ?_ ?_
      rotate_left
      · intro J3 hJ3
        rcases hcase with ⟨he, _⟩ | ⟨rfl, rfl, rfl⟩
        · exact cond_f (by simpa using he) (hJ3 _ _ ⟨rfl, rfl⟩)
        · rw [lastR_last] at hlast
          obtain ⟨rfl, rfl⟩ : (n : Int) = t' ∧ r.es = es' := by simpa using hlast
          exact cond_t rfl (cond_f (by simp) (cond_f (by simp) (hJ3 _ _ ⟨rfl, rfl⟩)))
      rintro _ w7 ⟨rfl, rfl⟩
      refine asB_i rfl (cond_f rfl ?_)
      obtain ⟨ht0, htH⟩ := hKA3 _ (List.mem_of_getLast? hlast)
      obtain ⟨r2, hr2, hr2e⟩ := Option.map_eq_some_iff.1 htH
      have hro2 := hH _ _ hr2
      have hrow2 := (Ps.p3 hS ⟨RJ.kp, RJ.kp, RwJ.kp, RwJ.kp, trivial⟩).rrow
      have hmr2 : (H.flatMap Mr.sv)[t'.toNat]? = some (.slice r2.s.p r2.s.n r2.s.c) := by
        have := fl_getN (f := Mr.sv) (s := 1) (fun _ => rfl) hr2 0 (by decide)
        rw [Nat.mul_one, Nat.add_zero] at this
        exact this
      have h64 := okV_len hro2.ok (by decide)
      have hr2e' : r2.es = es' := hr2e
      subst hr2e'
      refine jn_of (fun s w' => s = [.bool true] ∧ Ext no w7 w') ?_ ?_
      rotate_left
      · intro J3 hJ3
        refine cond_f rfl (Reads.at hrow2.reads ht0 hmr2 (asS_i rfl ?_) (by rw [hrow2.len]; omega))
        refine rsame_k hro2.I hrow7.reads (hro2.rd.ext hS.all fun _ _ h => h) rfl hro2.ln (by omega) fun w8 hx8 => asB_i rfl (hJ3 _ _ ⟨rfl, hx8⟩)
      rintro _ w8 ⟨rfl, hx8⟩
      refine asB_i rfl (cond_f rfl (hJ2 _ _ ⟨pm, cm, pe, ce, L, H, A, A3, acked, rfl, by omega, hH, hA, hA3, hKA, hKA3, hack, hS.to hx8⟩))
end Go.Proofs.YtfnepdppkmjboaaDoor

/- SnNa: who is near (vec.Near and the document's), which entities are right by the document. Conditions: those of each theorem, on its arguments. -/
namespace Go.Proofs.YtfnepdppkmjboaaDoor
open Go Go.Sx Go.Fp
attribute [local irreducible] jn lv ld st nw asI asB asP asS asY asM asF asA asT lp rn ru rq cl dw dr bnd bn2 nz nn hd hr so eqW
attribute [local irreducible] callOk

theorem rwithin19_k {n m : Int} (hm : 0 ≤ m ∧ m ≤ 9223372036854775807) {w : World} {K : Value → World → Prop} (hK : K (.bool (inn n m)) w) : cl Tryd.prog 52 #[.int .i64 n, .int .i64 m] w K := by
  apply F52_calls
  unfold F52
  have e : IntKind.wrap .i64 (0 - m) = -m := by rw [wr64 (by omega) (by omega)]; omega
  rw [e]
  refine jn_mk (cond_split (fun h => asB_i rfl ?_) (fun h => asB_i rfl ?_))
  · have : inn n m = decide (n ≤ m) := by
      have h' : -m ≤ n := of_decide_eq_true h
      unfold inn; rw [decide_eq_true h']; rfl
    rw [← this]; exact hK
  · have : inn n m = false := by
      have h' : ¬ -m ≤ n := of_decide_eq_false h
      unfold inn; rw [decide_eq_false h']; rfl
    rw [← this]; exact hK

theorem rright19_k {e : Ent} {w : World} {K : Value → World → Prop} (hK : ∀ w', Ext no w w' → K (.int .i64 e.rightE) w') : cl Tryd.prog 42 #[e.v] w K := by
  apply F42_calls
  unfold F42
  have hS := St.start w
  (refine hS.nw ?_; clear hS; intro r1 _ hS)
  refine lv_i ?_
  repeat (first | (refine dr_i ?_) | (refine asI_i rfl ?_) | (refine asB_i rfl ?_) | (refine asN_i rfl ?_) | (refine asP_i rfl ?_) | (refine asS_i rfl ?_) | (refine asY_i rfl ?_) | (refine asM_i rfl ?_) | (refine asA_i rfl rfl ?_) | (refine asT_i rfl rfl ?_) | (refine lv_i ?_) | (refine hS.nw ?_; clear hS; intro _ _ hS) | (refine hS.dw ?_; clear hS; intro _ hS _) | (refine hS.ld0 0 rfl rfl ?_) | (refine hS.ld 0 rfl rfl ?_) | (refine hS.ld0 1 rfl rfl ?_) | (refine hS.ld 1 rfl rfl ?_) | (refine hS.ld0 2 rfl rfl ?_) | (refine hS.ld 2 rfl rfl ?_) | (refine hS.ld0 3 rfl rfl ?_) | (refine hS.ld 3 rfl rfl ?_) | (refine hS.ld0 4 rfl rfl ?_) | (refine hS.ld 4 rfl rfl ?_) | (refine hS.ld0 5 rfl rfl ?_) | (refine hS.ld 5 rfl rfl ?_) | (refine hS.ldd 0 rfl rfl ?_) | (refine hS.ldd 1 rfl rfl ?_) | (refine hS.ldd 2 rfl rfl ?_) | (refine hS.ldd 3 rfl rfl ?_) | (refine hS.ldd 4 rfl rfl ?_) | (refine hS.ldd 5 rfl rfl ?_) | (refine hS.hd0 0 rfl rfl ?_) | (refine hS.hd 0 rfl rfl ?_) | (refine hS.hd0 1 rfl rfl ?_) | (refine hS.hd 1 rfl rfl ?_) | (refine hS.hd0 2 rfl rfl ?_) | (refine hS.hd 2 rfl rfl ?_) | (refine hS.hd0 3 rfl rfl ?_) | (refine hS.hd 3 rfl rfl ?_) | (refine hS.hd0 4 rfl rfl ?_) | (refine hS.hd 4 rfl rfl ?_) | (refine hS.hd0 5 rfl rfl ?_) | (refine hS.hd 5 rfl rfl ?_) | (refine hS.hdd 0 rfl rfl ?_) | (refine hS.hdd 1 rfl rfl ?_) | (refine hS.hdd 2 rfl rfl ?_) | (refine hS.hdd 3 rfl rfl ?_) | (refine hS.hdd 4 rfl rfl ?_) | (refine hS.hdd 5 rfl rfl ?_) | (refine hS.st0 0 rfl rfl rfl ?_; clear hS; intro _ hS) | (refine hS.st 0 rfl rfl rfl ?_; clear hS; intro _ hS) | (refine hS.st0 1 rfl rfl rfl ?_; clear hS; intro _ hS) | (refine hS.st 1 rfl rfl rfl ?_; clear hS; intro _ hS) | (refine hS.st0 2 rfl rfl rfl ?_; clear hS; intro _ hS) | (refine hS.st 2 rfl rfl rfl ?_; clear hS; intro _ hS) | (refine hS.st0 3 rfl rfl rfl ?_; clear hS; intro _ hS) | (refine hS.st 3 rfl rfl rfl ?_; clear hS; intro _ hS) | (refine hS.st0 4 rfl rfl rfl ?_; clear hS; intro _ hS) | (refine hS.st 4 rfl rfl rfl ?_; clear hS; intro _ hS) | (refine hS.st0 5 rfl rfl rfl ?_; clear hS; intro _ hS) | (refine hS.st 5 rfl rfl rfl ?_; clear hS; intro _ hS) | (refine hS.std 0 rfl rfl rfl ?_; clear hS; intro _ hS) | (refine hS.std 1 rfl rfl rfl ?_; clear hS; intro _ hS) | (refine hS.std 2 rfl rfl rfl ?_; clear hS; intro _ hS) | (refine hS.std 3 rfl rfl rfl ?_; clear hS; intro _ hS) | (refine hS.std 4 rfl rfl rfl ?_; clear hS; intro _ hS) | (refine hS.std 5 rfl rfl rfl ?_; clear hS; intro _ hS) | (refine bnd_mk (by decide) (by decide) ?_) | (refine so_i rfl ?_))
  refine rwithin19_k (by decide) ?_
  repeat (first | (refine dr_i ?_) | (refine asI_i rfl ?_) | (refine asB_i rfl ?_) | (refine asN_i rfl ?_) | (refine asP_i rfl ?_) | (refine asS_i rfl ?_) | (refine asY_i rfl ?_) | (refine asM_i rfl ?_) | (refine asA_i rfl rfl ?_) | (refine asT_i rfl rfl ?_) | (refine lv_i ?_) | (refine hS.nw ?_; clear hS; intro _ _ hS) | (refine hS.dw ?_; clear hS; intro _ hS _) | (refine hS.ld0 0 rfl rfl ?_) | (refine hS.ld 0 rfl rfl ?_) | (refine hS.ld0 1 rfl rfl ?_) | (refine hS.ld 1 rfl rfl ?_) | (refine hS.ld0 2 rfl rfl ?_) | (refine hS.ld 2 rfl rfl ?_) | (refine hS.ld0 3 rfl rfl ?_) | (refine hS.ld 3 rfl rfl ?_) | (refine hS.ld0 4 rfl rfl ?_) | (refine hS.ld 4 rfl rfl ?_) | (refine hS.ld0 5 rfl rfl ?_) | (refine hS.ld 5 rfl rfl ?_) | (refine hS.ldd 0 rfl rfl ?_) | (refine hS.ldd 1 rfl rfl ?_) | (refine hS.ldd 2 rfl rfl ?_) | (refine hS.ldd 3 rfl rfl ?_) | (refine hS.ldd 4 rfl rfl ?_) | (refine hS.ldd 5 rfl rfl ?_) | (refine hS.hd0 0 rfl rfl ?_) | (refine hS.hd 0 rfl rfl ?_) | (refine hS.hd0 1 rfl rfl ?_) | (refine hS.hd 1 rfl rfl ?_) | (refine hS.hd0 2 rfl rfl ?_) | (refine hS.hd 2 rfl rfl ?_) | (refine hS.hd0 3 rfl rfl ?_) | (refine hS.hd 3 rfl rfl ?_) | (refine hS.hd0 4 rfl rfl ?_) | (refine hS.hd 4 rfl rfl ?_) | (refine hS.hd0 5 rfl rfl ?_) | (refine hS.hd 5 rfl rfl ?_) | (refine hS.hdd 0 rfl rfl ?_) | (refine hS.hdd 1 rfl rfl ?_) | (refine hS.hdd 2 rfl rfl ?_) | (refine hS.hdd 3 rfl rfl ?_) | (refine hS.hdd 4 rfl rfl ?_) | (refine hS.hdd 5 rfl rfl ?_) | (refine hS.st0 0 rfl rfl rfl ?_; clear hS; intro _ hS) | (refine hS.st 0 rfl rfl rfl ?_; clear hS; intro _ hS) | (refine hS.st0 1 rfl rfl rfl ?_; clear hS; intro _ hS) | (refine hS.st 1 rfl rfl rfl ?_; clear hS; intro _ hS) | (refine hS.st0 2 rfl rfl rfl ?_; clear hS; intro _ hS) | (refine hS.st 2 rfl rfl rfl ?_; clear hS; intro _ hS) | (refine hS.st0 3 rfl rfl rfl ?_; clear hS; intro _ hS) | (refine hS.st 3 rfl rfl rfl ?_; clear hS; intro _ hS) | (refine hS.st0 4 rfl rfl rfl ?_; clear hS; intro _ hS) | (refine hS.st 4 rfl rfl rfl ?_; clear hS; intro _ hS) | (refine hS.st0 5 rfl rfl rfl ?_; clear hS; intro _ hS) | (refine hS.st 5 rfl rfl rfl ?_; clear hS; intro _ hS) | (refine hS.std 0 rfl rfl rfl ?_; clear hS; intro _ hS) | (refine hS.std 1 rfl rfl rfl ?_; clear hS; intro _ hS) | (refine hS.std 2 rfl rfl rfl ?_; clear hS; intro _ hS) | (refine hS.std 3 rfl rfl rfl ?_; clear hS; intro _ hS) | (refine hS.std 4 rfl rfl rfl ?_; clear hS; intro _ hS) | (refine hS.std 5 rfl rfl rfl ?_; clear hS; intro _ hS) | (refine bnd_mk (by decide) (by decide) ?_) | (refine so_i rfl ?_))
  refine rwithin19_k (by decide) ?_
  repeat (first | (refine dr_i ?_) | (refine asI_i rfl ?_) | (refine asB_i rfl ?_) | (refine asN_i rfl ?_) | (refine asP_i rfl ?_) | (refine asS_i rfl ?_) | (refine asY_i rfl ?_) | (refine asM_i rfl ?_) | (refine asA_i rfl rfl ?_) | (refine asT_i rfl rfl ?_) | (refine lv_i ?_) | (refine hS.nw ?_; clear hS; intro _ _ hS) | (refine hS.dw ?_; clear hS; intro _ hS _) | (refine hS.ld0 0 rfl rfl ?_) | (refine hS.ld 0 rfl rfl ?_) | (refine hS.ld0 1 rfl rfl ?_) | (refine hS.ld 1 rfl rfl ?_) | (refine hS.ld0 2 rfl rfl ?_) | (refine hS.ld 2 rfl rfl ?_) | (refine hS.ld0 3 rfl rfl ?_) | (refine hS.ld 3 rfl rfl ?_) | (refine hS.ld0 4 rfl rfl ?_) | (refine hS.ld 4 rfl rfl ?_) | (refine hS.ld0 5 rfl rfl ?_) | (refine hS.ld 5 rfl rfl ?_) | (refine hS.ldd 0 rfl rfl ?_) | (refine hS.ldd 1 rfl rfl ?_) | (refine hS.ldd 2 rfl rfl ?_) | (refine hS.ldd 3 rfl rfl ?_) | (refine hS.ldd 4 rfl rfl ?_) | (refine hS.ldd 5 rfl rfl ?_) | (refine hS.hd0 0 rfl rfl ?_) | (refine hS.hd 0 rfl rfl ?_) | (refine hS.hd0 1 rfl rfl ?_) | (refine hS.hd 1 rfl rfl ?_) | (refine hS.hd0 2 rfl rfl ?_) | (refine hS.hd 2 rfl rfl ?_) | (refine hS.hd0 3 rfl rfl ?_) | (refine hS.hd 3 rfl rfl ?_) | (refine hS.hd0 4 rfl rfl ?_) | (refine hS.hd 4 rfl rfl ?_) | (refine hS.hd0 5 rfl rfl ?_) | (refine hS.hd 5 rfl rfl ?_) | (refine hS.hdd 0 rfl rfl ?_) | (refine hS.hdd 1 rfl rfl ?_) | (refine hS.hdd 2 rfl rfl ?_) | (refine hS.hdd 3 rfl rfl ?_) | (refine hS.hdd 4 rfl rfl ?_) | (refine hS.hdd 5 rfl rfl ?_) | (refine hS.st0 0 rfl rfl rfl ?_; clear hS; intro _ hS) | (refine hS.st 0 rfl rfl rfl ?_; clear hS; intro _ hS) | (refine hS.st0 1 rfl rfl rfl ?_; clear hS; intro _ hS) | (refine hS.st 1 rfl rfl rfl ?_; clear hS; intro _ hS) | (refine hS.st0 2 rfl rfl rfl ?_; clear hS; intro _ hS) | (refine hS.st 2 rfl rfl rfl ?_; clear hS; intro _ hS) | (refine hS.st0 3 rfl rfl rfl ?_; clear hS; intro _ hS) | (refine hS.st 3 rfl rfl rfl ?_; clear hS; intro _ hS) | (refine hS.st0 4 rfl rfl rfl ?_; clear hS; intro _ hS) | (refine hS.st 4 rfl rfl rfl ?_; clear hS; intro _ hS) | (refine hS.st0 5 rfl rfl rfl ?_; clear hS; intro _ hS) | (refine hS.st 5 rfl rfl rfl ?_; clear hS; intro _ hS) | (refine hS.std 0 rfl rfl rfl ?_; clear hS; intro _ hS) | (refine hS.std 1 rfl rfl rfl ?_; clear hS; intro _ hS) | (refine hS.std 2 rfl rfl rfl ?_; clear hS; intro _ hS) | (refine hS.std 3 rfl rfl rfl ?_; clear hS; intro _ hS) | (refine hS.std 4 rfl rfl rfl ?_; clear hS; intro _ hS) | (refine hS.std 5 rfl rfl rfl ?_; clear hS; intro _ hS) | (refine bnd_mk (by decide) (by decide) ?_) | (refine so_i rfl ?_))
  refine jn_of (fun t w' => t = [.bool (!e.boxOk)] ∧ St w w' [(r1, e.cells, 59)]) ?_ ?_
  · clear hS
    rintro _ w2 ⟨rfl, hS⟩
    refine asB_i rfl (cond_split (fun h => lv_i ?_) (fun h => ?_))
    · have hb : ¬ e.boxOk = true := by simpa using h
      have := hK w2 hS.ext
      unfold Ent.rightE at this
      rw [if_neg hb] at this
      exact this
    have hb : e.boxOk = true := by simpa using h
    repeat (first | (refine dr_i ?_) | (refine asI_i rfl ?_) | (refine asB_i rfl ?_) | (refine asN_i rfl ?_) | (refine asP_i rfl ?_) | (refine asS_i rfl ?_) | (refine asY_i rfl ?_) | (refine asM_i rfl ?_) | (refine asA_i rfl rfl ?_) | (refine asT_i rfl rfl ?_) | (refine lv_i ?_) | (refine hS.nw ?_; clear hS; intro _ _ hS) | (refine hS.dw ?_; clear hS; intro _ hS _) | (refine hS.ld0 0 rfl rfl ?_) | (refine hS.ld 0 rfl rfl ?_) | (refine hS.ld0 1 rfl rfl ?_) | (refine hS.ld 1 rfl rfl ?_) | (refine hS.ld0 2 rfl rfl ?_) | (refine hS.ld 2 rfl rfl ?_) | (refine hS.ld0 3 rfl rfl ?_) | (refine hS.ld 3 rfl rfl ?_) | (refine hS.ld0 4 rfl rfl ?_) | (refine hS.ld 4 rfl rfl ?_) | (refine hS.ld0 5 rfl rfl ?_) | (refine hS.ld 5 rfl rfl ?_) | (refine hS.ldd 0 rfl rfl ?_) | (refine hS.ldd 1 rfl rfl ?_) | (refine hS.ldd 2 rfl rfl ?_) | (refine hS.ldd 3 rfl rfl ?_) | (refine hS.ldd 4 rfl rfl ?_) | (refine hS.ldd 5 rfl rfl ?_) | (refine hS.hd0 0 rfl rfl ?_) | (refine hS.hd 0 rfl rfl ?_) | (refine hS.hd0 1 rfl rfl ?_) | (refine hS.hd 1 rfl rfl ?_) | (refine hS.hd0 2 rfl rfl ?_) | (refine hS.hd 2 rfl rfl ?_) | (refine hS.hd0 3 rfl rfl ?_) | (refine hS.hd 3 rfl rfl ?_) | (refine hS.hd0 4 rfl rfl ?_) | (refine hS.hd 4 rfl rfl ?_) | (refine hS.hd0 5 rfl rfl ?_) | (refine hS.hd 5 rfl rfl ?_) | (refine hS.hdd 0 rfl rfl ?_) | (refine hS.hdd 1 rfl rfl ?_) | (refine hS.hdd 2 rfl rfl ?_) | (refine hS.hdd 3 rfl rfl ?_) | (refine hS.hdd 4 rfl rfl ?_) | (refine hS.hdd 5 rfl rfl ?_) | (refine hS.st0 0 rfl rfl rfl ?_; clear hS; intro _ hS) | (refine hS.st 0 rfl rfl rfl ?_; clear hS; intro _ hS) | (refine hS.st0 1 rfl rfl rfl ?_; clear hS; intro _ hS) | (refine hS.st 1 rfl rfl rfl ?_; clear hS; intro _ hS) | (refine hS.st0 2 rfl rfl rfl ?_; clear hS; intro _ hS) | (refine hS.st 2 rfl rfl rfl ?_; clear hS; intro _ hS) | (refine hS.st0 3 rfl rfl rfl ?_; clear hS; intro _ hS) | (refine hS.st 3 rfl rfl rfl ?_; clear hS; intro _ hS) | (refine hS.st0 4 rfl rfl rfl ?_; clear hS; intro _ hS) | (refine hS.st 4 rfl rfl rfl ?_; clear hS; intro _ hS) | (refine hS.st0 5 rfl rfl rfl ?_; clear hS; intro _ hS) | (refine hS.st 5 rfl rfl rfl ?_; clear hS; intro _ hS) | (refine hS.std 0 rfl rfl rfl ?_; clear hS; intro _ hS) | (refine hS.std 1 rfl rfl rfl ?_; clear hS; intro _ hS) | (refine hS.std 2 rfl rfl rfl ?_; clear hS; intro _ hS) | (refine hS.std 3 rfl rfl rfl ?_; clear hS; intro _ hS) | (refine hS.std 4 rfl rfl rfl ?_; clear hS; intro _ hS) | (refine hS.std 5 rfl rfl rfl ?_; clear hS; intro _ hS) | (refine bnd_mk (by decide) (by decide) ?_) | (refine so_i rfl ?_))
    refine rwithin19_k (by decide) ?_
    repeat (first | (refine dr_i ?_) | (refine asI_i rfl ?_) | (refine asB_i rfl ?_) | (refine asN_i rfl ?_) | (refine asP_i rfl ?_) | (refine asS_i rfl ?_) | (refine asY_i rfl ?_) | (refine asM_i rfl ?_) | (refine asA_i rfl rfl ?_) | (refine asT_i rfl rfl ?_) | (refine lv_i ?_) | (refine hS.nw ?_; clear hS; intro _ _ hS) | (refine hS.dw ?_; clear hS; intro _ hS _) | (refine hS.ld0 0 rfl rfl ?_) | (refine hS.ld 0 rfl rfl ?_) | (refine hS.ld0 1 rfl rfl ?_) | (refine hS.ld 1 rfl rfl ?_) | (refine hS.ld0 2 rfl rfl ?_) | (refine hS.ld 2 rfl rfl ?_) | (refine hS.ld0 3 rfl rfl ?_) | (refine hS.ld 3 rfl rfl ?_) | (refine hS.ld0 4 rfl rfl ?_) | (refine hS.ld 4 rfl rfl ?_) | (refine hS.ld0 5 rfl rfl ?_) | (refine hS.ld 5 rfl rfl ?_) | (refine hS.ldd 0 rfl rfl ?_) | (refine hS.ldd 1 rfl rfl ?_) | (refine hS.ldd 2 rfl rfl ?_) | (refine hS.ldd 3 rfl rfl ?_) | (refine hS.ldd 4 rfl rfl ?_) | (refine hS.ldd 5 rfl rfl ?_) | (refine hS.hd0 0 rfl rfl ?_) | (refine hS.hd 0 rfl rfl ?_) | (refine hS.hd0 1 rfl rfl ?_) | (refine hS.hd 1 rfl rfl ?_) | (refine hS.hd0 2 rfl rfl ?_) | (refine hS.hd 2 rfl rfl ?_) | (refine hS.hd0 3 rfl rfl ?_) | (refine hS.hd 3 rfl rfl ?_) | (refine hS.hd0 4 rfl rfl ?_) | (refine hS.hd 4 rfl rfl ?_) | (refine hS.hd0 5 rfl rfl ?_) | (refine hS.hd 5 rfl rfl ?_) | (refine hS.hdd 0 rfl rfl ?_) | (refine hS.hdd 1 rfl rfl ?_) | (refine hS.hdd 2 rfl rfl ?_) | (refine hS.hdd 3 rfl rfl ?_) | (refine hS.hdd 4 rfl rfl ?_) | (refine hS.hdd 5 rfl rfl ?_) | (refine hS.st0 0 rfl rfl rfl ?_; clear hS; intro _ hS) | (refine hS.st 0 rfl rfl rfl ?_; clear hS; intro _ hS) | (refine hS.st0 1 rfl rfl rfl ?_; clear hS; intro _ hS) | (refine hS.st 1 rfl rfl rfl ?_; clear hS; intro _ hS) | (refine hS.st0 2 rfl rfl rfl ?_; clear hS; intro _ hS) | (refine hS.st 2 rfl rfl rfl ?_; clear hS; intro _ hS) | (refine hS.st0 3 rfl rfl rfl ?_; clear hS; intro _ hS) | (refine hS.st 3 rfl rfl rfl ?_; clear hS; intro _ hS) | (refine hS.st0 4 rfl rfl rfl ?_; clear hS; intro _ hS) | (refine hS.st 4 rfl rfl rfl ?_; clear hS; intro _ hS) | (refine hS.st0 5 rfl rfl rfl ?_; clear hS; intro _ hS) | (refine hS.st 5 rfl rfl rfl ?_; clear hS; intro _ hS) | (refine hS.std 0 rfl rfl rfl ?_; clear hS; intro _ hS) | (refine hS.std 1 rfl rfl rfl ?_; clear hS; intro _ hS) | (refine hS.std 2 rfl rfl rfl ?_; clear hS; intro _ hS) | (refine hS.std 3 rfl rfl rfl ?_; clear hS; intro _ hS) | (refine hS.std 4 rfl rfl rfl ?_; clear hS; intro _ hS) | (refine hS.std 5 rfl rfl rfl ?_; clear hS; intro _ hS) | (refine bnd_mk (by decide) (by decide) ?_) | (refine so_i rfl ?_))
    refine rwithin19_k (by decide) ?_
    repeat (first | (refine dr_i ?_) | (refine asI_i rfl ?_) | (refine asB_i rfl ?_) | (refine asN_i rfl ?_) | (refine asP_i rfl ?_) | (refine asS_i rfl ?_) | (refine asY_i rfl ?_) | (refine asM_i rfl ?_) | (refine asA_i rfl rfl ?_) | (refine asT_i rfl rfl ?_) | (refine lv_i ?_) | (refine hS.nw ?_; clear hS; intro _ _ hS) | (refine hS.dw ?_; clear hS; intro _ hS _) | (refine hS.ld0 0 rfl rfl ?_) | (refine hS.ld 0 rfl rfl ?_) | (refine hS.ld0 1 rfl rfl ?_) | (refine hS.ld 1 rfl rfl ?_) | (refine hS.ld0 2 rfl rfl ?_) | (refine hS.ld 2 rfl rfl ?_) | (refine hS.ld0 3 rfl rfl ?_) | (refine hS.ld 3 rfl rfl ?_) | (refine hS.ld0 4 rfl rfl ?_) | (refine hS.ld 4 rfl rfl ?_) | (refine hS.ld0 5 rfl rfl ?_) | (refine hS.ld 5 rfl rfl ?_) | (refine hS.ldd 0 rfl rfl ?_) | (refine hS.ldd 1 rfl rfl ?_) | (refine hS.ldd 2 rfl rfl ?_) | (refine hS.ldd 3 rfl rfl ?_) | (refine hS.ldd 4 rfl rfl ?_) | (refine hS.ldd 5 rfl rfl ?_) | (refine hS.hd0 0 rfl rfl ?_) | (refine hS.hd 0 rfl rfl ?_) | (refine hS.hd0 1 rfl rfl ?_) | (refine hS.hd 1 rfl rfl ?_) | (refine hS.hd0 2 rfl rfl ?_) | (refine hS.hd 2 rfl rfl ?_) | (refine hS.hd0 3 rfl rfl ?_) | (refine hS.hd 3 rfl rfl ?_) | (refine hS.hd0 4 rfl rfl ?_) | (refine hS.hd 4 rfl rfl ?_) | (refine hS.hd0 5 rfl rfl ?_) | (refine hS.hd 5 rfl rfl ?_) | (refine hS.hdd 0 rfl rfl ?_) | (refine hS.hdd 1 rfl rfl ?_) | (refine hS.hdd 2 rfl rfl ?_) | (refine hS.hdd 3 rfl rfl ?_) | (refine hS.hdd 4 rfl rfl ?_) | (refine hS.hdd 5 rfl rfl ?_) | (refine hS.st0 0 rfl rfl rfl ?_; clear hS; intro _ hS) | (refine hS.st 0 rfl rfl rfl ?_; clear hS; intro _ hS) | (refine hS.st0 1 rfl rfl rfl ?_; clear hS; intro _ hS) | (refine hS.st 1 rfl rfl rfl ?_; clear hS; intro _ hS) | (refine hS.st0 2 rfl rfl rfl ?_; clear hS; intro _ hS) | (refine hS.st 2 rfl rfl rfl ?_; clear hS; intro _ hS) | (refine hS.st0 3 rfl rfl rfl ?_; clear hS; intro _ hS) | (refine hS.st 3 rfl rfl rfl ?_; clear hS; intro _ hS) | (refine hS.st0 4 rfl rfl rfl ?_; clear hS; intro _ hS) | (refine hS.st 4 rfl rfl rfl ?_; clear hS; intro _ hS) | (refine hS.st0 5 rfl rfl rfl ?_; clear hS; intro _ hS) | (refine hS.st 5 rfl rfl rfl ?_; clear hS; intro _ hS) | (refine hS.std 0 rfl rfl rfl ?_; clear hS; intro _ hS) | (refine hS.std 1 rfl rfl rfl ?_; clear hS; intro _ hS) | (refine hS.std 2 rfl rfl rfl ?_; clear hS; intro _ hS) | (refine hS.std 3 rfl rfl rfl ?_; clear hS; intro _ hS) | (refine hS.std 4 rfl rfl rfl ?_; clear hS; intro _ hS) | (refine hS.std 5 rfl rfl rfl ?_; clear hS; intro _ hS) | (refine bnd_mk (by decide) (by decide) ?_) | (refine so_i rfl ?_))
    refine jn_of (fun t w' => t = [.bool (!e.argOk)] ∧ St w w' [(r1, e.cells, 59)]) ?_ ?_
    · clear hS
      rintro _ w3 ⟨rfl, hS⟩
      have := hK w3 hS.ext
      unfold Ent.rightE at this
      rw [if_pos hb] at this
      refine asB_i rfl (cond_split (fun h => lv_i ?_) (fun h => lv_i ?_))
      · rw [if_neg (by simpa using h)] at this
        exact this
      · rw [if_pos (by simpa using h)] at this
        exact this
    · intro J hJ
      refine cond_split (fun h => hJ _ _ ⟨?_, hS⟩) (fun h1 => cond_split (fun h => hJ _ _ ⟨?_, hS⟩) (fun h2 => ?_))
      · have : inn e.vx 17179869184 = false := by simpa using h
        unfold Ent.argOk; rw [this]; rfl
      · have : inn e.vy 17179869184 = false := by simpa using h
        have h1' : inn e.vx 17179869184 = true := by simpa using h1
        unfold Ent.argOk; rw [this, h1']; rfl
      have h1' : inn e.vx 17179869184 = true := by simpa using h1
      have h2' : inn e.vy 17179869184 = true := by simpa using h2
      repeat (first | (refine dr_i ?_) | (refine asI_i rfl ?_) | (refine asB_i rfl ?_) | (refine asN_i rfl ?_) | (refine asP_i rfl ?_) | (refine asS_i rfl ?_) | (refine asY_i rfl ?_) | (refine asM_i rfl ?_) | (refine asA_i rfl rfl ?_) | (refine asT_i rfl rfl ?_) | (refine lv_i ?_) | (refine hS.nw ?_; clear hS; intro _ _ hS) | (refine hS.dw ?_; clear hS; intro _ hS _) | (refine hS.ld0 0 rfl rfl ?_) | (refine hS.ld 0 rfl rfl ?_) | (refine hS.ld0 1 rfl rfl ?_) | (refine hS.ld 1 rfl rfl ?_) | (refine hS.ld0 2 rfl rfl ?_) | (refine hS.ld 2 rfl rfl ?_) | (refine hS.ld0 3 rfl rfl ?_) | (refine hS.ld 3 rfl rfl ?_) | (refine hS.ld0 4 rfl rfl ?_) | (refine hS.ld 4 rfl rfl ?_) | (refine hS.ld0 5 rfl rfl ?_) | (refine hS.ld 5 rfl rfl ?_) | (refine hS.ldd 0 rfl rfl ?_) | (refine hS.ldd 1 rfl rfl ?_) | (refine hS.ldd 2 rfl rfl ?_) | (refine hS.ldd 3 rfl rfl ?_) | (refine hS.ldd 4 rfl rfl ?_) | (refine hS.ldd 5 rfl rfl ?_) | (refine hS.hd0 0 rfl rfl ?_) | (refine hS.hd 0 rfl rfl ?_) | (refine hS.hd0 1 rfl rfl ?_) | (refine hS.hd 1 rfl rfl ?_) | (refine hS.hd0 2 rfl rfl ?_) | (refine hS.hd 2 rfl rfl ?_) | (refine hS.hd0 3 rfl rfl ?_) | (refine hS.hd 3 rfl rfl ?_) | (refine hS.hd0 4 rfl rfl ?_) | (refine hS.hd 4 rfl rfl ?_) | (refine hS.hd0 5 rfl rfl ?_) | (refine hS.hd 5 rfl rfl ?_) | (refine hS.hdd 0 rfl rfl ?_) | (refine hS.hdd 1 rfl rfl ?_) | (refine hS.hdd 2 rfl rfl ?_) | (refine hS.hdd 3 rfl rfl ?_) | (refine hS.hdd 4 rfl rfl ?_) | (refine hS.hdd 5 rfl rfl ?_) | (refine hS.st0 0 rfl rfl rfl ?_; clear hS; intro _ hS) | (refine hS.st 0 rfl rfl rfl ?_; clear hS; intro _ hS) | (refine hS.st0 1 rfl rfl rfl ?_; clear hS; intro _ hS) | (refine hS.st 1 rfl rfl rfl ?_; clear hS; intro _ hS) | (refine hS.st0 2 rfl rfl rfl ?_; clear hS; intro _ hS) | (refine hS.st 2 rfl rfl rfl ?_; clear hS; intro _ hS) | (refine hS.st0 3 rfl rfl rfl ?_; clear hS; intro _ hS) | (refine hS.st 3 rfl rfl rfl ?_; clear hS; intro _ hS) | (refine hS.st0 4 rfl rfl rfl ?_; clear hS; intro _ hS) | (refine hS.st 4 rfl rfl rfl ?_; clear hS; intro _ hS) | (refine hS.st0 5 rfl rfl rfl ?_; clear hS; intro _ hS) | (refine hS.st 5 rfl rfl rfl ?_; clear hS; intro _ hS) | (refine hS.std 0 rfl rfl rfl ?_; clear hS; intro _ hS) | (refine hS.std 1 rfl rfl rfl ?_; clear hS; intro _ hS) | (refine hS.std 2 rfl rfl rfl ?_; clear hS; intro _ hS) | (refine hS.std 3 rfl rfl rfl ?_; clear hS; intro _ hS) | (refine hS.std 4 rfl rfl rfl ?_; clear hS; intro _ hS) | (refine hS.std 5 rfl rfl rfl ?_; clear hS; intro _ hS) | (refine bnd_mk (by decide) (by decide) ?_) | (refine so_i rfl ?_))
      refine cond_split (fun h => hJ _ _ ⟨?_, hS⟩) (fun h => ?_)
      · have h' : ¬ 0 ≤ e.o := by have := of_decide_eq_true h; omega
        unfold Ent.argOk; rw [h1', h2', decide_eq_false h']; rfl
      repeat (first | (refine dr_i ?_) | (refine asI_i rfl ?_) | (refine asB_i rfl ?_) | (refine asN_i rfl ?_) | (refine asP_i rfl ?_) | (refine asS_i rfl ?_) | (refine asY_i rfl ?_) | (refine asM_i rfl ?_) | (refine asA_i rfl rfl ?_) | (refine asT_i rfl rfl ?_) | (refine lv_i ?_) | (refine hS.nw ?_; clear hS; intro _ _ hS) | (refine hS.dw ?_; clear hS; intro _ hS _) | (refine hS.ld0 0 rfl rfl ?_) | (refine hS.ld 0 rfl rfl ?_) | (refine hS.ld0 1 rfl rfl ?_) | (refine hS.ld 1 rfl rfl ?_) | (refine hS.ld0 2 rfl rfl ?_) | (refine hS.ld 2 rfl rfl ?_) | (refine hS.ld0 3 rfl rfl ?_) | (refine hS.ld 3 rfl rfl ?_) | (refine hS.ld0 4 rfl rfl ?_) | (refine hS.ld 4 rfl rfl ?_) | (refine hS.ld0 5 rfl rfl ?_) | (refine hS.ld 5 rfl rfl ?_) | (refine hS.ldd 0 rfl rfl ?_) | (refine hS.ldd 1 rfl rfl ?_) | (refine hS.ldd 2 rfl rfl ?_) | (refine hS.ldd 3 rfl rfl ?_) | (refine hS.ldd 4 rfl rfl ?_) | (refine hS.ldd 5 rfl rfl ?_) | (refine hS.hd0 0 rfl rfl ?_) | (refine hS.hd 0 rfl rfl ?_) | (refine hS.hd0 1 rfl rfl ?_) | (refine hS.hd 1 rfl rfl ?_) | (refine hS.hd0 2 rfl rfl ?_) | (refine hS.hd 2 rfl rfl ?_) | (refine hS.hd0 3 rfl rfl ?_) | (refine hS.hd 3 rfl rfl ?_) | (refine hS.hd0 4 rfl rfl ?_) | (refine hS.hd 4 rfl rfl ?_) | (refine hS.hd0 5 rfl rfl ?_) | (refine hS.hd 5 rfl rfl ?_) | (refine hS.hdd 0 rfl rfl ?_) | (refine hS.hdd 1 rfl rfl ?_) | (refine hS.hdd 2 rfl rfl ?_) | (refine hS.hdd 3 rfl rfl ?_) | (refine hS.hdd 4 rfl rfl ?_) | (refine hS.hdd 5 rfl rfl ?_) | (refine hS.st0 0 rfl rfl rfl ?_; clear hS; intro _ hS) | (refine hS.st 0 rfl rfl rfl ?_; clear hS; intro _ hS) | (refine hS.st0 1 rfl rfl rfl ?_; clear hS; intro _ hS) | (refine hS.st 1 rfl rfl rfl ?_; clear hS; intro _ hS) | (refine hS.st0 2 rfl rfl rfl ?_; clear hS; intro _ hS) | (refine hS.st 2 rfl rfl rfl ?_; clear hS; intro _ hS) | (refine hS.st0 3 rfl rfl rfl ?_; clear hS; intro _ hS) | (refine hS.st 3 rfl rfl rfl ?_; clear hS; intro _ hS) | (refine hS.st0 4 rfl rfl rfl ?_; clear hS; intro _ hS) | (refine hS.st 4 rfl rfl rfl ?_; clear hS; intro _ hS) | (refine hS.st0 5 rfl rfl rfl ?_; clear hS; intro _ hS) | (refine hS.st 5 rfl rfl rfl ?_; clear hS; intro _ hS) | (refine hS.std 0 rfl rfl rfl ?_; clear hS; intro _ hS) | (refine hS.std 1 rfl rfl rfl ?_; clear hS; intro _ hS) | (refine hS.std 2 rfl rfl rfl ?_; clear hS; intro _ hS) | (refine hS.std 3 rfl rfl rfl ?_; clear hS; intro _ hS) | (refine hS.std 4 rfl rfl rfl ?_; clear hS; intro _ hS) | (refine hS.std 5 rfl rfl rfl ?_; clear hS; intro _ hS) | (refine bnd_mk (by decide) (by decide) ?_) | (refine so_i rfl ?_))
      refine hJ _ _ ⟨?_, hS⟩
      have h' : 0 ≤ e.o := by have := of_decide_eq_false h; omega
      unfold Ent.argOk
      rw [h1', h2', decide_eq_true h']
      by_cases h8 : e.o ≤ 8
      · rw [decide_eq_true h8, decide_eq_false (by omega)]; rfl
      · rw [decide_eq_false h8, decide_eq_true (by omega)]; rfl
  · intro J hJ
    refine cond_split (fun h => hJ _ _ ⟨?_, hS⟩) (fun h1 => cond_split (fun h => hJ _ _ ⟨?_, hS⟩) (fun h2 => ?_))
    · have : inn e.x 4398046511104 = false := by simpa using h
      unfold Ent.boxOk; rw [this]; rfl
    · have : inn e.y 4398046511104 = false := by simpa using h
      have h1' : inn e.x 4398046511104 = true := by simpa using h1
      unfold Ent.boxOk; rw [this, h1']; rfl
    have h1' : inn e.x 4398046511104 = true := by simpa using h1
    have h2' : inn e.y 4398046511104 = true := by simpa using h2
    repeat (first | (refine dr_i ?_) | (refine asI_i rfl ?_) | (refine asB_i rfl ?_) | (refine asN_i rfl ?_) | (refine asP_i rfl ?_) | (refine asS_i rfl ?_) | (refine asY_i rfl ?_) | (refine asM_i rfl ?_) | (refine asA_i rfl rfl ?_) | (refine asT_i rfl rfl ?_) | (refine lv_i ?_) | (refine hS.nw ?_; clear hS; intro _ _ hS) | (refine hS.dw ?_; clear hS; intro _ hS _) | (refine hS.ld0 0 rfl rfl ?_) | (refine hS.ld 0 rfl rfl ?_) | (refine hS.ld0 1 rfl rfl ?_) | (refine hS.ld 1 rfl rfl ?_) | (refine hS.ld0 2 rfl rfl ?_) | (refine hS.ld 2 rfl rfl ?_) | (refine hS.ld0 3 rfl rfl ?_) | (refine hS.ld 3 rfl rfl ?_) | (refine hS.ld0 4 rfl rfl ?_) | (refine hS.ld 4 rfl rfl ?_) | (refine hS.ld0 5 rfl rfl ?_) | (refine hS.ld 5 rfl rfl ?_) | (refine hS.ldd 0 rfl rfl ?_) | (refine hS.ldd 1 rfl rfl ?_) | (refine hS.ldd 2 rfl rfl ?_) | (refine hS.ldd 3 rfl rfl ?_) | (refine hS.ldd 4 rfl rfl ?_) | (refine hS.ldd 5 rfl rfl ?_) | (refine hS.hd0 0 rfl rfl ?_) | (refine hS.hd 0 rfl rfl ?_) | (refine hS.hd0 1 rfl rfl ?_) | (refine hS.hd 1 rfl rfl ?_) | (refine hS.hd0 2 rfl rfl ?_) | (refine hS.hd 2 rfl rfl ?_) | (refine hS.hd0 3 rfl rfl ?_) | (refine hS.hd 3 rfl rfl ?_) | (refine hS.hd0 4 rfl rfl ?_) | (refine hS.hd 4 rfl rfl ?_) | (refine hS.hd0 5 rfl rfl ?_) | (refine hS.hd 5 rfl rfl ?_) | (refine hS.hdd 0 rfl rfl ?_) | (refine hS.hdd 1 rfl rfl ?_) | (refine hS.hdd 2 rfl rfl ?_) | (refine hS.hdd 3 rfl rfl ?_) | (refine hS.hdd 4 rfl rfl ?_) | (refine hS.hdd 5 rfl rfl ?_) | (refine hS.st0 0 rfl rfl rfl ?_; clear hS; intro _ hS) | (refine hS.st 0 rfl rfl rfl ?_; clear hS; intro _ hS) | (refine hS.st0 1 rfl rfl rfl ?_; clear hS; intro _ hS) | (refine hS.st 1 rfl rfl rfl ?_; clear hS; intro _ hS) | (refine hS.st0 2 rfl rfl rfl ?_; clear hS; intro _ hS) | (refine hS.st 2 rfl rfl rfl ?_; clear hS; intro _ hS) | (refine hS.st0 3 rfl rfl rfl ?_; clear hS; intro _ hS) | (refine hS.st 3 rfl rfl rfl ?_; clear hS; intro _ hS) | (refine hS.st0 4 rfl rfl rfl ?_; clear hS; intro _ hS) | (refine hS.st 4 rfl rfl rfl ?_; clear hS; intro _ hS) | (refine hS.st0 5 rfl rfl rfl ?_; clear hS; intro _ hS) | (refine hS.st 5 rfl rfl rfl ?_; clear hS; intro _ hS) | (refine hS.std 0 rfl rfl rfl ?_; clear hS; intro _ hS) | (refine hS.std 1 rfl rfl rfl ?_; clear hS; intro _ hS) | (refine hS.std 2 rfl rfl rfl ?_; clear hS; intro _ hS) | (refine hS.std 3 rfl rfl rfl ?_; clear hS; intro _ hS) | (refine hS.std 4 rfl rfl rfl ?_; clear hS; intro _ hS) | (refine hS.std 5 rfl rfl rfl ?_; clear hS; intro _ hS) | (refine bnd_mk (by decide) (by decide) ?_) | (refine so_i rfl ?_))
    refine cond_split (fun h => hJ _ _ ⟨?_, hS⟩) (fun h => ?_)
    · have h' : ¬ 1 ≤ e.r := by have := of_decide_eq_true h; omega
      unfold Ent.boxOk; rw [h1', h2', decide_eq_false h']; rfl
    repeat (first | (refine dr_i ?_) | (refine asI_i rfl ?_) | (refine asB_i rfl ?_) | (refine asN_i rfl ?_) | (refine asP_i rfl ?_) | (refine asS_i rfl ?_) | (refine asY_i rfl ?_) | (refine asM_i rfl ?_) | (refine asA_i rfl rfl ?_) | (refine asT_i rfl rfl ?_) | (refine lv_i ?_) | (refine hS.nw ?_; clear hS; intro _ _ hS) | (refine hS.dw ?_; clear hS; intro _ hS _) | (refine hS.ld0 0 rfl rfl ?_) | (refine hS.ld 0 rfl rfl ?_) | (refine hS.ld0 1 rfl rfl ?_) | (refine hS.ld 1 rfl rfl ?_) | (refine hS.ld0 2 rfl rfl ?_) | (refine hS.ld 2 rfl rfl ?_) | (refine hS.ld0 3 rfl rfl ?_) | (refine hS.ld 3 rfl rfl ?_) | (refine hS.ld0 4 rfl rfl ?_) | (refine hS.ld 4 rfl rfl ?_) | (refine hS.ld0 5 rfl rfl ?_) | (refine hS.ld 5 rfl rfl ?_) | (refine hS.ldd 0 rfl rfl ?_) | (refine hS.ldd 1 rfl rfl ?_) | (refine hS.ldd 2 rfl rfl ?_) | (refine hS.ldd 3 rfl rfl ?_) | (refine hS.ldd 4 rfl rfl ?_) | (refine hS.ldd 5 rfl rfl ?_) | (refine hS.hd0 0 rfl rfl ?_) | (refine hS.hd 0 rfl rfl ?_) | (refine hS.hd0 1 rfl rfl ?_) | (refine hS.hd 1 rfl rfl ?_) | (refine hS.hd0 2 rfl rfl ?_) | (refine hS.hd 2 rfl rfl ?_) | (refine hS.hd0 3 rfl rfl ?_) | (refine hS.hd 3 rfl rfl ?_) | (refine hS.hd0 4 rfl rfl ?_) | (refine hS.hd 4 rfl rfl ?_) | (refine hS.hd0 5 rfl rfl ?_) | (refine hS.hd 5 rfl rfl ?_) | (refine hS.hdd 0 rfl rfl ?_) | (refine hS.hdd 1 rfl rfl ?_) | (refine hS.hdd 2 rfl rfl ?_) | (refine hS.hdd 3 rfl rfl ?_) | (refine hS.hdd 4 rfl rfl ?_) | (refine hS.hdd 5 rfl rfl ?_) | (refine hS.st0 0 rfl rfl rfl ?_; clear hS; intro _ hS) | (refine hS.st 0 rfl rfl rfl ?_; clear hS; intro _ hS) | (refine hS.st0 1 rfl rfl rfl ?_; clear hS; intro _ hS) | (refine hS.st 1 rfl rfl rfl ?_; clear hS; intro _ hS) | (refine hS.st0 2 rfl rfl rfl ?_; clear hS; intro _ hS) | (refine hS.st 2 rfl rfl rfl ?_; clear hS; intro _ hS) | (refine hS.st0 3 rfl rfl rfl ?_; clear hS; intro _ hS) | (refine hS.st 3 rfl rfl rfl ?_; clear hS; intro _ hS) | (refine hS.st0 4 rfl rfl rfl ?_; clear hS; intro _ hS) | (refine hS.st 4 rfl rfl rfl ?_; clear hS; intro _ hS) | (refine hS.st0 5 rfl rfl rfl ?_; clear hS; intro _ hS) | (refine hS.st 5 rfl rfl rfl ?_; clear hS; intro _ hS) | (refine hS.std 0 rfl rfl rfl ?_; clear hS; intro _ hS) | (refine hS.std 1 rfl rfl rfl ?_; clear hS; intro _ hS) | (refine hS.std 2 rfl rfl rfl ?_; clear hS; intro _ hS) | (refine hS.std 3 rfl rfl rfl ?_; clear hS; intro _ hS) | (refine hS.std 4 rfl rfl rfl ?_; clear hS; intro _ hS) | (refine hS.std 5 rfl rfl rfl ?_; clear hS; intro _ hS) | (refine bnd_mk (by decide) (by decide) ?_) | (refine so_i rfl ?_))
    refine hJ _ _ ⟨?_, hS⟩
    have h' : 1 ≤ e.r := by have := of_decide_eq_false h; omega
    unfold Ent.boxOk
    rw [h1', h2', decide_eq_true h']
    by_cases h8 : e.r ≤ 17179869184
    · rw [decide_eq_true h8, decide_eq_false (by omega)]; rfl
    · rw [decide_eq_false h8, decide_eq_true (by omega)]; rfl


theorem span_k {x y : Int} (hx : I64 x) (hy : I64 y) {w : World} {K : Value → World → Prop} (hK : K (.int .u64 (adiff x y)) w) : cl Tryd.prog 46 #[.int .i64 x, .int .i64 y] w K := by
  apply F46_calls
  unfold F46
  refine lv_i (lv_i ?_)
  obtain ⟨x1, x2⟩ := hx
  obtain ⟨y1, y2⟩ := hy
  have e : IntKind.wrap .u64 ((IntKind.wrap .u64 (if y > x then y else x)) - (IntKind.wrap .u64 (if y < x then y else x))) = adiff x y := by
    unfold adiff
    simp only [wru64]
    split <;> split <;> split <;> omega
  rw [e]
  exact hK
theorem both_k {px py qx qy : Int} (h1 : I64 px) (h2 : I64 py) (h3 : I64 qx) (h4 : I64 qy) {w : World} {K : Value → World → Prop}
    (hK : ∀ w', Ext no w w' → K (.tuple #[.int .u64 (adiff px qx), .int .u64 (adiff py qy)]) w') : cl Tryd.prog 45 #[vv px py, vv qx qy, .func (.func 46) #[] #[]] w K := by
  apply F45_calls
  unfold F45
  have hS := St.start w
  repeat (first | (refine asI_i rfl ?_) | (refine asB_i rfl ?_) | (refine asN_i rfl ?_) | (refine asP_i rfl ?_) | (refine asS_i rfl ?_) | (refine asY_i rfl ?_) | (refine asM_i rfl ?_) | (refine asA_i rfl rfl ?_) | (refine asT_i rfl rfl ?_) | (refine lv_i ?_) | (refine hS.nw ?_; clear hS; intro _ _ hS) | (refine hS.dw ?_; clear hS; intro _ hS _) | (refine hS.ld0 0 rfl rfl ?_) | (refine hS.ld 0 rfl rfl ?_) | (refine hS.ld0 1 rfl rfl ?_) | (refine hS.ld 1 rfl rfl ?_) | (refine hS.ld0 2 rfl rfl ?_) | (refine hS.ld 2 rfl rfl ?_) | (refine hS.ld0 3 rfl rfl ?_) | (refine hS.ld 3 rfl rfl ?_) | (refine hS.ld0 4 rfl rfl ?_) | (refine hS.ld 4 rfl rfl ?_) | (refine hS.ld0 5 rfl rfl ?_) | (refine hS.ld 5 rfl rfl ?_) | (refine hS.ld0 6 rfl rfl ?_) | (refine hS.ld 6 rfl rfl ?_) | (refine hS.ld0 7 rfl rfl ?_) | (refine hS.ld 7 rfl rfl ?_) | (refine hS.hd0 0 rfl rfl ?_) | (refine hS.hd 0 rfl rfl ?_) | (refine hS.hd0 1 rfl rfl ?_) | (refine hS.hd 1 rfl rfl ?_) | (refine hS.hd0 2 rfl rfl ?_) | (refine hS.hd 2 rfl rfl ?_) | (refine hS.hd0 3 rfl rfl ?_) | (refine hS.hd 3 rfl rfl ?_) | (refine hS.hd0 4 rfl rfl ?_) | (refine hS.hd 4 rfl rfl ?_) | (refine hS.hd0 5 rfl rfl ?_) | (refine hS.hd 5 rfl rfl ?_) | (refine hS.hd0 6 rfl rfl ?_) | (refine hS.hd 6 rfl rfl ?_) | (refine hS.hd0 7 rfl rfl ?_) | (refine hS.hd 7 rfl rfl ?_) | (refine hS.st0 0 rfl rfl rfl ?_; clear hS; intro _ hS) | (refine hS.st 0 rfl rfl rfl ?_; clear hS; intro _ hS) | (refine hS.st0 1 rfl rfl rfl ?_; clear hS; intro _ hS) | (refine hS.st 1 rfl rfl rfl ?_; clear hS; intro _ hS) | (refine hS.st0 2 rfl rfl rfl ?_; clear hS; intro _ hS) | (refine hS.st 2 rfl rfl rfl ?_; clear hS; intro _ hS) | (refine hS.st0 3 rfl rfl rfl ?_; clear hS; intro _ hS) | (refine hS.st 3 rfl rfl rfl ?_; clear hS; intro _ hS) | (refine hS.st0 4 rfl rfl rfl ?_; clear hS; intro _ hS) | (refine hS.st 4 rfl rfl rfl ?_; clear hS; intro _ hS) | (refine hS.st0 5 rfl rfl rfl ?_; clear hS; intro _ hS) | (refine hS.st 5 rfl rfl rfl ?_; clear hS; intro _ hS) | (refine hS.st0 6 rfl rfl rfl ?_; clear hS; intro _ hS) | (refine hS.st 6 rfl rfl rfl ?_; clear hS; intro _ hS) | (refine hS.st0 7 rfl rfl rfl ?_; clear hS; intro _ hS) | (refine hS.st 7 rfl rfl rfl ?_; clear hS; intro _ hS) | (refine bnd_mk (by decide) (by decide) ?_) | (refine so_i rfl ?_))
  refine cond_t (by kernel_rfl) ?_
  refine span_k h1 h3 ?_
  repeat (first | (refine asI_i rfl ?_) | (refine asB_i rfl ?_) | (refine asN_i rfl ?_) | (refine asP_i rfl ?_) | (refine asS_i rfl ?_) | (refine asY_i rfl ?_) | (refine asM_i rfl ?_) | (refine asA_i rfl rfl ?_) | (refine asT_i rfl rfl ?_) | (refine lv_i ?_) | (refine hS.nw ?_; clear hS; intro _ _ hS) | (refine hS.dw ?_; clear hS; intro _ hS _) | (refine hS.ld0 0 rfl rfl ?_) | (refine hS.ld 0 rfl rfl ?_) | (refine hS.ld0 1 rfl rfl ?_) | (refine hS.ld 1 rfl rfl ?_) | (refine hS.ld0 2 rfl rfl ?_) | (refine hS.ld 2 rfl rfl ?_) | (refine hS.ld0 3 rfl rfl ?_) | (refine hS.ld 3 rfl rfl ?_) | (refine hS.ld0 4 rfl rfl ?_) | (refine hS.ld 4 rfl rfl ?_) | (refine hS.ld0 5 rfl rfl ?_) | (refine hS.ld 5 rfl rfl ?_) | (refine hS.ld0 6 rfl rfl ?_) | (refine hS.ld 6 rfl rfl ?_) | (refine hS.ld0 7 rfl rfl ?_) | (refine hS.ld 7 rfl rfl ?_) | (refine hS.hd0 0 rfl rfl ?_) | (refine hS.hd 0 rfl rfl ?_) | (refine hS.hd0 1 rfl rfl ?_) | (refine hS.hd 1 rfl rfl ?_) | (refine hS.hd0 2 rfl rfl ?_) | (refine hS.hd 2 rfl rfl ?_) | (refine hS.hd0 3 rfl rfl ?_) | (refine hS.hd 3 rfl rfl ?_) | (refine hS.hd0 4 rfl rfl ?_) | (refine hS.hd 4 rfl rfl ?_) | (refine hS.hd0 5 rfl rfl ?_) | (refine hS.hd 5 rfl rfl ?_) | (refine hS.hd0 6 rfl rfl ?_) | (refine hS.hd 6 rfl rfl ?_) | (refine hS.hd0 7 rfl rfl ?_) | (refine hS.hd 7 rfl rfl ?_) | (refine hS.st0 0 rfl rfl rfl ?_; clear hS; intro _ hS) | (refine hS.st 0 rfl rfl rfl ?_; clear hS; intro _ hS) | (refine hS.st0 1 rfl rfl rfl ?_; clear hS; intro _ hS) | (refine hS.st 1 rfl rfl rfl ?_; clear hS; intro _ hS) | (refine hS.st0 2 rfl rfl rfl ?_; clear hS; intro _ hS) | (refine hS.st 2 rfl rfl rfl ?_; clear hS; intro _ hS) | (refine hS.st0 3 rfl rfl rfl ?_; clear hS; intro _ hS) | (refine hS.st 3 rfl rfl rfl ?_; clear hS; intro _ hS) | (refine hS.st0 4 rfl rfl rfl ?_; clear hS; intro _ hS) | (refine hS.st 4 rfl rfl rfl ?_; clear hS; intro _ hS) | (refine hS.st0 5 rfl rfl rfl ?_; clear hS; intro _ hS) | (refine hS.st 5 rfl rfl rfl ?_; clear hS; intro _ hS) | (refine hS.st0 6 rfl rfl rfl ?_; clear hS; intro _ hS) | (refine hS.st 6 rfl rfl rfl ?_; clear hS; intro _ hS) | (refine hS.st0 7 rfl rfl rfl ?_; clear hS; intro _ hS) | (refine hS.st 7 rfl rfl rfl ?_; clear hS; intro _ hS) | (refine bnd_mk (by decide) (by decide) ?_) | (refine so_i rfl ?_))
  refine cond_t (by kernel_rfl) ?_
  refine span_k h2 h4 ?_
  repeat (first | (refine asI_i rfl ?_) | (refine asB_i rfl ?_) | (refine asN_i rfl ?_) | (refine asP_i rfl ?_) | (refine asS_i rfl ?_) | (refine asY_i rfl ?_) | (refine asM_i rfl ?_) | (refine asA_i rfl rfl ?_) | (refine asT_i rfl rfl ?_) | (refine lv_i ?_) | (refine hS.nw ?_; clear hS; intro _ _ hS) | (refine hS.dw ?_; clear hS; intro _ hS _) | (refine hS.ld0 0 rfl rfl ?_) | (refine hS.ld 0 rfl rfl ?_) | (refine hS.ld0 1 rfl rfl ?_) | (refine hS.ld 1 rfl rfl ?_) | (refine hS.ld0 2 rfl rfl ?_) | (refine hS.ld 2 rfl rfl ?_) | (refine hS.ld0 3 rfl rfl ?_) | (refine hS.ld 3 rfl rfl ?_) | (refine hS.ld0 4 rfl rfl ?_) | (refine hS.ld 4 rfl rfl ?_) | (refine hS.ld0 5 rfl rfl ?_) | (refine hS.ld 5 rfl rfl ?_) | (refine hS.ld0 6 rfl rfl ?_) | (refine hS.ld 6 rfl rfl ?_) | (refine hS.ld0 7 rfl rfl ?_) | (refine hS.ld 7 rfl rfl ?_) | (refine hS.hd0 0 rfl rfl ?_) | (refine hS.hd 0 rfl rfl ?_) | (refine hS.hd0 1 rfl rfl ?_) | (refine hS.hd 1 rfl rfl ?_) | (refine hS.hd0 2 rfl rfl ?_) | (refine hS.hd 2 rfl rfl ?_) | (refine hS.hd0 3 rfl rfl ?_) | (refine hS.hd 3 rfl rfl ?_) | (refine hS.hd0 4 rfl rfl ?_) | (refine hS.hd 4 rfl rfl ?_) | (refine hS.hd0 5 rfl rfl ?_) | (refine hS.hd 5 rfl rfl ?_) | (refine hS.hd0 6 rfl rfl ?_) | (refine hS.hd 6 rfl rfl ?_) | (refine hS.hd0 7 rfl rfl ?_) | (refine hS.hd 7 rfl rfl ?_) | (refine hS.st0 0 rfl rfl rfl ?_; clear hS; intro _ hS) | (refine hS.st 0 rfl rfl rfl ?_; clear hS; intro _ hS) | (refine hS.st0 1 rfl rfl rfl ?_; clear hS; intro _ hS) | (refine hS.st 1 rfl rfl rfl ?_; clear hS; intro _ hS) | (refine hS.st0 2 rfl rfl rfl ?_; clear hS; intro _ hS) | (refine hS.st 2 rfl rfl rfl ?_; clear hS; intro _ hS) | (refine hS.st0 3 rfl rfl rfl ?_; clear hS; intro _ hS) | (refine hS.st 3 rfl rfl rfl ?_; clear hS; intro _ hS) | (refine hS.st0 4 rfl rfl rfl ?_; clear hS; intro _ hS) | (refine hS.st 4 rfl rfl rfl ?_; clear hS; intro _ hS) | (refine hS.st0 5 rfl rfl rfl ?_; clear hS; intro _ hS) | (refine hS.st 5 rfl rfl rfl ?_; clear hS; intro _ hS) | (refine hS.st0 6 rfl rfl rfl ?_; clear hS; intro _ hS) | (refine hS.st 6 rfl rfl rfl ?_; clear hS; intro _ hS) | (refine hS.st0 7 rfl rfl rfl ?_; clear hS; intro _ hS) | (refine hS.st 7 rfl rfl rfl ?_; clear hS; intro _ hS) | (refine bnd_mk (by decide) (by decide) ?_) | (refine so_i rfl ?_))
  exact hK _ hS.ext
theorem near_k {px py qx qy r : Int} (h1 : I64 px) (h2 : I64 py) (h3 : I64 qx) (h4 : I64 qy) (hr : I64 r) {w : World} {K : Value → World → Prop}
    (hK : ∀ w', Ext no w w' → K (.bool (nearV px py qx qy r)) w') : cl Tryd.prog 24 #[vv px py, vv qx qy, .int .i64 r] w K := by
  apply F24_calls
  unfold F24
  have hS := St.start w
  repeat (first | (refine asI_i rfl ?_) | (refine asB_i rfl ?_) | (refine asN_i rfl ?_) | (refine asP_i rfl ?_) | (refine asS_i rfl ?_) | (refine asY_i rfl ?_) | (refine asM_i rfl ?_) | (refine asA_i rfl rfl ?_) | (refine asT_i rfl rfl ?_) | (refine lv_i ?_) | (refine hS.nw ?_; clear hS; intro _ _ hS) | (refine hS.dw ?_; clear hS; intro _ hS _) | (refine hS.ld0 0 rfl rfl ?_) | (refine hS.ld 0 rfl rfl ?_) | (refine hS.ld0 1 rfl rfl ?_) | (refine hS.ld 1 rfl rfl ?_) | (refine hS.ld0 2 rfl rfl ?_) | (refine hS.ld 2 rfl rfl ?_) | (refine hS.ld0 3 rfl rfl ?_) | (refine hS.ld 3 rfl rfl ?_) | (refine hS.ld0 4 rfl rfl ?_) | (refine hS.ld 4 rfl rfl ?_) | (refine hS.ld0 5 rfl rfl ?_) | (refine hS.ld 5 rfl rfl ?_) | (refine hS.ld0 6 rfl rfl ?_) | (refine hS.ld 6 rfl rfl ?_) | (refine hS.ld0 7 rfl rfl ?_) | (refine hS.ld 7 rfl rfl ?_) | (refine hS.hd0 0 rfl rfl ?_) | (refine hS.hd 0 rfl rfl ?_) | (refine hS.hd0 1 rfl rfl ?_) | (refine hS.hd 1 rfl rfl ?_) | (refine hS.hd0 2 rfl rfl ?_) | (refine hS.hd 2 rfl rfl ?_) | (refine hS.hd0 3 rfl rfl ?_) | (refine hS.hd 3 rfl rfl ?_) | (refine hS.hd0 4 rfl rfl ?_) | (refine hS.hd 4 rfl rfl ?_) | (refine hS.hd0 5 rfl rfl ?_) | (refine hS.hd 5 rfl rfl ?_) | (refine hS.hd0 6 rfl rfl ?_) | (refine hS.hd 6 rfl rfl ?_) | (refine hS.hd0 7 rfl rfl ?_) | (refine hS.hd 7 rfl rfl ?_) | (refine hS.st0 0 rfl rfl rfl ?_; clear hS; intro _ hS) | (refine hS.st 0 rfl rfl rfl ?_; clear hS; intro _ hS) | (refine hS.st0 1 rfl rfl rfl ?_; clear hS; intro _ hS) | (refine hS.st 1 rfl rfl rfl ?_; clear hS; intro _ hS) | (refine hS.st0 2 rfl rfl rfl ?_; clear hS; intro _ hS) | (refine hS.st 2 rfl rfl rfl ?_; clear hS; intro _ hS) | (refine hS.st0 3 rfl rfl rfl ?_; clear hS; intro _ hS) | (refine hS.st 3 rfl rfl rfl ?_; clear hS; intro _ hS) | (refine hS.st0 4 rfl rfl rfl ?_; clear hS; intro _ hS) | (refine hS.st 4 rfl rfl rfl ?_; clear hS; intro _ hS) | (refine hS.st0 5 rfl rfl rfl ?_; clear hS; intro _ hS) | (refine hS.st 5 rfl rfl rfl ?_; clear hS; intro _ hS) | (refine hS.st0 6 rfl rfl rfl ?_; clear hS; intro _ hS) | (refine hS.st 6 rfl rfl rfl ?_; clear hS; intro _ hS) | (refine hS.st0 7 rfl rfl rfl ?_; clear hS; intro _ hS) | (refine hS.st 7 rfl rfl rfl ?_; clear hS; intro _ hS) | (refine bnd_mk (by decide) (by decide) ?_) | (refine so_i rfl ?_))
  refine both_k h1 h2 h3 h4 ?_
  intro w' x
  replace hS := hS.to x
  repeat (first | (refine asI_i rfl ?_) | (refine asB_i rfl ?_) | (refine asN_i rfl ?_) | (refine asP_i rfl ?_) | (refine asS_i rfl ?_) | (refine asY_i rfl ?_) | (refine asM_i rfl ?_) | (refine asA_i rfl rfl ?_) | (refine asT_i rfl rfl ?_) | (refine lv_i ?_) | (refine hS.nw ?_; clear hS; intro _ _ hS) | (refine hS.dw ?_; clear hS; intro _ hS _) | (refine hS.ld0 0 rfl rfl ?_) | (refine hS.ld 0 rfl rfl ?_) | (refine hS.ld0 1 rfl rfl ?_) | (refine hS.ld 1 rfl rfl ?_) | (refine hS.ld0 2 rfl rfl ?_) | (refine hS.ld 2 rfl rfl ?_) | (refine hS.ld0 3 rfl rfl ?_) | (refine hS.ld 3 rfl rfl ?_) | (refine hS.ld0 4 rfl rfl ?_) | (refine hS.ld 4 rfl rfl ?_) | (refine hS.ld0 5 rfl rfl ?_) | (refine hS.ld 5 rfl rfl ?_) | (refine hS.ld0 6 rfl rfl ?_) | (refine hS.ld 6 rfl rfl ?_) | (refine hS.ld0 7 rfl rfl ?_) | (refine hS.ld 7 rfl rfl ?_) | (refine hS.hd0 0 rfl rfl ?_) | (refine hS.hd 0 rfl rfl ?_) | (refine hS.hd0 1 rfl rfl ?_) | (refine hS.hd 1 rfl rfl ?_) | (refine hS.hd0 2 rfl rfl ?_) | (refine hS.hd 2 rfl rfl ?_) | (refine hS.hd0 3 rfl rfl ?_) | (refine hS.hd 3 rfl rfl ?_) | (refine hS.hd0 4 rfl rfl ?_) | (refine hS.hd 4 rfl rfl ?_) | (refine hS.hd0 5 rfl rfl ?_) | (refine hS.hd 5 rfl rfl ?_) | (refine hS.hd0 6 rfl rfl ?_) | (refine hS.hd 6 rfl rfl ?_) | (refine hS.hd0 7 rfl rfl ?_) | (refine hS.hd 7 rfl rfl ?_) | (refine hS.st0 0 rfl rfl rfl ?_; clear hS; intro _ hS) | (refine hS.st 0 rfl rfl rfl ?_; clear hS; intro _ hS) | (refine hS.st0 1 rfl rfl rfl ?_; clear hS; intro _ hS) | (refine hS.st 1 rfl rfl rfl ?_; clear hS; intro _ hS) | (refine hS.st0 2 rfl rfl rfl ?_; clear hS; intro _ hS) | (refine hS.st 2 rfl rfl rfl ?_; clear hS; intro _ hS) | (refine hS.st0 3 rfl rfl rfl ?_; clear hS; intro _ hS) | (refine hS.st 3 rfl rfl rfl ?_; clear hS; intro _ hS) | (refine hS.st0 4 rfl rfl rfl ?_; clear hS; intro _ hS) | (refine hS.st 4 rfl rfl rfl ?_; clear hS; intro _ hS) | (refine hS.st0 5 rfl rfl rfl ?_; clear hS; intro _ hS) | (refine hS.st 5 rfl rfl rfl ?_; clear hS; intro _ hS) | (refine hS.st0 6 rfl rfl rfl ?_; clear hS; intro _ hS) | (refine hS.st 6 rfl rfl rfl ?_; clear hS; intro _ hS) | (refine hS.st0 7 rfl rfl rfl ?_; clear hS; intro _ hS) | (refine hS.st 7 rfl rfl rfl ?_; clear hS; intro _ hS) | (refine bnd_mk (by decide) (by decide) ?_) | (refine so_i rfl ?_))
  obtain ⟨r1, r2⟩ := hr
  refine jn_mk (cond_split (fun h0 => ?_) (fun h0 => ?_))
  · have h0' : 0 ≤ r := by simpa using h0
    have er : IntKind.wrap .u64 r = r := by rw [wru64]; omega
    rw [er]
    refine cond_split (fun hx => ?_) (fun hx => ?_)
    · repeat (first | (refine asI_i rfl ?_) | (refine asB_i rfl ?_) | (refine asN_i rfl ?_) | (refine asP_i rfl ?_) | (refine asS_i rfl ?_) | (refine asY_i rfl ?_) | (refine asM_i rfl ?_) | (refine asA_i rfl rfl ?_) | (refine asT_i rfl rfl ?_) | (refine lv_i ?_) | (refine hS.nw ?_; clear hS; intro _ _ hS) | (refine hS.dw ?_; clear hS; intro _ hS _) | (refine hS.ld0 0 rfl rfl ?_) | (refine hS.ld 0 rfl rfl ?_) | (refine hS.ld0 1 rfl rfl ?_) | (refine hS.ld 1 rfl rfl ?_) | (refine hS.ld0 2 rfl rfl ?_) | (refine hS.ld 2 rfl rfl ?_) | (refine hS.ld0 3 rfl rfl ?_) | (refine hS.ld 3 rfl rfl ?_) | (refine hS.ld0 4 rfl rfl ?_) | (refine hS.ld 4 rfl rfl ?_) | (refine hS.ld0 5 rfl rfl ?_) | (refine hS.ld 5 rfl rfl ?_) | (refine hS.ld0 6 rfl rfl ?_) | (refine hS.ld 6 rfl rfl ?_) | (refine hS.ld0 7 rfl rfl ?_) | (refine hS.ld 7 rfl rfl ?_) | (refine hS.hd0 0 rfl rfl ?_) | (refine hS.hd 0 rfl rfl ?_) | (refine hS.hd0 1 rfl rfl ?_) | (refine hS.hd 1 rfl rfl ?_) | (refine hS.hd0 2 rfl rfl ?_) | (refine hS.hd 2 rfl rfl ?_) | (refine hS.hd0 3 rfl rfl ?_) | (refine hS.hd 3 rfl rfl ?_) | (refine hS.hd0 4 rfl rfl ?_) | (refine hS.hd 4 rfl rfl ?_) | (refine hS.hd0 5 rfl rfl ?_) | (refine hS.hd 5 rfl rfl ?_) | (refine hS.hd0 6 rfl rfl ?_) | (refine hS.hd 6 rfl rfl ?_) | (refine hS.hd0 7 rfl rfl ?_) | (refine hS.hd 7 rfl rfl ?_) | (refine hS.st0 0 rfl rfl rfl ?_; clear hS; intro _ hS) | (refine hS.st 0 rfl rfl rfl ?_; clear hS; intro _ hS) | (refine hS.st0 1 rfl rfl rfl ?_; clear hS; intro _ hS) | (refine hS.st 1 rfl rfl rfl ?_; clear hS; intro _ hS) | (refine hS.st0 2 rfl rfl rfl ?_; clear hS; intro _ hS) | (refine hS.st 2 rfl rfl rfl ?_; clear hS; intro _ hS) | (refine hS.st0 3 rfl rfl rfl ?_; clear hS; intro _ hS) | (refine hS.st 3 rfl rfl rfl ?_; clear hS; intro _ hS) | (refine hS.st0 4 rfl rfl rfl ?_; clear hS; intro _ hS) | (refine hS.st 4 rfl rfl rfl ?_; clear hS; intro _ hS) | (refine hS.st0 5 rfl rfl rfl ?_; clear hS; intro _ hS) | (refine hS.st 5 rfl rfl rfl ?_; clear hS; intro _ hS) | (refine hS.st0 6 rfl rfl rfl ?_; clear hS; intro _ hS) | (refine hS.st 6 rfl rfl rfl ?_; clear hS; intro _ hS) | (refine hS.st0 7 rfl rfl rfl ?_; clear hS; intro _ hS) | (refine hS.st 7 rfl rfl rfl ?_; clear hS; intro _ hS) | (refine bnd_mk (by decide) (by decide) ?_) | (refine so_i rfl ?_))
      have hk := hK _ hS.ext
      have e : nearV px py qx qy r = decide (adiff py qy ≤ r) := by unfold nearV; rw [hx, decide_eq_true h0']; rfl
      rw [e] at hk
      exact hk
    · repeat (first | (refine asI_i rfl ?_) | (refine asB_i rfl ?_) | (refine asN_i rfl ?_) | (refine asP_i rfl ?_) | (refine asS_i rfl ?_) | (refine asY_i rfl ?_) | (refine asM_i rfl ?_) | (refine asA_i rfl rfl ?_) | (refine asT_i rfl rfl ?_) | (refine lv_i ?_) | (refine hS.nw ?_; clear hS; intro _ _ hS) | (refine hS.dw ?_; clear hS; intro _ hS _) | (refine hS.ld0 0 rfl rfl ?_) | (refine hS.ld 0 rfl rfl ?_) | (refine hS.ld0 1 rfl rfl ?_) | (refine hS.ld 1 rfl rfl ?_) | (refine hS.ld0 2 rfl rfl ?_) | (refine hS.ld 2 rfl rfl ?_) | (refine hS.ld0 3 rfl rfl ?_) | (refine hS.ld 3 rfl rfl ?_) | (refine hS.ld0 4 rfl rfl ?_) | (refine hS.ld 4 rfl rfl ?_) | (refine hS.ld0 5 rfl rfl ?_) | (refine hS.ld 5 rfl rfl ?_) | (refine hS.ld0 6 rfl rfl ?_) | (refine hS.ld 6 rfl rfl ?_) | (refine hS.ld0 7 rfl rfl ?_) | (refine hS.ld 7 rfl rfl ?_) | (refine hS.hd0 0 rfl rfl ?_) | (refine hS.hd 0 rfl rfl ?_) | (refine hS.hd0 1 rfl rfl ?_) | (refine hS.hd 1 rfl rfl ?_) | (refine hS.hd0 2 rfl rfl ?_) | (refine hS.hd 2 rfl rfl ?_) | (refine hS.hd0 3 rfl rfl ?_) | (refine hS.hd 3 rfl rfl ?_) | (refine hS.hd0 4 rfl rfl ?_) | (refine hS.hd 4 rfl rfl ?_) | (refine hS.hd0 5 rfl rfl ?_) | (refine hS.hd 5 rfl rfl ?_) | (refine hS.hd0 6 rfl rfl ?_) | (refine hS.hd 6 rfl rfl ?_) | (refine hS.hd0 7 rfl rfl ?_) | (refine hS.hd 7 rfl rfl ?_) | (refine hS.st0 0 rfl rfl rfl ?_; clear hS; intro _ hS) | (refine hS.st 0 rfl rfl rfl ?_; clear hS; intro _ hS) | (refine hS.st0 1 rfl rfl rfl ?_; clear hS; intro _ hS) | (refine hS.st 1 rfl rfl rfl ?_; clear hS; intro _ hS) | (refine hS.st0 2 rfl rfl rfl ?_; clear hS; intro _ hS) | (refine hS.st 2 rfl rfl rfl ?_; clear hS; intro _ hS) | (refine hS.st0 3 rfl rfl rfl ?_; clear hS; intro _ hS) | (refine hS.st 3 rfl rfl rfl ?_; clear hS; intro _ hS) | (refine hS.st0 4 rfl rfl rfl ?_; clear hS; intro _ hS) | (refine hS.st 4 rfl rfl rfl ?_; clear hS; intro _ hS) | (refine hS.st0 5 rfl rfl rfl ?_; clear hS; intro _ hS) | (refine hS.st 5 rfl rfl rfl ?_; clear hS; intro _ hS) | (refine hS.st0 6 rfl rfl rfl ?_; clear hS; intro _ hS) | (refine hS.st 6 rfl rfl rfl ?_; clear hS; intro _ hS) | (refine hS.st0 7 rfl rfl rfl ?_; clear hS; intro _ hS) | (refine hS.st 7 rfl rfl rfl ?_; clear hS; intro _ hS) | (refine bnd_mk (by decide) (by decide) ?_) | (refine so_i rfl ?_))
      have hk := hK _ hS.ext
      have e : nearV px py qx qy r = false := by unfold nearV; rw [hx]; simp
      rw [e] at hk
      exact hk
  · repeat (first | (refine asI_i rfl ?_) | (refine asB_i rfl ?_) | (refine asN_i rfl ?_) | (refine asP_i rfl ?_) | (refine asS_i rfl ?_) | (refine asY_i rfl ?_) | (refine asM_i rfl ?_) | (refine asA_i rfl rfl ?_) | (refine asT_i rfl rfl ?_) | (refine lv_i ?_) | (refine hS.nw ?_; clear hS; intro _ _ hS) | (refine hS.dw ?_; clear hS; intro _ hS _) | (refine hS.ld0 0 rfl rfl ?_) | (refine hS.ld 0 rfl rfl ?_) | (refine hS.ld0 1 rfl rfl ?_) | (refine hS.ld 1 rfl rfl ?_) | (refine hS.ld0 2 rfl rfl ?_) | (refine hS.ld 2 rfl rfl ?_) | (refine hS.ld0 3 rfl rfl ?_) | (refine hS.ld 3 rfl rfl ?_) | (refine hS.ld0 4 rfl rfl ?_) | (refine hS.ld 4 rfl rfl ?_) | (refine hS.ld0 5 rfl rfl ?_) | (refine hS.ld 5 rfl rfl ?_) | (refine hS.ld0 6 rfl rfl ?_) | (refine hS.ld 6 rfl rfl ?_) | (refine hS.ld0 7 rfl rfl ?_) | (refine hS.ld 7 rfl rfl ?_) | (refine hS.hd0 0 rfl rfl ?_) | (refine hS.hd 0 rfl rfl ?_) | (refine hS.hd0 1 rfl rfl ?_) | (refine hS.hd 1 rfl rfl ?_) | (refine hS.hd0 2 rfl rfl ?_) | (refine hS.hd 2 rfl rfl ?_) | (refine hS.hd0 3 rfl rfl ?_) | (refine hS.hd 3 rfl rfl ?_) | (refine hS.hd0 4 rfl rfl ?_) | (refine hS.hd 4 rfl rfl ?_) | (refine hS.hd0 5 rfl rfl ?_) | (refine hS.hd 5 rfl rfl ?_) | (refine hS.hd0 6 rfl rfl ?_) | (refine hS.hd 6 rfl rfl ?_) | (refine hS.hd0 7 rfl rfl ?_) | (refine hS.hd 7 rfl rfl ?_) | (refine hS.st0 0 rfl rfl rfl ?_; clear hS; intro _ hS) | (refine hS.st 0 rfl rfl rfl ?_; clear hS; intro _ hS) | (refine hS.st0 1 rfl rfl rfl ?_; clear hS; intro _ hS) | (refine hS.st 1 rfl rfl rfl ?_; clear hS; intro _ hS) | (refine hS.st0 2 rfl rfl rfl ?_; clear hS; intro _ hS) | (refine hS.st 2 rfl rfl rfl ?_; clear hS; intro _ hS) | (refine hS.st0 3 rfl rfl rfl ?_; clear hS; intro _ hS) | (refine hS.st 3 rfl rfl rfl ?_; clear hS; intro _ hS) | (refine hS.st0 4 rfl rfl rfl ?_; clear hS; intro _ hS) | (refine hS.st 4 rfl rfl rfl ?_; clear hS; intro _ hS) | (refine hS.st0 5 rfl rfl rfl ?_; clear hS; intro _ hS) | (refine hS.st 5 rfl rfl rfl ?_; clear hS; intro _ hS) | (refine hS.st0 6 rfl rfl rfl ?_; clear hS; intro _ hS) | (refine hS.st 6 rfl rfl rfl ?_; clear hS; intro _ hS) | (refine hS.st0 7 rfl rfl rfl ?_; clear hS; intro _ hS) | (refine hS.st 7 rfl rfl rfl ?_; clear hS; intro _ hS) | (refine bnd_mk (by decide) (by decide) ?_) | (refine so_i rfl ?_))
    have hk := hK _ hS.ext
    have e : nearV px py qx qy r = false := by
      unfold nearV
      have : ¬ 0 ≤ r := by simpa using h0
      simp [this]
    rw [e] at hk
    exact hk
theorem rone_k {x y r : Int} (hx : I64 x) (hy : I64 y) (hr : 0 ≤ r ∧ r ≤ 9223372036854775807) {w : World} {K : Value → World → Prop} (hK : K (.bool (decide (adiff x y ≤ r))) w) : cl Tryd.prog 54 #[.int .i64 x, .int .i64 y, .int .i64 r] w K := by
  apply F54_calls
  unfold F54
  obtain ⟨x1, x2⟩ := hx
  obtain ⟨y1, y2⟩ := hy
  refine lv_i (lv_i ?_)
  have el : (if y < x then y else x) = min x y := by split <;> omega
  have eh : (if y > x then y else x) = max x y := by split <;> omega
  have ea : adiff x y = max x y - min x y := by unfold adiff; split <;> omega
  rw [el, eh, wr64 (n := 9223372036854775807 - r) (by omega) (by omega)]
  refine jn_mk (cond_split (fun h => ?_) (fun h => ?_))
  · repeat (first | (refine asI_i rfl ?_) | (refine asB_i rfl ?_) | (refine asN_i rfl ?_) | (refine asP_i rfl ?_) | (refine asS_i rfl ?_) | (refine asY_i rfl ?_) | (refine asM_i rfl ?_) | (refine asA_i rfl rfl ?_) | (refine asT_i rfl rfl ?_) | (refine lv_i ?_))
    have e : decide (adiff x y ≤ r) = true := by
      simp only [gt_iff_lt, decide_eq_true_eq] at h ⊢
      omega
    rw [e] at hK
    exact hK
  · repeat (first | (refine asI_i rfl ?_) | (refine asB_i rfl ?_) | (refine asN_i rfl ?_) | (refine asP_i rfl ?_) | (refine asS_i rfl ?_) | (refine asY_i rfl ?_) | (refine asM_i rfl ?_) | (refine asA_i rfl rfl ?_) | (refine asT_i rfl rfl ?_) | (refine lv_i ?_))
    simp only [gt_iff_lt, decide_eq_false_iff_not] at h
    have e : decide (adiff x y ≤ r) = decide (max x y ≤ IntKind.wrap .i64 (min x y + r)) := by
      rw [wr64 (by omega) (by omega)]
      congr 1
      apply propext
      omega
    rw [e] at hK
    exact hK
theorem rnear_k {px py qx qy r : Int} (h1 : I64 px) (h2 : I64 py) (h3 : I64 qx) (h4 : I64 qy) (hr : I64 r) {w : World} {K : Value → World → Prop}
    (hK : ∀ w', Ext no w w' → K (.bool (nearV px py qx qy r)) w') : cl Tryd.prog 44 #[vv px py, vv qx qy, .int .i64 r] w K := by
  apply F44_calls
  unfold F44
  have hS := St.start w
  repeat (first | (refine asI_i rfl ?_) | (refine asB_i rfl ?_) | (refine asN_i rfl ?_) | (refine asP_i rfl ?_) | (refine asS_i rfl ?_) | (refine asY_i rfl ?_) | (refine asM_i rfl ?_) | (refine asA_i rfl rfl ?_) | (refine asT_i rfl rfl ?_) | (refine lv_i ?_) | (refine hS.nw ?_; clear hS; intro _ _ hS) | (refine hS.dw ?_; clear hS; intro _ hS _) | (refine hS.ld0 0 rfl rfl ?_) | (refine hS.ld 0 rfl rfl ?_) | (refine hS.ld0 1 rfl rfl ?_) | (refine hS.ld 1 rfl rfl ?_) | (refine hS.ld0 2 rfl rfl ?_) | (refine hS.ld 2 rfl rfl ?_) | (refine hS.ld0 3 rfl rfl ?_) | (refine hS.ld 3 rfl rfl ?_) | (refine hS.ld0 4 rfl rfl ?_) | (refine hS.ld 4 rfl rfl ?_) | (refine hS.ld0 5 rfl rfl ?_) | (refine hS.ld 5 rfl rfl ?_) | (refine hS.ld0 6 rfl rfl ?_) | (refine hS.ld 6 rfl rfl ?_) | (refine hS.ld0 7 rfl rfl ?_) | (refine hS.ld 7 rfl rfl ?_) | (refine hS.hd0 0 rfl rfl ?_) | (refine hS.hd 0 rfl rfl ?_) | (refine hS.hd0 1 rfl rfl ?_) | (refine hS.hd 1 rfl rfl ?_) | (refine hS.hd0 2 rfl rfl ?_) | (refine hS.hd 2 rfl rfl ?_) | (refine hS.hd0 3 rfl rfl ?_) | (refine hS.hd 3 rfl rfl ?_) | (refine hS.hd0 4 rfl rfl ?_) | (refine hS.hd 4 rfl rfl ?_) | (refine hS.hd0 5 rfl rfl ?_) | (refine hS.hd 5 rfl rfl ?_) | (refine hS.hd0 6 rfl rfl ?_) | (refine hS.hd 6 rfl rfl ?_) | (refine hS.hd0 7 rfl rfl ?_) | (refine hS.hd 7 rfl rfl ?_) | (refine hS.st0 0 rfl rfl rfl ?_; clear hS; intro _ hS) | (refine hS.st 0 rfl rfl rfl ?_; clear hS; intro _ hS) | (refine hS.st0 1 rfl rfl rfl ?_; clear hS; intro _ hS) | (refine hS.st 1 rfl rfl rfl ?_; clear hS; intro _ hS) | (refine hS.st0 2 rfl rfl rfl ?_; clear hS; intro _ hS) | (refine hS.st 2 rfl rfl rfl ?_; clear hS; intro _ hS) | (refine hS.st0 3 rfl rfl rfl ?_; clear hS; intro _ hS) | (refine hS.st 3 rfl rfl rfl ?_; clear hS; intro _ hS) | (refine hS.st0 4 rfl rfl rfl ?_; clear hS; intro _ hS) | (refine hS.st 4 rfl rfl rfl ?_; clear hS; intro _ hS) | (refine hS.st0 5 rfl rfl rfl ?_; clear hS; intro _ hS) | (refine hS.st 5 rfl rfl rfl ?_; clear hS; intro _ hS) | (refine hS.st0 6 rfl rfl rfl ?_; clear hS; intro _ hS) | (refine hS.st 6 rfl rfl rfl ?_; clear hS; intro _ hS) | (refine hS.st0 7 rfl rfl rfl ?_; clear hS; intro _ hS) | (refine hS.st 7 rfl rfl rfl ?_; clear hS; intro _ hS) | (refine bnd_mk (by decide) (by decide) ?_) | (refine so_i rfl ?_))
  refine cond_split (fun h0 => ?_) (fun h0 => ?_)
  · have hk := hK _ hS.ext
    have e : nearV px py qx qy r = false := by
      unfold nearV
      have : ¬ 0 ≤ r := by
        have : r < 0 := by simpa using h0
        omega
      simp [this]
    rw [e] at hk
    exact hk
  · have h0' : 0 ≤ r := by
      have : ¬ r < 0 := by simpa using h0
      omega
    have e : nearV px py qx qy r = (decide (adiff px qx ≤ r) && decide (adiff py qy ≤ r)) := by unfold nearV; rw [decide_eq_true h0']; rfl
    rw [e] at hK
    repeat (first | (refine asI_i rfl ?_) | (refine asB_i rfl ?_) | (refine asN_i rfl ?_) | (refine asP_i rfl ?_) | (refine asS_i rfl ?_) | (refine asY_i rfl ?_) | (refine asM_i rfl ?_) | (refine asA_i rfl rfl ?_) | (refine asT_i rfl rfl ?_) | (refine lv_i ?_) | (refine hS.nw ?_; clear hS; intro _ _ hS) | (refine hS.dw ?_; clear hS; intro _ hS _) | (refine hS.ld0 0 rfl rfl ?_) | (refine hS.ld 0 rfl rfl ?_) | (refine hS.ld0 1 rfl rfl ?_) | (refine hS.ld 1 rfl rfl ?_) | (refine hS.ld0 2 rfl rfl ?_) | (refine hS.ld 2 rfl rfl ?_) | (refine hS.ld0 3 rfl rfl ?_) | (refine hS.ld 3 rfl rfl ?_) | (refine hS.ld0 4 rfl rfl ?_) | (refine hS.ld 4 rfl rfl ?_) | (refine hS.ld0 5 rfl rfl ?_) | (refine hS.ld 5 rfl rfl ?_) | (refine hS.ld0 6 rfl rfl ?_) | (refine hS.ld 6 rfl rfl ?_) | (refine hS.ld0 7 rfl rfl ?_) | (refine hS.ld 7 rfl rfl ?_) | (refine hS.hd0 0 rfl rfl ?_) | (refine hS.hd 0 rfl rfl ?_) | (refine hS.hd0 1 rfl rfl ?_) | (refine hS.hd 1 rfl rfl ?_) | (refine hS.hd0 2 rfl rfl ?_) | (refine hS.hd 2 rfl rfl ?_) | (refine hS.hd0 3 rfl rfl ?_) | (refine hS.hd 3 rfl rfl ?_) | (refine hS.hd0 4 rfl rfl ?_) | (refine hS.hd 4 rfl rfl ?_) | (refine hS.hd0 5 rfl rfl ?_) | (refine hS.hd 5 rfl rfl ?_) | (refine hS.hd0 6 rfl rfl ?_) | (refine hS.hd 6 rfl rfl ?_) | (refine hS.hd0 7 rfl rfl ?_) | (refine hS.hd 7 rfl rfl ?_) | (refine hS.st0 0 rfl rfl rfl ?_; clear hS; intro _ hS) | (refine hS.st 0 rfl rfl rfl ?_; clear hS; intro _ hS) | (refine hS.st0 1 rfl rfl rfl ?_; clear hS; intro _ hS) | (refine hS.st 1 rfl rfl rfl ?_; clear hS; intro _ hS) | (refine hS.st0 2 rfl rfl rfl ?_; clear hS; intro _ hS) | (refine hS.st 2 rfl rfl rfl ?_; clear hS; intro _ hS) | (refine hS.st0 3 rfl rfl rfl ?_; clear hS; intro _ hS) | (refine hS.st 3 rfl rfl rfl ?_; clear hS; intro _ hS) | (refine hS.st0 4 rfl rfl rfl ?_; clear hS; intro _ hS) | (refine hS.st 4 rfl rfl rfl ?_; clear hS; intro _ hS) | (refine hS.st0 5 rfl rfl rfl ?_; clear hS; intro _ hS) | (refine hS.st 5 rfl rfl rfl ?_; clear hS; intro _ hS) | (refine hS.st0 6 rfl rfl rfl ?_; clear hS; intro _ hS) | (refine hS.st 6 rfl rfl rfl ?_; clear hS; intro _ hS) | (refine hS.st0 7 rfl rfl rfl ?_; clear hS; intro _ hS) | (refine hS.st 7 rfl rfl rfl ?_; clear hS; intro _ hS) | (refine bnd_mk (by decide) (by decide) ?_) | (refine so_i rfl ?_))
    refine rone_k h1 h3 ⟨h0', hr.2⟩ ?_
    repeat (first | (refine asI_i rfl ?_) | (refine asB_i rfl ?_) | (refine asN_i rfl ?_) | (refine asP_i rfl ?_) | (refine asS_i rfl ?_) | (refine asY_i rfl ?_) | (refine asM_i rfl ?_) | (refine asA_i rfl rfl ?_) | (refine asT_i rfl rfl ?_) | (refine lv_i ?_) | (refine hS.nw ?_; clear hS; intro _ _ hS) | (refine hS.dw ?_; clear hS; intro _ hS _) | (refine hS.ld0 0 rfl rfl ?_) | (refine hS.ld 0 rfl rfl ?_) | (refine hS.ld0 1 rfl rfl ?_) | (refine hS.ld 1 rfl rfl ?_) | (refine hS.ld0 2 rfl rfl ?_) | (refine hS.ld 2 rfl rfl ?_) | (refine hS.ld0 3 rfl rfl ?_) | (refine hS.ld 3 rfl rfl ?_) | (refine hS.ld0 4 rfl rfl ?_) | (refine hS.ld 4 rfl rfl ?_) | (refine hS.ld0 5 rfl rfl ?_) | (refine hS.ld 5 rfl rfl ?_) | (refine hS.ld0 6 rfl rfl ?_) | (refine hS.ld 6 rfl rfl ?_) | (refine hS.ld0 7 rfl rfl ?_) | (refine hS.ld 7 rfl rfl ?_) | (refine hS.hd0 0 rfl rfl ?_) | (refine hS.hd 0 rfl rfl ?_) | (refine hS.hd0 1 rfl rfl ?_) | (refine hS.hd 1 rfl rfl ?_) | (refine hS.hd0 2 rfl rfl ?_) | (refine hS.hd 2 rfl rfl ?_) | (refine hS.hd0 3 rfl rfl ?_) | (refine hS.hd 3 rfl rfl ?_) | (refine hS.hd0 4 rfl rfl ?_) | (refine hS.hd 4 rfl rfl ?_) | (refine hS.hd0 5 rfl rfl ?_) | (refine hS.hd 5 rfl rfl ?_) | (refine hS.hd0 6 rfl rfl ?_) | (refine hS.hd 6 rfl rfl ?_) | (refine hS.hd0 7 rfl rfl ?_) | (refine hS.hd 7 rfl rfl ?_) | (refine hS.st0 0 rfl rfl rfl ?_; clear hS; intro _ hS) | (refine hS.st 0 rfl rfl rfl ?_; clear hS; intro _ hS) | (refine hS.st0 1 rfl rfl rfl ?_; clear hS; intro _ hS) | (refine hS.st 1 rfl rfl rfl ?_; clear hS; intro _ hS) | (refine hS.st0 2 rfl rfl rfl ?_; clear hS; intro _ hS) | (refine hS.st 2 rfl rfl rfl ?_; clear hS; intro _ hS) | (refine hS.st0 3 rfl rfl rfl ?_; clear hS; intro _ hS) | (refine hS.st 3 rfl rfl rfl ?_; clear hS; intro _ hS) | (refine hS.st0 4 rfl rfl rfl ?_; clear hS; intro _ hS) | (refine hS.st 4 rfl rfl rfl ?_; clear hS; intro _ hS) | (refine hS.st0 5 rfl rfl rfl ?_; clear hS; intro _ hS) | (refine hS.st 5 rfl rfl rfl ?_; clear hS; intro _ hS) | (refine hS.st0 6 rfl rfl rfl ?_; clear hS; intro _ hS) | (refine hS.st 6 rfl rfl rfl ?_; clear hS; intro _ hS) | (refine hS.st0 7 rfl rfl rfl ?_; clear hS; intro _ hS) | (refine hS.st 7 rfl rfl rfl ?_; clear hS; intro _ hS) | (refine bnd_mk (by decide) (by decide) ?_) | (refine so_i rfl ?_))
    refine rone_k h2 h4 ⟨h0', hr.2⟩ ?_
    repeat (first | (refine asI_i rfl ?_) | (refine asB_i rfl ?_) | (refine asN_i rfl ?_) | (refine asP_i rfl ?_) | (refine asS_i rfl ?_) | (refine asY_i rfl ?_) | (refine asM_i rfl ?_) | (refine asA_i rfl rfl ?_) | (refine asT_i rfl rfl ?_) | (refine lv_i ?_) | (refine hS.nw ?_; clear hS; intro _ _ hS) | (refine hS.dw ?_; clear hS; intro _ hS _) | (refine hS.ld0 0 rfl rfl ?_) | (refine hS.ld 0 rfl rfl ?_) | (refine hS.ld0 1 rfl rfl ?_) | (refine hS.ld 1 rfl rfl ?_) | (refine hS.ld0 2 rfl rfl ?_) | (refine hS.ld 2 rfl rfl ?_) | (refine hS.ld0 3 rfl rfl ?_) | (refine hS.ld 3 rfl rfl ?_) | (refine hS.ld0 4 rfl rfl ?_) | (refine hS.ld 4 rfl rfl ?_) | (refine hS.ld0 5 rfl rfl ?_) | (refine hS.ld 5 rfl rfl ?_) | (refine hS.ld0 6 rfl rfl ?_) | (refine hS.ld 6 rfl rfl ?_) | (refine hS.ld0 7 rfl rfl ?_) | (refine hS.ld 7 rfl rfl ?_) | (refine hS.hd0 0 rfl rfl ?_) | (refine hS.hd 0 rfl rfl ?_) | (refine hS.hd0 1 rfl rfl ?_) | (refine hS.hd 1 rfl rfl ?_) | (refine hS.hd0 2 rfl rfl ?_) | (refine hS.hd 2 rfl rfl ?_) | (refine hS.hd0 3 rfl rfl ?_) | (refine hS.hd 3 rfl rfl ?_) | (refine hS.hd0 4 rfl rfl ?_) | (refine hS.hd 4 rfl rfl ?_) | (refine hS.hd0 5 rfl rfl ?_) | (refine hS.hd 5 rfl rfl ?_) | (refine hS.hd0 6 rfl rfl ?_) | (refine hS.hd 6 rfl rfl ?_) | (refine hS.hd0 7 rfl rfl ?_) | (refine hS.hd 7 rfl rfl ?_) | (refine hS.st0 0 rfl rfl rfl ?_; clear hS; intro _ hS) | (refine hS.st 0 rfl rfl rfl ?_; clear hS; intro _ hS) | (refine hS.st0 1 rfl rfl rfl ?_; clear hS; intro _ hS) | (refine hS.st 1 rfl rfl rfl ?_; clear hS; intro _ hS) | (refine hS.st0 2 rfl rfl rfl ?_; clear hS; intro _ hS) | (refine hS.st 2 rfl rfl rfl ?_; clear hS; intro _ hS) | (refine hS.st0 3 rfl rfl rfl ?_; clear hS; intro _ hS) | (refine hS.st 3 rfl rfl rfl ?_; clear hS; intro _ hS) | (refine hS.st0 4 rfl rfl rfl ?_; clear hS; intro _ hS) | (refine hS.st 4 rfl rfl rfl ?_; clear hS; intro _ hS) | (refine hS.st0 5 rfl rfl rfl ?_; clear hS; intro _ hS) | (refine hS.st 5 rfl rfl rfl ?_; clear hS; intro _ hS) | (refine hS.st0 6 rfl rfl rfl ?_; clear hS; intro _ hS) | (refine hS.st 6 rfl rfl rfl ?_; clear hS; intro _ hS) | (refine hS.st0 7 rfl rfl rfl ?_; clear hS; intro _ hS) | (refine hS.st 7 rfl rfl rfl ?_; clear hS; intro _ hS) | (refine bnd_mk (by decide) (by decide) ?_) | (refine so_i rfl ?_))
    refine jn_mk (cond_split (fun h => ?_) (fun h => ?_))
    · repeat (first | (refine asI_i rfl ?_) | (refine asB_i rfl ?_) | (refine asN_i rfl ?_) | (refine asP_i rfl ?_) | (refine asS_i rfl ?_) | (refine asY_i rfl ?_) | (refine asM_i rfl ?_) | (refine asA_i rfl rfl ?_) | (refine asT_i rfl rfl ?_) | (refine lv_i ?_))
      have hk := hK _ hS.ext
      rw [h] at hk
      exact hk
    · repeat (first | (refine asI_i rfl ?_) | (refine asB_i rfl ?_) | (refine asN_i rfl ?_) | (refine asP_i rfl ?_) | (refine asS_i rfl ?_) | (refine asY_i rfl ?_) | (refine asM_i rfl ?_) | (refine asA_i rfl rfl ?_) | (refine asT_i rfl rfl ?_) | (refine lv_i ?_))
      have hk := hK _ hS.ext
      rw [h] at hk
      exact hk
end Go.Proofs.YtfnepdppkmjboaaDoor

/- SnNb: those near one (snap.Restrict and the document's), which views may be by the document. Conditions: those of each theorem, on its arguments. -/
namespace Go.Proofs.YtfnepdppkmjboaaDoor
open Go Go.Sx Go.Fp
attribute [local irreducible] jn lv ld st nw asI asB asP asS asY asM asF asA asT lp rn ru rq cl dw dr bnd bn2 nz nn hd hr so eqW
attribute [local irreducible] callOk

theorem add11 (a : Addr) : Addr.add (Addr.add a 1) 1 = Addr.add a 2 := by simp [Addr.add, Nat.add_assoc]
def nearE (a b : Ent) (r : Int) : Bool := nearV a.x a.y b.x b.y r
def meP (me : Int) (e : Ent) : Bool := e.h == me
/-- the first n that are meant -/
def firstN (p : Ent → Bool) (n : Nat) (es : List Ent) : List Ent := (es.filter p).take n
def restE (es : List Ent) (me r n : Int) : Int := if r < 0 ∨ n < 1 ∨ 64 < n then 1 else if (es.findIdx? (meP me)).isSome then 0 else 190
def restO (es : List Ent) (me r n : Int) : List Ent := if r < 0 ∨ n < 1 ∨ 64 < n then [] else match es.findIdx? (meP me) with
  | some k => firstN (fun e => nearE e (es.getD k Ent.zero) r) n.toNat es
  | none => []

theorem firstN_succ {p : Ent → Bool} {n : Nat} {es : List Ent} {i : Nat} {e : Ent} (h : es[i]? = some e) :
    firstN p n (es.take (i + 1)) = firstN p n (es.take i) ++ if (firstN p n (es.take i)).length < n ∧ p e = true then [e] else [] := by
  unfold firstN
  rw [List.take_add_one, h, List.filter_append]
  simp only [Option.toList_some, List.filter_cons, List.filter_nil]
  generalize (es.take i).filter p = q
  by_cases hp : p e = true
  · rw [if_pos hp]
    by_cases hl : q.length < n
    · have e1 : (q.take n).length = q.length := by rw [List.length_take]; omega
      rw [e1, if_pos ⟨hl, hp⟩, List.take_of_length_le (by simp; omega), List.take_of_length_le (by omega)]
    · have e1 : (q.take n).length = n := by rw [List.length_take]; omega
      rw [e1, if_neg (fun h => Nat.lt_irrefl _ h.1), List.take_append_of_le_length (by omega), List.append_nil]
  · rw [if_neg hp, if_neg (fun h => hp h.2), List.append_nil, List.append_nil]
theorem firstN_len {p : Ent → Bool} {n : Nat} {es : List Ent} : (firstN p n es).length ≤ n := by
  unfold firstN
  rw [List.length_take]
  omega
theorem firstN_mem {p : Ent → Bool} {n : Nat} {es : List Ent} {e : Ent} (h : e ∈ firstN p n es) : e ∈ es := (List.mem_filter.1 (List.mem_of_mem_take h)).1
theorem firstN_get {p : Ent → Bool} {n : Nat} {es : List Ent} {i : Nat} {e : Ent} (h : es[i]? = some e) (hp : p e = true) (hl : (firstN p n (es.take i)).length < n) : (firstN p n es)[(firstN p n (es.take i)).length]? = some e := by
  have h1 : firstN p n es = firstN p n (es.take (i + 1)) ++ (firstN p n es).drop (firstN p n (es.take (i + 1))).length := by
    have hpre : ∃ t, es.filter p = (es.take (i + 1)).filter p ++ t := ⟨(es.drop (i + 1)).filter p, by rw [← List.filter_append, List.take_append_drop]⟩
    obtain ⟨t, ht⟩ := hpre
    have : firstN p n (es.take (i + 1)) <+: firstN p n es := by
      unfold firstN
      rw [ht]
      by_cases hn : n ≤ ((es.take (i + 1)).filter p).length
      · rw [List.take_append_of_le_length hn]
        exact List.prefix_rfl
      · rw [List.take_of_length_le (l := (es.take (i + 1)).filter p) (by omega), List.take_append]
        rw [List.take_of_length_le (l := (es.take (i + 1)).filter p) (by omega)]
        exact List.prefix_append _ _
    obtain ⟨u, hu⟩ := this
    rw [← hu, List.drop_left]
  rw [h1, firstN_succ h, if_pos ⟨hl, hp⟩, List.append_assoc, List.getElem?_append_right (Nat.le_refl _), Nat.sub_self]
  rfl

theorem findIdx_of {es : List Ent} {p : Ent → Bool} {i : Nat} {e : Ent} (h : es[i]? = some e) (hp : p e = true) (hno : ∀ j, j < i → ∀ x, es[j]? = some x → p x = false) : es.findIdx? p = some i := by
  rw [List.findIdx?_eq_some_iff_getElem]
  obtain ⟨hl, rfl⟩ := List.getElem?_eq_some_iff.1 h
  refine ⟨hl, hp, fun j hj => ?_⟩
  have := hno j hj es[j] (List.getElem?_eq_getElem (by omega))
  simp [this]
theorem findIdx_none {es : List Ent} {p : Ent → Bool} (hno : ∀ (j : Nat) x, es[j]? = some x → p x = false) : es.findIdx? p = none := by
  rw [List.findIdx?_eq_none_iff]
  intro x hx
  obtain ⟨j, hj⟩ := List.getElem?_of_mem hx
  exact hno j x hj

theorem me_k {e : Ent} {r : Nat} {me : Int} {w : World} (hc : w.cell? ⟨r, 0, none⟩ = some (.int .i64 me)) {K : Value → World → Prop} (hK : ∀ w', Ext no w w' → K (.bool (meP me e)) w') :
    cl Tryd.prog 41 (#[] ++ #[e.v] ++ #[.pointer (some ⟨r, 0, none⟩)]) w K := by
  have e0 : (#[] ++ #[e.v] ++ #[Value.pointer (some ⟨r, 0, none⟩)] : Array Value) = #[e.v, .pointer (some ⟨r, 0, none⟩)] := by simp
  rw [e0]
  apply F41_calls
  unfold F41
  have hS := St.start w
  (refine hS.nw ?_; clear hS; intro r1 _ hS)
  exact hS.ld0 0 rfl rfl (asI_i rfl (dr_i (ld_mk (hS.ext.cell hc (fun h => h)) (asI_i rfl (hK _ hS.ext)))))
theorem me_ok : callOk Tryd.prog 41 = true := by kernel_rfl

/-- where the first of a handle is -/
theorem idx_k {w : World} {p : Option Addr} {c : Nat} {es : List Ent} (hr : Reads w p (es.flatMap Ent.cells)) (hl : es.length ≤ 4611686018427387904) {r : Nat} {me : Int} (hc : w.cell? ⟨r, 0, none⟩ = some (.int .i64 me)) {K : Value → World → Prop}
    (hK : ∀ w', Ext no w w' → K (.int .i64 (match es.findIdx? (meP me) with | some k => (k : Int) | none => -1)) w') :
    cl Tryd.prog 40 #[.slice p es.length c, .func (.func 41) #[] #[.pointer (some ⟨r, 0, none⟩)]] w K := by
  apply F40_calls
  unfold F40
  refine lv_i ?_
  refine lp_mk (fun i : Nat => [.int .i64 (i : Int)]) (fun z i w' => z = es.length - i ∧ i ≤ es.length ∧ Ext no w w' ∧ ∀ j, j < i → ∀ x, es[j]? = some x → meP me x = false) es.length 0 rfl ⟨rfl, Nat.zero_le _, Ext.refl _ _, fun j hj => absurd hj (Nat.not_lt_zero _)⟩ ?_
  rintro _ i w1 ⟨rfl, hi, hx, hno⟩ J hJ
  refine asI_i rfl (cond_split (fun hc2 => lv_i ?_) (fun hc2 => lv_i ?_))
  · have hil : i < es.length := by
      have := of_decide_eq_true hc2
      omega
    have hget : es[i]? = some es[i] := List.getElem?_eq_getElem hil
    generalize es[i] = e at hget
    refine Reads.atN (f := Ent.cells) Ent.cells_length (hr.ext hx fun _ _ h => h) rfl hget (by decide) fun a _ hca => ?_
    rw [Int.toNat_natCast]
    refine ld8c hca (cond_t me_ok (me_k (e := e) (hx.cell hc (fun h => h)) fun w2 hx2 => asB_i rfl (cond_split (fun hb => lv_i ?_) (fun hb => ?_))))
    · have := hK w2 (hx.trans hx2)
      rw [findIdx_of hget hb hno] at this
      exact this
    · have ei : IntKind.wrap .i64 ((i : Int) + 1) = ((i + 1 : Nat) : Int) := by rw [wr64 (by omega) (by omega)]; omega
      rw [ei]
      refine hJ (es.length - (i + 1)) (i + 1) _ (by omega) ⟨rfl, by omega, hx.trans hx2, fun j hj x hxj => ?_⟩
      rcases Nat.lt_or_ge j i with h | h
      · exact hno j h x hxj
      · obtain rfl : j = i := by omega
        rw [Option.some.inj (hxj.symm.trans hget)]
        exact hb
  · have hil : i = es.length := by
      have := of_decide_eq_false hc2
      omega
    subst hil
    have := hK w1 hx
    rw [findIdx_none fun j x hj => hno j (List.getElem?_eq_some_iff.1 hj).1 x hj] at this
    exact this

theorem findIdx_lt {es : List Ent} {p : Ent → Bool} {k : Nat} (h : es.findIdx? p = some k) : ∃ e, es[k]? = some e ∧ p e = true := by
  rw [List.findIdx?_eq_some_iff_getElem] at h
  obtain ⟨hl, hp, _⟩ := h
  exact ⟨es[k], List.getElem?_eq_getElem hl, hp⟩

set_option maxHeartbeats 3200000 in
theorem restrict_k {w : World} {p : Option Addr} {c : Nat} {es : List Ent} (hr : Reads w p (es.flatMap Ent.cells)) (hl : es.length ≤ 1099511627776000) (hI : ∀ e ∈ es, e.I) {me r n : Int} (hrI : I64 r) {K : Value → World → Prop}
    (hK : ∀ p' c' w', Ext no w w' → RowN w' w.heap.size 59 8 p' c' (restO es me r n).length ((restO es me r n).flatMap Ent.cells) → K (.tuple #[.slice p' (restO es me r n).length c', .int .i64 (restE es me r n)]) w') :
    cl Tryd.prog 19 #[.slice p es.length c, .int .i64 me, .int .i64 r, .int .i64 n] w K := by
  apply F19_calls
  unfold F19
  refine (Bn.fresh w).nw (cs := [.int .i64 me]) fun r1 w1 hS => lv_i ?_
  refine jn_of (fun s w' => s = [.bool (decide (r < 0 ∨ n < 1 ∨ 64 < n))] ∧ w' = w1) ?_ ?_
  rotate_left
  · intro J hJ
    refine cond_split (fun h => hJ _ _ ⟨?_, rfl⟩) (fun h => cond_split (fun h2 => hJ _ _ ⟨?_, rfl⟩) (fun h2 => hJ _ _ ⟨?_, rfl⟩))
    · have h' := of_decide_eq_true h
      rw [decide_eq_true (.inl h')]
    · have h' := of_decide_eq_true h2
      rw [decide_eq_true (.inr (.inl h'))]
    · have h' := of_decide_eq_false h
      have h2' := of_decide_eq_false h2
      congr 2
      apply decide_eq_decide.2
      omega
  rintro _ w1 ⟨rfl, rfl⟩
  refine asB_i rfl (cond_split (fun hb => lv_i ?_) (fun hb => ?_))
  · have hb' := of_decide_eq_true hb
    have e1 : restO es me r n = [] := by unfold restO; rw [if_pos hb']
    have e2 : restE es me r n = 1 := by unfold restE; rw [if_pos hb']
    have := hK none 0 _ hS.all
    rw [e1, e2] at this
    exact this (RowN.nil _ _ _ _)
  have hb' := of_decide_eq_false hb
  have hcell : ∀ {w'}, Ext no w1 w' → w'.cell? ⟨r1, 0, none⟩ = some (.int .i64 me) := fun hx => hx.cell (hS.cell 0 rfl rfl) (fun h => h)
  refine idx_k (hr.ext hS.all fun _ _ h => h) (by omega) (hcell (Ext.refl _ _)) fun w2 hx2 => asI_i rfl (lv_i ?_)
  replace hS := hS.to hx2
  cases hfi : es.findIdx? (meP me) with
  | none =>
    have e1 : restO es me r n = [] := by unfold restO; rw [if_neg hb', hfi]
    have e2 : restE es me r n = 190 := by unfold restE; rw [if_neg hb', hfi]; rfl
    refine cond_t (by simp) (lv_i ?_)
    have := hK none 0 _ hS.all
    rw [e1, e2] at this
    exact this (RowN.nil _ _ _ _)
  | some k =>
    refine cond_f (by simp) ?_
    obtain ⟨ek, hek, -⟩ := findIdx_lt hfi
    have hekI := hI _ (List.mem_of_getElem? hek)
    have hgd : es.getD k Ent.zero = ek := by rw [List.getD_eq_getElem?_getD, hek]; rfl
    have e1 : restO es me r n = firstN (fun e => nearE e ek r) n.toNat es := by unfold restO; rw [if_neg hb', hfi]; simp only [hgd]
    have e2 : restE es me r n = 0 := by unfold restE; rw [if_neg hb', hfi]; rfl
    rw [e1, e2] at hK
    have hx2' := hS.all
    clear hS
    obtain ⟨N, hN⟩ : ∃ N : Nat, n = (N : Int) := ⟨n.toNat, by omega⟩
    subst hN
    rw [Int.toNat_natCast] at hK
    refine lp_mk (fun t : (Option Addr × Nat) × Nat => [.slice t.1.1 (firstN (fun e => nearE e ek r) N (es.take t.2)).length t.1.2, .int .i64 (t.2 : Int)]) (fun z t w' => z = es.length - t.2 ∧ t.2 ≤ es.length ∧ Ext no w w' ∧ RowN w' w.heap.size 59 8 t.1.1 t.1.2 (firstN (fun e => nearE e ek r) N (es.take t.2)).length ((firstN (fun e => nearE e ek r) N (es.take t.2)).flatMap Ent.cells)) es.length ((none, 0), 0) (by simp [firstN])
      ⟨rfl, Nat.zero_le _, hx2', by
        have hz : firstN (fun e => nearE e ek r) N (es.take 0) = [] := by simp [firstN]
        simp only [hz]
        exact RowN.nil _ _ _ _⟩ ?_
    rintro _ ⟨⟨pq, cq⟩, i⟩ w3 ⟨rfl, hi, hx3, hrow⟩ J hJ
    simp only at hi hrow hJ ⊢
    refine asS_i rfl (asI_i rfl (cond_split (fun hc2 => ?_) (fun hc2 => lv_i ?_)))
    · have hil : i < es.length := by
        have := of_decide_eq_true hc2
        omega
      have hget : es[i]? = some es[i] := List.getElem?_eq_getElem hil
      have hIe := hI _ (List.getElem_mem hil)
      have hsucc := firstN_succ (p := fun e => nearE e ek r) (n := N) hget
      generalize es[i] = e at hget hIe hsucc
      have hqlen : (firstN (fun e => nearE e ek r) N (es.take i)).length ≤ 64 := Nat.le_trans firstN_len (by omega)
      have ek1 : IntKind.wrap .i64 ((i : Int) + 1) = ((i + 1 : Nat) : Int) := by rw [wr64 (by omega) (by omega)]; omega
      refine jn_of (fun t w' => ∃ p' c', t = [.slice p' (firstN (fun e => nearE e ek r) N (es.take (i + 1))).length c'] ∧ Ext no w w' ∧ RowN w' w.heap.size 59 8 p' c' (firstN (fun e => nearE e ek r) N (es.take (i + 1))).length ((firstN (fun e => nearE e ek r) N (es.take (i + 1))).flatMap Ent.cells)) ?_ ?_
      · rintro _ w4 ⟨p', c', rfl, hx4, hr4⟩
        refine asS_i rfl ?_
        rw [ek1]
        exact hJ (es.length - (i + 1)) ((p', c'), i + 1) w4 (by omega) ⟨rfl, by simp only; omega, hx4, hr4⟩
      intro J2 hJ2
      rw [hsucc] at hJ2
      generalize firstN (fun e => nearE e ek r) N (es.take i) = q at hrow hJ2 hqlen
      refine Reads.atN (f := Ent.cells) Ent.cells_length (hr.ext hx3 fun _ _ h => h) rfl hget (by decide) fun a _ hca => ?_
      rw [Int.toNat_natCast]
      refine ld8c hca ?_
      have hS := St.start w3
      (refine hS.nw ?_; clear hS; intro r41 _ hS)
      refine St.put8 hS rfl e fun w5 hS => ?_
      refine jn_of (fun s w' => s = [.bool (decide (q.length < N) && nearE e ek r)] ∧ St w3 w' [(r41, e.cells, 59)]) ?_ ?_
      rotate_left
      · intro J3 hJ3
        refine hS.dw ?_
        intro w6 hS _
        refine cond_split (fun h => ?_) (fun h => hJ3 _ _ ⟨?_, hS⟩)
        · have h' : q.length < N := by have := of_decide_eq_true h; omega
          refine hS.ld 0 rfl rfl (asI_i rfl (hS.ldd 0 rfl rfl (asI_i rfl ?_)))
          refine Reads.atN (f := Ent.cells) Ent.cells_length (hr.ext (hx3.trans hS.ext) fun _ _ h => h) rfl hek (by decide) fun a2 _ hc2 => ?_
          rw [Int.toNat_natCast]
          have hx1 := hc2 1 (by decide)
          have hx2 := hc2 2 (by decide)
          refine ld_mk hx1 (asI_i rfl (ld_mk (by rw [add11]; exact hx2) (asI_i rfl ?_)))
          refine near_k hIe.2.1 hIe.2.2.1 hekI.2.1 hekI.2.2.1 hrI fun w7 hx7 => asB_i rfl (hJ3 _ _ ⟨?_, hS.to hx7⟩)
          rw [decide_eq_true h']
          rfl
        · have h' : ¬ q.length < N := by have := of_decide_eq_false h; omega
          rw [decide_eq_false h']
          rfl
      clear hS
      rintro _ w5 ⟨rfl, hS⟩
      refine asB_i rfl (cond_split (fun hb => ?_) (fun hb => hJ2 _ _ ⟨pq, cq, ?_, hx3.trans hS.ext, ?_⟩))
      · simp only [Bool.and_eq_true, decide_eq_true_eq] at hb
        refine St.ld8 hS 0 rfl ?_
        have hxx := hx3.trans hS.ext
        refine sE.app1 (vs := e.cells) (hrow.ext hS.ext fun _ _ h => h) hxx.size rfl e.one (le_maxLen (by omega)) (by omega) ?_
        intro p' c' w12 hr12 hE12 hM12
        have hx12 : Ext no w w12 := hxx.then hE12 fun k hk ⟨a, ha, hab⟩ => by
          have := (hrow.at ha).1
          omega
        refine asS_i rfl (hJ2 _ _ ⟨p', c', by rw [if_pos hb, List.length_append]; rfl, hx12, ?_⟩)
        rw [if_pos hb, List.length_append, List.flatMap_append]
        simpa using hr12
      · rw [if_neg (by simpa using hb), List.append_nil]
      · rw [if_neg (by simpa using hb), List.append_nil]
        exact hrow.ext hS.ext fun _ _ h => h
    · have hil : i = es.length := by
        have := of_decide_eq_false hc2
        omega
      subst hil
      rw [List.take_length] at hrow ⊢
      exact hK pq cq w3 hx3 hrow

/-- which views may be, by the document -/
theorem rview_k {w : World} {p : Option Addr} {c : Nat} {es : List Ent} (hr : Reads w p (es.flatMap Ent.cells)) (hI : ∀ e ∈ es, e.I) {K : Value → World → Prop} (hK : ∀ w', Ext no w w' → K (.bool (okV (-1) es)) w') :
    cl Tryd.prog 20 #[.slice p es.length c] w K := by
  apply F20_calls
  unfold F20
  refine cond_split (fun hbig => ?_) (fun hbig => lv_i ?_)
  · have hb : okV (-1) es = false := by
      cases hok : okV (-1) es with
      | false => rfl
      | true =>
        have h1 := okV_len hok (by decide)
        have h2 := of_decide_eq_true hbig
        omega
    have := hK w (Ext.refl _ _)
    rw [hb] at this
    exact this
  have h64 : es.length ≤ 64 := by
    have := of_decide_eq_false hbig
    omega
  refine lp_mk (fun i : Nat => [.int .i64 (i : Int)]) (fun z i w' => z = es.length - i ∧ i ≤ es.length ∧ okV (-1) es = okV (if i = 0 then -1 else Int.tmod (es.getD (i - 1) Ent.zero).h 64) (es.drop i) ∧ Ext no w w') es.length 0 rfl ⟨rfl, Nat.zero_le _, rfl, Ext.refl _ _⟩ ?_
  rintro _ i w1 ⟨rfl, hi, hok, hx⟩ J hJ
  refine asI_i rfl (cond_split (fun hc => ?_) (fun hc => ?_))
  · have hil : i < es.length := by
      have := of_decide_eq_true hc
      omega
    have hget : es[i]? = some es[i] := List.getElem?_eq_getElem hil
    have hIe := hI _ (List.getElem_mem hil)
    have hdrop : es.drop i = es[i] :: es.drop (i + 1) := List.drop_eq_getElem_cons hil
    have hgd : es.getD (i + 1 - 1) Ent.zero = es[i] := by rw [Nat.add_sub_cancel, List.getD_eq_getElem?_getD, hget]; rfl
    rw [hdrop] at hok
    generalize es[i] = e at hget hIe hok hgd
    have hrd := hr.ext hx fun _ _ h => h
    refine Reads.atN (f := Ent.cells) Ent.cells_length hrd rfl hget (by decide) fun a _ hca => ?_
    rw [Int.toNat_natCast]
    have hc0 := hca 0 (by decide)
    rw [Sx.add_zero'] at hc0
    refine ld_mk hc0 (asI_i rfl (lv_i ?_))
    refine Reads.atN (f := Ent.cells) Ent.cells_length hrd rfl hget (by decide) fun a _ hca => ?_
    refine ld8c hca (rright19_k (e := e) fun w2 hx2 => asI_i rfl (lv_i ?_))
    have hdiv : 64 ≤ e.h → IntKind.wrap .i64 (Int.tdiv e.h 64) = Int.tdiv e.h 64 := fun h => by
      have h1 := hIe.1
      obtain ⟨h1, h2⟩ := h1
      have : Int.tdiv e.h 64 = e.h / 64 := Int.tdiv_eq_ediv_of_nonneg (by omega)
      rw [this, wr64 (by omega) (by omega)]
    refine jn_of (fun s w' => s = [.bool (!(e.ok (if i = 0 then -1 else Int.tmod (es.getD (i - 1) Ent.zero).h 64)))] ∧ w' = w2) ?_ ?_
    rotate_left
    · intro J2 hJ2
      refine cond_split (fun h => hJ2 _ _ ⟨?_, rfl⟩) (fun h => cond_split (fun h2 => hJ2 _ _ ⟨?_, rfl⟩) (fun h2 => ?_))
      · have : ¬ e.rightE = 0 := by simpa using h
        simp [Ent.ok, this]
      · have : ¬ 64 ≤ e.h := by have := of_decide_eq_true h2; omega
        simp [Ent.ok, this]
      have h0 : e.rightE = 0 := by simpa using h
      have h64' : 64 ≤ e.h := by have := of_decide_eq_false h2; omega
      rw [hdiv h64']
      refine cond_split (fun h3 => hJ2 _ _ ⟨?_, rfl⟩) (fun h3 => cond_split (fun h4 => ?_) (fun h4 => hJ2 _ _ ⟨?_, rfl⟩))
      · have : ¬ Int.tdiv e.h 64 ≤ 1099511627776 := by have := of_decide_eq_true h3; omega
        simp [Ent.ok, this]
      · have hm : Int.tdiv e.h 64 ≤ 1099511627776 := by have := of_decide_eq_false h3; omega
        have hi0 : 0 < i := by have := of_decide_eq_true h4; omega
        have e1 : IntKind.wrap .i64 ((i : Int) - 1) = ((i - 1 : Nat) : Int) := by rw [wr64 (by omega) (by omega)]; omega
        rw [e1]
        have hget1 : es[i - 1]? = some es[i - 1] := List.getElem?_eq_getElem (by omega)
        have hgd1 : es.getD (i - 1) Ent.zero = es[i - 1] := by rw [List.getD_eq_getElem?_getD, hget1]; rfl
        rw [if_neg (by omega), hgd1] at hJ2
        refine Reads.atN (f := Ent.cells) Ent.cells_length (hrd.ext hx2 fun _ _ h => h) rfl hget1 (by decide) fun a _ hca => ?_
        rw [Int.toNat_natCast]
        have hc0 := hca 0 (by decide)
        rw [Sx.add_zero'] at hc0
        refine ld_mk hc0 (asI_i rfl (hJ2 _ _ ⟨?_, rfl⟩))
        generalize es[i - 1] = f
        simp only [Ent.ok, h0, h64', hm, decide_true, Bool.true_and, List.cons.injEq, Value.bool.injEq, and_true]
        by_cases hlt : Int.tmod f.h 64 < Int.tmod e.h 64
        · simp [hlt]
        · simp [hlt]; omega
      · have hm : Int.tdiv e.h 64 ≤ 1099511627776 := by have := of_decide_eq_false h3; omega
        have hi0 : i = 0 := by have := of_decide_eq_false h4; omega
        have hmod : Int.tmod e.h 64 = e.h % 64 := Int.tmod_eq_emod_of_nonneg (by omega)
        have hlt : -1 < Int.tmod e.h 64 := by rw [hmod]; omega
        rw [if_pos hi0]
        simp [Ent.ok, h0, h64', hm, hlt]
    rintro _ w2 ⟨rfl, rfl⟩
    refine asB_i rfl (cond_split (fun hb => ?_) (fun hb => lv_i ?_))
    · have hb' : e.ok (if i = 0 then -1 else Int.tmod (es.getD (i - 1) Ent.zero).h 64) = false := by simpa using hb
      have := hK w2 (hx.trans hx2)
      rw [hok, okV, hb'] at this
      exact this
    · have hb' : e.ok (if i = 0 then -1 else Int.tmod (es.getD (i - 1) Ent.zero).h 64) = true := by simpa using hb
      have ei : IntKind.wrap .i64 ((i : Int) + 1) = ((i + 1 : Nat) : Int) := by rw [wr64 (by omega) (by omega)]; omega
      rw [ei]
      refine hJ (es.length - (i + 1)) (i + 1) _ (by omega) ⟨rfl, by omega, ?_, hx.trans hx2⟩
      rw [if_neg (by omega), hgd, hok, okV, hb']
      rfl
  · have hil : i = es.length := by
      have := of_decide_eq_false hc
      omega
    subst hil
    have := hK w1 hx
    rw [hok, List.drop_length] at this
    exact this
end Go.Proofs.YtfnepdppkmjboaaDoor

/- SnNc: those near one by the document; entities that are lent, and kept. Conditions: those of each theorem, on its arguments. -/
namespace Go.Proofs.YtfnepdppkmjboaaDoor
open Go Go.Sx Go.Fp
attribute [local irreducible] jn lv ld st nw asI asB asP asS asY asM asF asA asT lp rn ru rq cl dw dr bnd bn2 nz nn hd hr so eqW
attribute [local irreducible] callOk

theorem rn_makeS {P : Program} {t e : TypeId} {i : TypeInfo} {z : Value} (ht : P.underlying t = some (.slice e)) (hi : P.info? e = some i) (hz : i.zero = some z)
    {w : World} {kl kc : IntKind} {n c : Nat} (hnc : n ≤ c) (hbytes : i.bytes * c ≤ 281474976710656) (h63 : c ≤ maxLen) {K : Value → World → Prop}
    (hK : K (.slice (some ⟨w.heap.size, 0, none⟩) n c) (w.alloc (.cells (madeCells z.cells (c * i.size)) e))) :
    rn P (Instr.makeSlice t (.int kl (n : Int)) (.int kc (c : Int))) w K := by
  have h63' : (c : Int) ≤ 9223372036854775807 := by
    simp only [maxLen] at h63
    omega
  have hb' : (i.bytes : Int) * (c : Int) ≤ 281474976710656 := by
    have h : ((i.bytes * c : Nat) : Int) ≤ 281474976710656 := by omega
    rwa [Int.natCast_mul] at h
  have hr := run_make (P := P) w t e i z ht hi hz kl kc n c (by omega) (by omega) hb' h63'
  simp only [Int.toNat_natCast] at hr
  exact rn_mk hr hK

/-- a copy to the head of a block, elements of whatever size -/
theorem rn_copyS {P : Program} {t ty e : TypeId} {sz : Nat} (ht : P.underlying t = some (.slice e)) (hs : (P.info? e).map (·.size) = some sz)
    {w : World} {g : Nat} {cur : Array Value} {et : TypeId} (hg : w.heap[g]? = some (.cells cur et (0, 0))) {n c1 c' : Nat} {q : Option Addr} {news : List Value} (hsrc : Reads w q news) (hm : news.length = n * sz) (hfit : news.length ≤ cur.size)
    (h1 : ∀ u ∈ news, one u = true) {K : Value → World → Prop}
    (hK : K (.int .i64 (n : Int)) (w.setRow g (news ++ cur.toList.drop news.length).toArray)) (h0 : news = [] → K (.int .i64 (n : Int)) w) :
    rn P (Builtin.copy_ #[t, t] ty #[.slice (some ⟨g, 0, none⟩) n c1, .slice q n c']) w K := by
  have h1' : ∀ u ∈ news, u.oneCell' = true := fun u hu => one_of (h1 u hu)
  cases hq : P.info? e with
  | none => simp [hq] at hs
  | some i =>
    have hi : i.size = sz := by simpa [hq] using hs
    rcases hsrc with hx | ⟨b, o, rfl, hc⟩
    · subst hx
      have hnz : n * i.size = 0 := by rw [hi, ← hm]; rfl
      have hr : (Builtin.copy_ #[t, t] ty #[.slice (some ⟨g, 0, none⟩) n c1, .slice q n c']).run P w = .ok (.int .i64 (n : Int)) w := by
        cases q <;> simp [Builtin.copy_, run_underlying ht, Builtin.lenOf, Builtin.firstCells, sizeOf, typeInfo, hq, storeCells, loadCells, loadCellsFrom, hnz, goInt]
      exact rn_mk hr (h0 rfl)
    · have hl := run_loadCells_list (P := P) w ⟨b, o, none⟩ news (fun j v hv => by rw [add_mk]; exact hc j v hv)
      have hst := run_storeCells_at P g 0 et news 0 cur w hg (by simpa using hfit) h1'
      have hnl : n * i.size = news.length := by rw [hi, hm]
      have hr : (Builtin.copy_ #[t, t] ty #[.slice (some ⟨g, 0, none⟩) n c1, .slice (some ⟨b, o, none⟩) n c']).run P w = .ok (.int .i64 (n : Int)) (w.setRow g (news ++ cur.toList.drop news.length).toArray) := by
        simp [Builtin.copy_, run_underlying ht, Builtin.lenOf, Builtin.firstCells, sizeOf, typeInfo, hq, hnl, hl, hst, goInt]
      exact rn_mk hr hK

theorem dr_bnd_le {p : Option Addr} {i : Int} {n m : Nat} {K : Addr → Prop} (hi : i < m) (h : dr p fun a => bnd i n (K a)) : dr p fun a => bnd i m (K a) := by
  cases p with
  | none => unfold dr at h; exact h.elim
  | some a =>
    unfold dr at h ⊢
    unfold bnd at h ⊢
    exact ⟨⟨h.1.1, hi⟩, h.2⟩


def mark : Ent := ⟨-77, 0, 0, 0, 0, 0, 0, 0⟩
def mark7 : Ent := ⟨-7, 0, 0, 0, 0, 0, 0, 0⟩

set_option maxRecDepth 100000 in
theorem elent_k {w : World} {q : Option Addr} {n cq : Nat} {es : List Ent} (hr : Reads w q (es.flatMap Ent.cells)) (hn : es.length = n) (hl : n * 64 ≤ 140737488351232) {K : Value → World → Prop}
    (hK : ∀ g w', Bn w no w w' [(g, (es ++ [mark]).flatMap Ent.cells, 59)] emp → K (.slice (some ⟨g, 0, none⟩) n (n + 1)) w') :
    cl Tryd.prog 18 #[.slice q n cq] w K := by
  subst hn
  apply F18_calls
  unfold F18
  have e1 : IntKind.wrap .i64 ((es.length : Int) + 1) = ((es.length + 1 : Nat) : Int) := by rw [wr64 (by omega) (by omega)]; omega
  rw [e1]
  refine rn_makeS (e := 59) rfl rfl rfl (by omega) ?_ (le_maxLen (by omega)) ?_
  · show 64 * _ ≤ _
    omega
  have ez : (madeCells (Value.cells (.agg Ent.zero.cells.toArray)) ((es.length + 1) * 8)).toList = List.replicate ((es.length + 1) * 8) (.int .i64 0) := by
    apply List.ext_getElem?
    intro j
    by_cases hj : j < (es.length + 1) * 8
    · have h3 : j % 8 = 0 ∨ j % 8 = 1 ∨ j % 8 = 2 ∨ j % 8 = 3 ∨ j % 8 = 4 ∨ j % 8 = 5 ∨ j % 8 = 6 ∨ j % 8 = 7 := by omega
      rcases h3 with h | h | h | h | h | h | h | h <;> simp [madeCells, hj, Value.cells, Ent.zero, Ent.cells, h]
    · simp [madeCells, hj]
  show asS _ _
  refine asS_i rfl ?_
  have hb := new_blk w (.cells (madeCells (Value.cells (.agg Ent.zero.cells.toArray)) ((es.length + 1) * 8)) 59)
  have hsz : (madeCells (Value.cells (.agg Ent.zero.cells.toArray)) ((es.length + 1) * 8)).size = (es.length + 1) * 8 := size_madeCells _ _
  have hx1 : Ext no w (w.alloc (.cells (madeCells (Value.cells (.agg Ent.zero.cells.toArray)) ((es.length + 1) * 8)) 59)) := Ext.alloc _ _
  -- behind the copy: the entities, and one of zeros
  have tail : ∀ w', Bn w no w w' [(w.heap.size, (es ++ [Ent.zero]).flatMap Ent.cells, 59)] emp →
      bn2 ((es.length + 1 : Nat) : Int) (es.length + 1) (dr (some ⟨w.heap.size, 0, none⟩) fun a9 => (bnd (es.length : Int) (Int.toNat ((es.length + 1 : Nat) : Int)) (st w' (Addr.add a9 (Int.toNat (es.length : Int) * 8)) (.int .i64 (-77 : Int)) fun w10 => (st w10 (Addr.add (Addr.add a9 (Int.toNat (es.length : Int) * 8)) 1) (.int .i64 (0 : Int)) fun w11 => (st w11 (Addr.add (Addr.add a9 (Int.toNat (es.length : Int) * 8)) 2) (.int .i64 (0 : Int)) fun w12 => (st w12 (Addr.add (Addr.add a9 (Int.toNat (es.length : Int) * 8)) 3) (.int .i64 (0 : Int)) fun w13 =>
        (st w13 (Addr.add (Addr.add a9 (Int.toNat (es.length : Int) * 8)) 4) (.int .i64 (0 : Int)) fun w14 => (st w14 (Addr.add (Addr.add a9 (Int.toNat (es.length : Int) * 8)) 5) (.int .i64 (0 : Int)) fun w15 => (st w15 (Addr.add (Addr.add a9 (Int.toNat (es.length : Int) * 8)) 6) (.int .i64 (0 : Int)) fun w16 => (st w16 (Addr.add (Addr.add a9 (Int.toNat (es.length : Int) * 8)) 7) (.int .i64 (0 : Int)) fun w17 => K (.slice (some ⟨w.heap.size, 0, none⟩) es.length (es.length + 1)) w17)))))))))) := by
    intro w' hS
    refine bn2_mk (by omega) (by omega) (dr_i (bnd_mk (by omega) (by rw [Int.toNat_natCast]; omega) ?_))
    refine Bn.tst8 hS 0 rfl (p := es.length) (by simp) mark (by rw [Int.toNat_natCast, add_mk, Nat.zero_add]) fun w2 hS => hK _ _ ?_
    have : (es ++ [Ent.zero]).set es.length mark = es ++ [mark] := by
      rw [List.set_append_right _ _ (Nat.le_refl _), Nat.sub_self]
      rfl
    rw [this] at hS
    exact hS
  have hfl := fl_lenN (f := Ent.cells) Ent.cells_length es
  have hz8 : Ent.zero.cells = List.replicate 8 (.int .i64 0) := rfl
  have hflz : (es ++ [Ent.zero]).flatMap Ent.cells = es.flatMap Ent.cells ++ List.replicate 8 (.int .i64 0) := by
    rw [List.flatMap_append]
    rfl
  refine rn_copyS (sz := 8) rfl rfl hb (hr.ext hx1 fun _ _ h => h) hfl (by rw [hsz, hfl]; omega) (ents_one es) ?_ ?_
  · refine asI_i rfl (tail _ ?_)
    have hx2 : Ext no w ((w.alloc (.cells (madeCells (Value.cells (.agg Ent.zero.cells.toArray)) ((es.length + 1) * 8)) 59)).setRow w.heap.size (es.flatMap Ent.cells ++ (madeCells (Value.cells (.agg Ent.zero.cells.toArray)) ((es.length + 1) * 8)).toList.drop (es.flatMap Ent.cells).length).toArray) :=
      ⟨hx1.os, hx1.tape, hx1.output, by simp [World.setRow], fun k hk _ => by
        rw [setRow_other _ _ _ _ (by omega)]
        exact hx1.block k hk (fun h => h)⟩
    refine (Bn.fresh w).add hx2 (Nat.le_refl _) ?_
    rw [setRow_heap _ _ _ _ _ _ hb, ez, List.drop_replicate, hfl, show (es.length + 1) * 8 - es.length * 8 = 8 by omega, hflz]
  · intro h0
    have hz : es.length = 0 := by
      have := congrArg List.length h0
      rw [hfl, List.length_nil] at this
      omega
    have hes : es = [] := List.eq_nil_of_length_eq_zero hz
    refine asI_i rfl (tail _ ((Bn.fresh w).add hx1 (Nat.le_refl _) ?_))
    rw [hb]
    have : (madeCells (Value.cells (.agg Ent.zero.cells.toArray)) ((es.length + 1) * 8)) = ((es ++ [Ent.zero]).flatMap Ent.cells).toArray := by
      apply Array.toList_inj.1
      rw [ez, hflz, hes]
      rfl
    rw [this]

section
variable {w00 : World} {M : Nat → Prop} {wa w : World} {L : List (Nat × List Value × TypeId)} {J : (Nat → Prop) → World → Prop}
theorem ekept_b {g : Nat} {es : List Ent} (hS : Bn w00 M wa w ((g, (es ++ [mark]).flatMap Ent.cells, 59) :: L) J) (hI : ∀ e ∈ es, e.I) {q : Option Addr} {n cq : Nat} (hq : Reads w q (es.flatMap Ent.cells)) (hn : es.length = n) (hl : n * 64 ≤ 140737488351232) {K : Value → World → Prop}
    (hK : ∀ T w', Bn w00 M wa w' ((g, T, 59) :: L) J → K (.bool true) w') :
    cl Tryd.prog 22 #[.slice (some ⟨g, 0, none⟩) n (n + 1), .slice q n cq] w K := by
  subst hn
  apply F22_calls
  unfold F22
  have hrg : Reads w (some ⟨g, 0, none⟩) (es.flatMap Ent.cells) := by
    refine .inr ⟨g, 0, rfl, fun i v hv => ?_⟩
    rw [Nat.zero_add]
    refine hS.cell 0 rfl ?_
    have hi := (List.getElem?_eq_some_iff.1 hv).1
    rw [List.flatMap_append, List.getElem?_append_left hi]
    exact hv
  refine rsame_k hI hrg hq rfl rfl (by omega) fun w1 hx1 => asB_i rfl ?_
  replace hS := hS.to hx1
  have e1 : IntKind.wrap .i64 ((es.length : Int) + 1) = ((es.length + 1 : Nat) : Int) := by rw [wr64 (by omega) (by omega)]; omega
  rw [e1]
  refine jn_of (fun s w' => s = [.bool false] ∧ w' = w1) ?_ ?_
  rotate_left
  · intro J2 hJ2
    refine cond_f rfl (bn2_mk (by omega) (by omega) (dr_i (bnd_mk (by omega) (by rw [Int.toNat_natCast]; omega) ?_)))
    rw [Int.toNat_natCast]
    have hg : (es ++ [mark])[es.length]? = some mark := by simp
    exact ld_mk (Bn.tcell0 hS 0 rfl hg (by rw [add_mk, Nat.zero_add])) (asI_i rfl (hJ2 _ _ ⟨rfl, rfl⟩))
  rintro _ w1 ⟨rfl, rfl⟩
  refine asB_i rfl (cond_f rfl (lv_i ?_))
  refine lp_mk (fun i : Nat => [.int .i64 (i : Int)]) (fun z i w' => z = es.length - i ∧ i ≤ es.length ∧ ∃ T : List Ent, T.length = es.length + 1 ∧ Bn w00 M wa w' ((g, T.flatMap Ent.cells, 59) :: L) J) es.length 0 rfl ⟨rfl, Nat.zero_le _, _, by simp, hS⟩ ?_
  clear hS
  rintro _ i w2 ⟨rfl, hi, T, hT, hS⟩ J2 hJ2
  refine asI_i rfl (cond_split (fun hc => ?_) (fun hc => hK _ _ hS))
  have hil : i < es.length := by
    have := of_decide_eq_true hc
    omega
  refine dr_i (bnd_mk (by omega) (by omega) ?_)
  refine Bn.tst8 hS 0 rfl (p := i) (by omega) mark7 (by rw [Int.toNat_natCast, add_mk, Nat.zero_add]) fun w3 hS => lv_i ?_
  have ei : IntKind.wrap .i64 ((i : Int) + 1) = ((i + 1 : Nat) : Int) := by rw [wr64 (by omega) (by omega)]; omega
  rw [ei]
  exact hJ2 (es.length - (i + 1)) (i + 1) _ (by omega) ⟨rfl, by omega, T.set i mark7, by rw [List.length_set]; exact hT, hS⟩
end

def atV (es : List Ent) (me : Int) (j : Nat) : Int := match (es.drop j).findIdx? (meP me) with
  | some k => ((j + k : Nat) : Int)
  | none => -1
theorem atV_step {es : List Ent} {me : Int} {j : Nat} {e : Ent} (h : es[j]? = some e) : atV es me j = if e.h == me then (j : Int) else atV es me (j + 1) := by
  obtain ⟨hl, rfl⟩ := List.getElem?_eq_some_iff.1 h
  unfold atV
  rw [List.drop_eq_getElem_cons hl, List.findIdx?_cons]
  by_cases hp : (es[j].h == me) = true
  · have hm : meP me es[j] = true := hp
    rw [if_pos hp, if_pos hm]
    rfl
  · have hm : ¬ meP me es[j] = true := hp
    rw [if_neg hp, if_neg hm]
    cases (es.drop (j + 1)).findIdx? (meP me) with
    | none => rfl
    | some k =>
      simp only [Option.map_some]
      congr 1
      omega

set_option maxHeartbeats 3200000 in
theorem rrestrict_k {w : World} {p : Option Addr} {c : Nat} {es : List Ent} (hr : Reads w p (es.flatMap Ent.cells)) (hl : es.length ≤ 1099511627776000) (hI : ∀ e ∈ es, e.I) {me r n : Int} (hrI : I64 r) {K : Value → World → Prop}
    (hK : ∀ p' c' w', Ext no w w' → RowN w' w.heap.size 59 8 p' c' (restO es me r n).length ((restO es me r n).flatMap Ent.cells) → K (.tuple #[.slice p' (restO es me r n).length c', .int .i64 (restE es me r n)]) w') :
    cl Tryd.prog 23 #[.slice p es.length c, .int .i64 me, .int .i64 r, .int .i64 n] w K := by
  apply F23_calls
  unfold F23
  refine lv_i ?_
  refine jn_of (fun s w' => s = [.bool (decide (r < 0 ∨ n < 1 ∨ 64 < n))] ∧ w' = w) ?_ ?_
  rotate_left
  · intro J hJ
    refine cond_split (fun h => hJ _ _ ⟨?_, rfl⟩) (fun h => cond_split (fun h2 => hJ _ _ ⟨?_, rfl⟩) (fun h2 => hJ _ _ ⟨?_, rfl⟩))
    · have h' := of_decide_eq_true h
      rw [decide_eq_true (.inl h')]
    · have h' := of_decide_eq_true h2
      rw [decide_eq_true (.inr (.inl h'))]
    · have h' := of_decide_eq_false h
      have h2' := of_decide_eq_false h2
      congr 2
      apply decide_eq_decide.2
      omega
  rintro _ w ⟨rfl, rfl⟩
  refine asB_i rfl (cond_split (fun hb => lv_i ?_) (fun hb => lv_i ?_))
  · have hb' := of_decide_eq_true hb
    have e1 : restO es me r n = [] := by unfold restO; rw [if_pos hb']
    have e2 : restE es me r n = 1 := by unfold restE; rw [if_pos hb']
    have := hK none 0 _ (Ext.refl _ _)
    rw [e1, e2] at this
    exact this (RowN.nil _ _ _ _)
  have hb' := of_decide_eq_false hb
  have e0 : IntKind.wrap .i64 ((es.length : Int) - 1) = (es.length : Int) - 1 := wr64 (by omega) (by omega)
  rw [e0]
  refine lv_i (lp_mk (fun j : Nat => [.int .i64 (atV es me j), .int .i64 ((j : Int) - 1)]) (fun z j w' => z = j ∧ j ≤ es.length ∧ w' = w) es.length es.length ?_ ⟨rfl, Nat.le_refl _, rfl⟩ ?_)
  · have : atV es me es.length = -1 := by unfold atV; rw [List.drop_length]; rfl
    rw [this]
  rintro j _ w ⟨rfl, hj, rfl⟩ J hJ
  refine asI_i rfl (asI_i rfl (cond_split (fun hc => ?_) (fun hc => ?_)))
  · have hj0 : 0 < j := by
      have := of_decide_eq_true hc
      omega
    obtain ⟨i, rfl⟩ : ∃ i, j = i + 1 := ⟨j - 1, by omega⟩
    have ei : ((i + 1 : Nat) : Int) - 1 = (i : Int) := by omega
    rw [ei]
    have hil : i < es.length := by omega
    have hget : es[i]? = some es[i] := List.getElem?_eq_getElem hil
    generalize es[i] = e at hget
    have hstep := atV_step (me := me) hget
    refine jn_of (fun s w' => s = [.int .i64 (atV es me i)] ∧ w' = w) ?_ ?_
    · rintro _ w ⟨rfl, rfl⟩
      refine asI_i rfl (lv_i ?_)
      have e1 : IntKind.wrap .i64 ((i : Int) - 1) = (i : Int) - 1 := wr64 (by omega) (by omega)
      rw [e1]
      exact hJ i i _ (by omega) ⟨rfl, by omega, rfl⟩
    intro J2 hJ2
    refine Reads.atN (f := Ent.cells) Ent.cells_length hr rfl hget (by decide) fun a _ hca => ?_
    rw [Int.toNat_natCast]
    have hc0 := hca 0 (by decide)
    rw [Sx.add_zero'] at hc0
    refine ld_mk hc0 (asI_i rfl (cond_split (fun h => lv_i (hJ2 _ _ ⟨?_, rfl⟩)) (fun h => hJ2 _ _ ⟨?_, rfl⟩)))
    · rw [hstep, if_pos h]
    · rw [hstep, if_neg (by simpa using h)]
  obtain rfl : j = 0 := by
    have := of_decide_eq_false hc
    omega
  have hat : atV es me 0 = match es.findIdx? (meP me) with | some k => (k : Int) | none => -1 := by
    unfold atV
    rw [List.drop_zero]
    cases es.findIdx? (meP me) with
    | none => rfl
    | some k => simp
  rw [hat]
  cases hfi : es.findIdx? (meP me) with
  | none =>
    have e1 : restO es me r n = [] := by unfold restO; rw [if_neg hb', hfi]
    have e2 : restE es me r n = 190 := by unfold restE; rw [if_neg hb', hfi]; rfl
    refine cond_t (by simp) (lv_i ?_)
    have := hK none 0 _ (Ext.refl _ _)
    rw [e1, e2] at this
    exact this (RowN.nil _ _ _ _)
  | some k =>
    refine cond_f (by simp) (lv_i ?_)
    obtain ⟨ek, hek, -⟩ := findIdx_lt hfi
    have hekI := hI _ (List.mem_of_getElem? hek)
    have hgd : es.getD k Ent.zero = ek := by rw [List.getD_eq_getElem?_getD, hek]; rfl
    have e1 : restO es me r n = firstN (fun e => nearE e ek r) n.toNat es := by unfold restO; rw [if_neg hb', hfi]; simp only [hgd]
    have e2 : restE es me r n = 0 := by unfold restE; rw [if_neg hb', hfi]; rfl
    rw [e1, e2] at hK
    obtain ⟨N, hN⟩ : ∃ N : Nat, n = (N : Int) := ⟨n.toNat, by omega⟩
    subst hN
    rw [Int.toNat_natCast] at hK
    refine lp_mk (fun t : (Option Addr × Nat) × Nat => [.slice t.1.1 (firstN (fun e => nearE e ek r) N (es.take t.2)).length t.1.2, .int .i64 (t.2 : Int)]) (fun z t w' => z = es.length - t.2 ∧ t.2 ≤ es.length ∧ Ext no w w' ∧ RowN w' w.heap.size 59 8 t.1.1 t.1.2 (firstN (fun e => nearE e ek r) N (es.take t.2)).length ((firstN (fun e => nearE e ek r) N (es.take t.2)).flatMap Ent.cells)) es.length ((none, 0), 0) (by simp [firstN])
      ⟨rfl, Nat.zero_le _, Ext.refl _ _, by
        have hz : firstN (fun e => nearE e ek r) N (es.take 0) = [] := by simp [firstN]
        simp only [hz]
        exact RowN.nil _ _ _ _⟩ ?_
    rintro _ ⟨⟨pq, cq⟩, i⟩ w3 ⟨rfl, hi, hx3, hrow⟩ J hJ
    simp only at hi hrow hJ ⊢
    refine asS_i rfl (asI_i rfl (cond_split (fun hc2 => ?_) (fun hc2 => lv_i ?_)))
    · have hil : i < es.length := by
        have := of_decide_eq_true hc2
        omega
      have hget : es[i]? = some es[i] := List.getElem?_eq_getElem hil
      have hIe := hI _ (List.getElem_mem hil)
      have hsucc := firstN_succ (p := fun e => nearE e ek r) (n := N) hget
      generalize es[i] = e at hget hIe hsucc
      have hqlen : (firstN (fun e => nearE e ek r) N (es.take i)).length ≤ 64 := Nat.le_trans firstN_len (by omega)
      have ek1 : IntKind.wrap .i64 ((i : Int) + 1) = ((i + 1 : Nat) : Int) := by rw [wr64 (by omega) (by omega)]; omega
      refine jn_of (fun t w' => ∃ p' c', t = [.slice p' (firstN (fun e => nearE e ek r) N (es.take (i + 1))).length c'] ∧ Ext no w w' ∧ RowN w' w.heap.size 59 8 p' c' (firstN (fun e => nearE e ek r) N (es.take (i + 1))).length ((firstN (fun e => nearE e ek r) N (es.take (i + 1))).flatMap Ent.cells)) ?_ ?_
      · rintro _ w4 ⟨p', c', rfl, hx4, hr4⟩
        refine asS_i rfl (lv_i ?_)
        rw [ek1]
        exact hJ (es.length - (i + 1)) ((p', c'), i + 1) w4 (by omega) ⟨rfl, by simp only; omega, hx4, hr4⟩
      intro J2 hJ2
      rw [hsucc] at hJ2
      generalize firstN (fun e => nearE e ek r) N (es.take i) = q at hrow hJ2 hqlen
      refine dw_mk ?_
      have hxd : Ext no w w3.drew := hx3.trans (Ext.drew w3)
      have hrowd := hrow.ext (Ext.drew w3) fun _ _ h => h
      refine Reads.atN (f := Ent.cells) Ent.cells_length (hr.ext hxd fun _ _ h => h) rfl hget (by decide) fun a _ hca => ?_
      rw [Int.toNat_natCast]
      refine ld_mk (hca 1 (by decide)) (asI_i rfl (ld_mk (by rw [add11]; exact hca 2 (by decide)) (asI_i rfl ?_)))
      refine Reads.atN (f := Ent.cells) Ent.cells_length (hr.ext hxd fun _ _ h => h) rfl hek (by decide) fun a2 _ hc2 => ?_
      rw [Int.toNat_natCast]
      refine ld_mk (hc2 1 (by decide)) (asI_i rfl (ld_mk (by rw [add11]; exact hc2 2 (by decide)) (asI_i rfl ?_)))
      refine rnear_k hIe.2.1 hIe.2.2.1 hekI.2.1 hekI.2.2.1 hrI fun w7 hx7 => asB_i rfl ?_
      have hx37 : Ext no w w7 := hxd.trans hx7
      have hrow7 := hrowd.ext hx7 fun _ _ h => h
      refine jn_of (fun s w' => s = [.bool (decide (q.length < N) && nearE e ek r)] ∧ w' = w7) ?_ ?_
      rotate_left
      · intro J3 hJ3
        refine cond_split (fun h => hJ3 _ _ ⟨?_, rfl⟩) (fun h => hJ3 _ _ ⟨?_, rfl⟩)
        · have h' : nearE e ek r = true := h
          rw [h', Bool.and_true]
          congr 2
          apply decide_eq_decide.2
          omega
        · have h' : nearE e ek r = false := h
          rw [h', Bool.and_false]
      rintro _ w7 ⟨rfl, rfl⟩
      refine asB_i rfl (cond_split (fun hb => ?_) (fun hb => hJ2 _ _ ⟨pq, cq, ?_, hx37, ?_⟩))
      · simp only [Bool.and_eq_true, decide_eq_true_eq] at hb
        refine Reads.atN (f := Ent.cells) Ent.cells_length (hr.ext hx37 fun _ _ h => h) rfl hget (by decide) fun a _ hca => ?_
        refine ld8c hca ?_
        refine sE.app1 (vs := e.cells) hrow7 hx37.size rfl e.one (le_maxLen (by omega)) (by omega) ?_
        intro p' c' w12 hr12 hE12 hM12
        have hx12 : Ext no w w12 := hx37.then hE12 fun k hk ⟨a, ha, hab⟩ => by
          have := (hrow.at ha).1
          omega
        refine asS_i rfl (hJ2 _ _ ⟨p', c', by rw [if_pos hb, List.length_append]; rfl, hx12, ?_⟩)
        rw [if_pos hb, List.length_append, List.flatMap_append]
        simpa using hr12
      · rw [if_neg (by simpa using hb), List.append_nil]
      · rw [if_neg (by simpa using hb), List.append_nil]
        exact hrow7
    · have hil : i = es.length := by
        have := of_decide_eq_false hc2
        omega
      subst hil
      rw [List.take_length] at hrow ⊢
      exact hK pq cq w3 hx3 hrow
end Go.Proofs.YtfnepdppkmjboaaDoor

/- SnL6: who is near whom, and which views may be (SnapNear); who is told of is near (SnapInside): the walks and the plain law. Conditions: those of each theorem, on its arguments. -/
namespace Go.Proofs.YtfnepdppkmjboaaDoor
open Go Go.Sx Go.Fp
attribute [local irreducible] jn lv ld st nw asI asB asP asS asY asM asF asA asT lp rn ru rq cl dw dr bnd bn2 nz nn hd hr so eqW
attribute [local irreducible] callOk

theorem restO_len (es : List Ent) (me r n : Int) : (restO es me r n).length ≤ 64 := by
  unfold restO
  split
  · simp
  · split
    · rename_i h _ _
      exact Nat.le_trans firstN_len (by omega)
    · simp
theorem restO_I {es : List Ent} (hI : ∀ e ∈ es, e.I) {me r n : Int} : ∀ e ∈ restO es me r n, e.I := by
  intro e he
  unfold restO at he
  split at he
  · cases he
  · split at he
    · exact hI e (firstN_mem he)
    · cases he

set_option maxHeartbeats 3200000 in
theorem snapNear_law (W : World) (hp : Pts W) (a0 : Option Addr) (len0 cap0 : Nat) (z0 : List (List Value)) (R0 : Reads W a0 z0.flatten) (L0 : z0.length = len0) (F0 : ∀ c ∈ z0, FitsAll [.int .i64, .int .i64, .int .i64, .int .i64, .int .i64, .int .i64, .int .i64, .int .i64] c) (Y0 : len0 * 64 ≤ 140737488351232)
    (me : Int) (_wm : (Lit.int .i64 me).wf = true) (r : Int) (wr : (Lit.int .i64 r).wf = true) (n : Int) (_wn : (Lit.int .i64 n).wf = true) :
    cl Tryd.prog 8 #[.slice a0 len0 cap0, .int .i64 me, .int .i64 r, .int .i64 n] W fun v w' => v = .bool true ∧ Ext no W w' := by
  obtain ⟨es, hz, hl, hI⟩ := ents_of rfl F0
  rw [hz] at R0
  rw [L0] at hl
  clear hz L0 F0
  subst hl
  have hrI : I64 r := bounds_i64 wr
  apply F8_calls
  unfold F8
  refine awake_k hp fun w1 hx1 => asB_i rfl ?_
  refine elent_k (R0.ext hx1 fun _ _ h => h) rfl Y0 fun g w2 hS2 => asS_i rfl ?_
  have hS : Bn W no W w2 [(g, (es ++ [mark]).flatMap Ent.cells, 59)] emp := by
    have hb := (hS2.kn (g, (es ++ [mark]).flatMap Ent.cells, 59) (by simp))
    exact ((Bn.fresh W).to hx1).add hS2.all hb.2 hb.1
  clear hS2
  have hin : ∀ {w'}, Bn W no W w' [(g, (es ++ [mark]).flatMap Ent.cells, 59)] emp → Reads w' (some ⟨g, 0, none⟩) (es.flatMap Ent.cells) := fun hS => by
    refine .inr ⟨g, 0, rfl, fun i v hv => ?_⟩
    rw [Nat.zero_add]
    refine hS.cell 0 rfl ?_
    have hi := (List.getElem?_eq_some_iff.1 hv).1
    rw [List.flatMap_append, List.getElem?_append_left hi]
    exact hv
  refine restrict_k (hin hS) (by omega) hI hrI fun p3 c3 w3 hx3 hrow3 => ?_
  have hS3 := hS.to hx3
  have hSr := hS.bornRow hx3 hrow3
  clear hS
  refine asT_i rfl rfl (asS_i rfl (asI_i rfl (lv_i ?_)))
  refine rview_k (R0.ext hSr.all fun _ _ h => h) hI fun w4 hx4 => asB_i rfl ?_
  replace hSr := hSr.to hx4
  replace hS3 := hS3.to hx4
  refine vright_k (hin hS3) rfl (by omega) hI fun w5 hx5 => asI_i rfl (lv_i ?_)
  replace hSr := hSr.to hx5
  refine ekept_b hSr hI (R0.ext hSr.all fun _ _ h => h) rfl Y0 fun T w6 hSr => asB_i rfl ?_
  refine rrestrict_k (R0.ext hSr.all fun _ _ h => h) (by omega) hI hrI fun p7 c7 w7 hx7 hrow7 => ?_
  replace hSr := hSr.to hx7
  refine asT_i rfl rfl (asS_i rfl (asI_i rfl (lv_i ?_)))
  have h64 := restO_len es me r n
  refine rsame_k (restO_I hI) hSr.rrow.reads hrow7.reads rfl rfl (by omega) fun w8 hx8 => asB_i rfl ?_
  replace hSr := hSr.to hx8
  refine jn_mk (cond_t rfl (cond_t rfl (cond_t rfl (cond_t (by simp) ?_))))
  cases hok : okV (-1) es with
  | true => exact cond_t (by simp) (cond_t rfl (asB_i rfl ⟨rfl, hSr.all⟩))
  | false => exact cond_t (by simp) (cond_f rfl (asB_i rfl ⟨rfl, hSr.all⟩))

set_option maxHeartbeats 3200000 in
theorem snapInside_law (W : World) (hp : Pts W) (a0 : Option Addr) (len0 cap0 : Nat) (z0 : List (List Value)) (R0 : Reads W a0 z0.flatten) (L0 : z0.length = len0) (F0 : ∀ c ∈ z0, FitsAll [.int .i64, .int .i64, .int .i64, .int .i64, .int .i64, .int .i64, .int .i64, .int .i64] c) (Y0 : len0 * 64 ≤ 140737488351232)
    (me : Int) (_wm : (Lit.int .i64 me).wf = true) (r : Int) (wr : (Lit.int .i64 r).wf = true) (n : Int) (_wn : (Lit.int .i64 n).wf = true) :
    cl Tryd.prog 9 #[.slice a0 len0 cap0, .int .i64 me, .int .i64 r, .int .i64 n] W fun v w' => v = .bool true ∧ Ext no W w' := by
  obtain ⟨es, hz, hl, hI⟩ := ents_of rfl F0
  rw [hz] at R0
  rw [L0] at hl
  clear hz L0 F0
  subst hl
  have hrI : I64 r := bounds_i64 wr
  apply F9_calls
  unfold F9
  refine awake_k hp fun w1 hx1 => asB_i rfl ?_
  refine restrict_k (R0.ext hx1 fun _ _ h => h) (by omega) hI hrI fun p3 c3 w3 hx3 hrow3 => ?_
  refine asT_i rfl rfl (asS_i rfl (asI_i rfl (lv_i ?_)))
  have hx03 := hx1.trans hx3
  refine jn_mk (cond_f rfl (asB_i rfl (cond_split (fun he => ?_) (fun he => lv_i ?_))))
  · have he' : ¬ restE es me r n = 0 := by simpa using he
    have h0 : restO es me r n = [] := by
      unfold restE at he'
      unfold restO
      split
      · rfl
      · rename_i h
        rw [if_neg h] at he'
        cases hfi : es.findIdx? (meP me) with
        | none => rfl
        | some k => rw [hfi] at he'; exact absurd rfl he'
    rw [h0]
    exact jn_mk (cond_t rfl (asB_i rfl ⟨rfl, hx03⟩))
  have he' : restE es me r n = 0 := by simpa using he
  have hb : ¬ (r < 0 ∨ n < 1 ∨ 64 < n) := by
    intro h
    unfold restE at he'
    rw [if_pos h] at he'
    cases he'
  obtain ⟨k, hfi⟩ : ∃ k, es.findIdx? (meP me) = some k := by
    unfold restE at he'
    rw [if_neg hb] at he'
    cases hfi : es.findIdx? (meP me) with
    | none => rw [hfi] at he'; cases he'
    | some k => exact ⟨k, rfl⟩
  obtain ⟨N, hN⟩ : ∃ N : Nat, n = (N : Int) := ⟨n.toNat, by omega⟩
  subst hN
  obtain ⟨ek, hek, hekm⟩ := findIdx_lt hfi
  have hekI := hI _ (List.mem_of_getElem? hek)
  have hgd : es.getD k Ent.zero = ek := by rw [List.getD_eq_getElem?_getD, hek]; rfl
  have e1 : restO es me r (N : Int) = firstN (fun e => nearE e ek r) N es := by
    unfold restO
    rw [if_neg hb, hfi]
    simp only [hgd, Int.toNat_natCast]
  rw [e1] at hrow3 ⊢
  have hkl := (List.getElem?_eq_some_iff.1 hek).1
  have hbefore : ∀ j, j < k → ∀ x, es[j]? = some x → meP me x = false := by
    intro j hj x hx
    rw [List.findIdx?_eq_some_iff_getElem] at hfi
    obtain ⟨_, _, h⟩ := hfi
    have := h j hj
    obtain ⟨_, rfl⟩ := List.getElem?_eq_some_iff.1 hx
    simpa using this
  have hlenq : (firstN (fun e => nearE e ek r) N es).length ≤ N := firstN_len
  have hqI : ∀ e ∈ firstN (fun e => nearE e ek r) N es, e.I := fun e h => hI e (firstN_mem h)
  refine lp_mk (fun i : Nat => [.int .i64 (i : Int)]) (fun z i w' => z = k - i ∧ i ≤ k ∧ w' = w3) k 0 rfl ⟨rfl, Nat.zero_le _, rfl⟩ ?_
  rintro _ i w3 ⟨rfl, hi, rfl⟩ J hJ
  have hrd := R0.ext hx03 fun _ _ h => h
  refine asI_i rfl ?_
  refine jn_of (fun s w' => s = [.bool (decide (i < k))] ∧ w' = w3) ?_ ?_
  rotate_left
  · intro J2 hJ2
    refine cond_t (by simp; omega) ?_
    have hil : i < es.length := by omega
    have hget : es[i]? = some es[i] := List.getElem?_eq_getElem hil
    refine Reads.atN (f := Ent.cells) Ent.cells_length hrd rfl hget (by decide) fun a _ hca => ?_
    rw [Int.toNat_natCast]
    have hc0 := hca 0 (by decide)
    rw [Sx.add_zero'] at hc0
    refine ld_mk hc0 (asI_i rfl (hJ2 _ _ ⟨?_, rfl⟩))
    congr 2
    rcases Nat.lt_or_ge i k with h | h
    · have h1 := hbefore i h _ hget
      have h2 : (es[i].h == me) = false := h1
      rw [decide_eq_true h]
      show (!(es[i].h == me)) = true
      rw [h2]
      rfl
    · obtain rfl : i = k := by omega
      have : es[i] = ek := Option.some.inj (hget.symm.trans hek)
      rw [this, decide_eq_false (by omega)]
      have h2 : (ek.h == me) = true := hekm
      show (!(ek.h == me)) = false
      rw [h2]
      rfl
  rintro _ w3 ⟨rfl, rfl⟩
  refine asB_i rfl (cond_split (fun hc => lv_i ?_) (fun hc => ?_))
  · have hik : i < k := of_decide_eq_true hc
    have ei : IntKind.wrap .i64 ((i : Int) + 1) = ((i + 1 : Nat) : Int) := by rw [wr64 (by omega) (by omega)]; omega
    rw [ei]
    exact hJ (k - (i + 1)) (i + 1) _ (by omega) ⟨rfl, by omega, rfl⟩
  obtain rfl : i = k := by
    have := of_decide_eq_false hc
    omega
  clear hJ J
  refine jn_mk (cond_f (by simp; omega) (asB_i rfl (cond_f (by simp; omega) (lv_i (lv_i ?_)))))
  refine lp_mk (fun j : Nat => [.int .i64 ((firstN (fun e => nearE e ek r) N (es.take j)).length : Int), .int .i64 (j : Int)]) (fun z j w' => z = es.length - j ∧ j ≤ es.length ∧ Ext no w3 w') es.length 0 (by simp [firstN]) ⟨rfl, Nat.zero_le _, Ext.refl _ _⟩ ?_
  rintro _ j w4 ⟨rfl, hj, hx4⟩ J hJ
  have hx04 := hx03.trans hx4
  refine asI_i rfl (asI_i rfl (cond_split (fun hc => ?_) (fun hc => ?_)))
  · have hjl : j < es.length := by
      have := of_decide_eq_true hc
      omega
    have hget : es[j]? = some es[j] := List.getElem?_eq_getElem hjl
    have hIe := hI _ (List.getElem_mem hjl)
    have hsucc := firstN_succ (p := fun e => nearE e ek r) (n := N) hget
    have hgetq : nearE es[j] ek r = true → (firstN (fun e => nearE e ek r) N (es.take j)).length < N → (firstN (fun e => nearE e ek r) N es)[(firstN (fun e => nearE e ek r) N (es.take j)).length]? = some es[j] := fun h1 h2 => firstN_get hget h1 h2
    generalize es[j] = e at hget hIe hsucc hgetq
    have ej : IntKind.wrap .i64 ((j : Int) + 1) = ((j + 1 : Nat) : Int) := by rw [wr64 (by omega) (by omega)]; omega
    refine jn_of (fun s w' => s = [.int .i64 ((firstN (fun e => nearE e ek r) N (es.take (j + 1))).length : Int)] ∧ Ext no w3 w') ?_ ?_
    · rintro _ w5 ⟨rfl, hx5⟩
      refine asI_i rfl (lv_i ?_)
      rw [ej]
      exact hJ (es.length - (j + 1)) (j + 1) _ (by omega) ⟨rfl, by omega, hx5⟩
    intro J2 hJ2
    rw [hsucc] at hJ2
    have hql : (firstN (fun e => nearE e ek r) N (es.take j)).length ≤ N := firstN_len
    generalize firstN (fun e => nearE e ek r) N (es.take j) = q at hJ2 hgetq hql
    refine dw_mk ?_
    have hxd := hx04.trans (Ext.drew w4)
    have hx4d := hx4.trans (Ext.drew w4)
    refine Reads.atN (f := Ent.cells) Ent.cells_length (R0.ext hxd fun _ _ h => h) rfl hget (by decide) fun a _ hca => ?_
    rw [Int.toNat_natCast]
    refine ld_mk (hca 1 (by decide)) (asI_i rfl (ld_mk (by rw [add11]; exact hca 2 (by decide)) (asI_i rfl ?_)))
    refine Reads.atN (f := Ent.cells) Ent.cells_length (R0.ext hxd fun _ _ h => h) rfl hek (by decide) fun a2 _ hc2 => ?_
    rw [Int.toNat_natCast]
    refine ld_mk (hc2 1 (by decide)) (asI_i rfl (ld_mk (by rw [add11]; exact hc2 2 (by decide)) (asI_i rfl ?_)))
    refine near_k hIe.2.1 hIe.2.2.1 hekI.2.1 hekI.2.2.1 hrI fun w7 hx7 => asB_i rfl ?_
    have hx47 := hx4d.trans hx7
    refine jn_of (fun s w' => s = [.bool (decide (q.length < N) && nearE e ek r)] ∧ w' = w7) ?_ ?_
    rotate_left
    · intro J3 hJ3
      refine cond_split (fun h => hJ3 _ _ ⟨?_, rfl⟩) (fun h => hJ3 _ _ ⟨?_, rfl⟩)
      · have h' : nearE e ek r = true := h
        rw [h', Bool.and_true]
        congr 2
        apply decide_eq_decide.2
        omega
      · have h' : nearE e ek r = false := h
        rw [h', Bool.and_false]
    rintro _ w7 ⟨rfl, rfl⟩
    refine asB_i rfl (cond_split (fun hb => ?_) (fun hb => hJ2 _ _ ⟨?_, hx47⟩))
    · simp only [Bool.and_eq_true, decide_eq_true_eq] at hb
      have hgq := hgetq hb.2 hb.1
      have hqlt := (List.getElem?_eq_some_iff.1 hgq).1
      refine jn_of (fun s w' => s = [.bool false] ∧ Ext no w7 w') ?_ ?_
      rotate_left
      · intro J3 hJ3
        refine dw_mk (cond_f (by simp; omega) ?_)
        have hxd7 := Ext.drew w7
        have hr3 := hrow3.reads.ext (hx47.trans hxd7) fun _ _ h => h
        refine Reads.atN (f := Ent.cells) Ent.cells_length hr3 rfl hgq (by decide) fun a _ hca => ?_
        rw [Int.toNat_natCast]
        refine ld8c hca ?_
        refine Reads.atN (f := Ent.cells) Ent.cells_length (R0.ext (hx03.trans (hx47.trans hxd7)) fun _ _ h => h) rfl hget (by decide) fun a _ hca => ?_
        refine ld8c hca (eqEnt hIe (hJ3 _ _ ⟨rfl, hxd7⟩))
      rintro _ w8 ⟨rfl, hx8⟩
      refine asB_i rfl (cond_f rfl (lv_i (hJ2 _ _ ⟨?_, hx47.trans hx8⟩)))
      rw [if_pos hb, List.length_append, wr64 (by omega) (by omega)]
      rfl
    · rw [if_neg (by simpa using hb), List.append_nil]
  · have hjl : j = es.length := by
      have := of_decide_eq_false hc
      omega
    subst hjl
    rw [List.take_length]
    refine ⟨?_, hx04⟩
    simp
end Go.Proofs.YtfnepdppkmjboaaDoor
