/- GrN: the grid's call Near, as a contract over lists of numbers and boxes. Conditions: those of each theorem, on its arguments. -/
import Derived.Test.YtamobmjfdiecbaaSrt
import Derived.Test.YtamobmjfdiecbaaGrG
namespace Go.Proofs.Ytamobmjfdiecbaa
open Go Go.Sx Go.Fp
attribute [local irreducible] jn lv ld st nw asI asB asP asS asY asM asF asA asT lp rn ru rq cl dw dr bnd bn2 nz nn hd hr so eqW
attribute [local irreducible] callOk

set_option maxRecDepth 100000 in
theorem und_mi : Try.prog.underlying 120 = some (.map 3 4) := rfl
def kb' (x : Bool) : Value := .bool x
theorem _root_.Go.Sx.St.toX {w0 w w' : World} {L : List (Nat × List Value × TypeId)} (h : St w0 w L) {M : Nat → Prop} (hx : Ext M w w') (hM : ∀ k, M k → w0.heap.size ≤ k) (hL : ∀ b ∈ L, ¬ M b.1) : St w0 w' L :=
  ⟨h.ext.then hx fun k hk hm => by have := hM k hm; omega, fun b hb => ⟨hx.blk (h.kn b hb).1 (hL b hb), (h.kn b hb).2⟩, h.nd⟩
theorem wfZ {n : Int} (h : I64 n) : (Lit.int .i64 n).wf = true := by
  obtain ⟨h1, h2⟩ := h
  simp only [Lit.wf, Bool.and_eq_true, decide_eq_true_eq, IntKind.min, IntKind.max, IntKind.bits, IntKind.signed]
  simp
  omega
def metC (B : List (Int × Bx)) (b : Bx) (ids : List Int) (A : List (Int × Bool)) : List (Int × Bool) := ids.foldl (fun A id => if (meetV (boxAt B id) b).1 = true then aset A id true else A) A
def metL (B : List (Int × Bx)) (D : List ((Int × Int) × List Int)) (b : Bx) (l : List (Int × Int)) : List (Int × Bool) := l.foldl (fun A c => metC B b ((aget D c).getD []) A) []
def gnearV (s : Int) (B : List (Int × Bx)) (D : List ((Int × Int) × List Int)) (b : Bx) : List Int := ((metL B D b (cellsL' s b)).map (·.1)).mergeSort leI

theorem nodup_metC {B : List (Int × Bx)} {b : Bx} : ∀ {ids : List Int} {A : List (Int × Bool)}, (A.map (·.1)).Nodup → ((metC B b ids A).map (·.1)).Nodup
  | [], _, h => h
  | id :: ids, A, h => by
    unfold metC
    rw [List.foldl_cons]
    split
    · exact nodup_metC (nodup_aset h)
    · exact nodup_metC h
theorem nodup_metL {B : List (Int × Bx)} {D : List ((Int × Int) × List Int)} {b : Bx} (l : List (Int × Int)) : ((metL B D b l).map (·.1)).Nodup := by
  have key : ∀ (l : List (Int × Int)) (A : List (Int × Bool)), (A.map (·.1)).Nodup → ((l.foldl (fun A c => metC B b ((aget D c).getD []) A) A).map (·.1)).Nodup := by
    intro l
    induction l with
    | nil => exact fun A h => h
    | cons c l ih => exact fun A h => ih _ (nodup_metC h)
  exact key l [] (by simp)

/-- a map of one's own, in the kit's words -/
theorem _root_.Go.Sx.Mp.own {w : World} {m : Nat} {A : List (Int × Bool)} {bs : List Nat} {clk : Nat} (h : Mp w m ki kb' A bs clk) (hn : (A.map (·.1)).Nodup) (hI : ∀ x ∈ A, I64 x.1) (hs : A.length ≤ maxLen) :
    ∃ D0 : DataW Unit, w.ownsMap Try.prog 3 (fun _ => some (.nil, [])) m A.length D0 ∧ (Go.intKeys D0).Perm (A.map (·.1)) ∧ Maps.size D0 = A.length := by
  have hl := ents_length ki kb' (A := A) (bs := bs) h.len
  have hk : ∀ (A : List (Int × Bool)) (bs : List Nat), A.length = bs.length → (ents ki kb' A bs).map (·.key) = A.map fun x => ki x.1 := by
    intro A
    induction A with
    | nil => intro bs _; rfl
    | cons x A ih =>
      intro bs hb
      cases bs with
      | nil => simp at hb
      | cons y bs => simp only [ents, List.map_cons]; rw [ih bs (by simpa using hb)]
  have hb : ∀ (A : List (Int × Bool)) (bs : List Nat), A.length = bs.length → (ents ki kb' A bs).map (·.born) = bs := by
    intro A
    induction A with
    | nil => intro bs hb; cases bs with | nil => rfl | cons y bs => simp at hb
    | cons x A ih =>
      intro bs hb
      cases bs with
      | nil => simp at hb
      | cons y bs => simp only [ents, List.map_cons]; rw [ih bs (by simpa using hb)]
  have hrd : ∀ x ∈ ents ki kb' A bs, ∃ z : Int, x.key = ki z ∧ I64 z := by
    intro x hx
    have h1 : x.key ∈ (ents ki kb' A bs).map (·.key) := List.mem_map.2 ⟨x, hx, rfl⟩
    rw [hk A bs h.len] at h1
    obtain ⟨y, hy, he⟩ := List.mem_map.1 h1
    exact ⟨y.1, he.symm, hI y hy⟩
  have hkey : ∀ z : Int, I64 z → keyOf Try.prog 3 (ki z) = some (.int .i64 z) := fun z hz => Maps.keyOf_int_mk und_i (wfZ hz)
  have hrd2 : ∀ x ∈ ents ki kb' A bs, ∃ z : Int, x.key = ki z ∧ WideElems.rd (H := Unit) Try.prog 3 (fun _ => some (.nil, [])) x = some (.int .i64 z, .nil) := by
    intro x hx
    obtain ⟨z, hz, hI⟩ := hrd x hx
    refine ⟨z, hz, ?_⟩
    unfold WideElems.rd
    rw [hz, hkey z hI]
    rfl
  have hfit : WideElems.Fit (H := Unit) Try.prog 3 (fun _ => some (.nil, [])) (ents ki kb' A bs).toArray clk := by
    refine ⟨by simpa [hl] using hs, ⟨fun x hx => ?_, ?_, ?_⟩, fun x hx => ?_⟩
    · have h1 : x.born ∈ (ents ki kb' A bs).map (·.born) := List.mem_map.2 ⟨x, by simpa using hx, rfl⟩
      rw [hb A bs h.len] at h1
      exact h.lt _ h1
    · show ((ents ki kb' A bs).map (·.born)).Nodup
      rw [hb A bs h.len]
      exact h.nd
    · show ((ents ki kb' A bs).map (·.key)).Nodup
      rw [hk A bs h.len]
      have : A.map (fun x => ki x.1) = (A.map (·.1)).map ki := by simp [List.map_map]
      rw [this]
      refine List.Pairwise.map _ (fun a b hab e => hab ?_) hn
      simpa [ki] using e
    · obtain ⟨z, _, hz⟩ := hrd2 x (by simpa using hx)
      exact ⟨_, hz⟩
  refine ⟨_, ⟨_, _, h.blk, hfit, by simp [hl], rfl⟩, ?_, ?_⟩
  · have hp := WideShapes.sorted_perm ((ents ki kb' A bs).map (WideElems.rg (H := Unit) Try.prog 3 (fun _ => some (.nil, []))))
    have hp2 := hp.map (fun p => _root_.Go.intOf p.1)
    change (List.map (fun p : Lit × DataW Unit => _root_.Go.intOf p.1) _).Perm _
    refine hp2.trans ?_
    rw [List.map_map]
    have : (ents ki kb' A bs).map ((fun p => _root_.Go.intOf p.1) ∘ WideElems.rg (H := Unit) Try.prog 3 (fun _ => some (.nil, []))) = A.map (·.1) := by
      have h1 : (ents ki kb' A bs).map ((fun p => _root_.Go.intOf p.1) ∘ WideElems.rg (H := Unit) Try.prog 3 (fun _ => some (.nil, []))) = ((ents ki kb' A bs).map (·.key)).map (fun v => match v with | .int _ z => z | _ => 0) := by
        rw [List.map_map]
        refine List.map_congr_left fun x hx => ?_
        obtain ⟨z, hz, hr⟩ := hrd2 x hx
        simp only [Function.comp]
        rw [hz, WideElems.rg_of hr]
        rfl
      rw [h1, hk A bs h.len, List.map_map]
      rfl
    rw [this]
  · have hp := WideShapes.sorted_perm ((ents ki kb' A bs).map (WideElems.rg (H := Unit) Try.prog 3 (fun _ => some (.nil, []))))
    have := hp.length_eq
    rw [List.length_map, hl] at this
    exact this

theorem asN_i {v : Value} {k : Nat} {fs cs : Array Value} {K : Nat → Array Value → Array Value → Prop} (e : v = .func (.func k) fs cs) (h : K k fs cs) : asN v K := ⟨k, fs, cs, e, h⟩
theorem row_of {w : World} {base : Nat} {v : Value} {xs : List Value} (h : w.ownsRow base 3 1 v xs.length xs) : ∃ p c, v = .slice p xs.length c ∧ Row w base 3 p c xs := by
  rcases h.2 with ⟨rfl, hn⟩ | ⟨g, cap, cur, rfl, rest⟩
  · refine ⟨none, 0, by rw [hn], ⟨?_⟩⟩
    rw [hn] at h ⊢
    exact h
  · exact ⟨some ⟨g, 0, none⟩, cap, rfl, ⟨h⟩⟩

set_option maxHeartbeats 2000000 in
theorem gNear_k {w : World} {F : Nat → Prop} {g mb mc : Nat} {s : Int} {B : List (Int × Bx)} {C : List ((Int × Int) × CellV)} {bb : List Nat} {kb : Nat} {bc : List Nat} {kc : Nat}
    (h : Gr w F g mb mc s B C bb kb bc kc) {b : Bx} (hI : ∀ x ∈ metL B (pl C) b (cellsL' s b), I64 x.1) (hM : (metL B (pl C) b (cellsL' s b)).length ≤ 1099511627776) (hlen : ∀ x, ((aget (pl C) x).getD []).length ≤ 1099511627776) {K : Value → World → Prop}
    (hK : ∀ p c w', Ext no w w' → Row w' w.heap.size 3 p c (iv .i64 (gnearV s B (pl C) b)) → K (.tuple #[.slice p (gnearV s B (pl C) b).length c, .int .i64 (cellsE s b)]) w') :
    cl Try.prog 31 #[.pointer (some ⟨g, 0, none⟩), b.v] w K := by
  apply F31_calls
  unfold F31
  have hS := St.start w
  (refine St.nw hS ?_; clear hS; intro r1 _ hS)
  refine lv_i (St.dw hS ?_)
  clear hS
  intro w1 hS _
  have h1 := h.ext hS.ext fun _ _ hf => hf
  refine dr_i (ld_mk h1.ld0 (asI_i rfl ?_))
  refine hS.ld0 0 rfl rfl (asI_i rfl (hS.ld 0 rfl rfl (asI_i rfl (hS.ld 0 rfl rfl (asI_i rfl ?_)))))
  show cl Try.prog 24 #[.int .i64 s, b.v] w1 _
  refine cells_k ?_
  intro p c w2 hx2 hrow2
  have h2 := h1.ext hx2 fun _ _ hf => hf
  replace hS := hS.to hx2
  refine asT_i rfl rfl (asS_i rfl (asI_i rfl (lv_i (cond_split (fun he => lv_i ?_) (fun he => ?_)))))
  · have he' : cellsE s b ≠ 0 := by simpa using he
    have e0 : cellsL' s b = [] := by unfold cellsL'; rw [if_neg he']
    have e1 : gnearV s B (pl C) b = [] := by unfold gnearV; rw [e0]; simp [metL]
    have := hK none 0 w2 hS.ext (by rw [e1]; exact Row.nil _ _ _)
    rw [e1] at this
    exact this
  have he' : cellsE s b = 0 := by simpa using he
  rw [he'] at hK
  generalize hlst : cellsL' s b = lst at *
  have hok : ∀ x ∈ lst, okc x := by rw [← hlst]; exact cells_okc
  have hll : lst.length ≤ 1024 := by rw [← hlst]; exact cells_len
  refine make_map (enc := ki) (val := kb') und_mi ?_
  intro w3 hm3 hx3 hz3
  refine asM_i rfl ?_
  generalize hmm : w2.heap.size = mm at *
  have h3 := h2.ext hx3 fun _ _ hf => hf
  have hS3 := hS.to hx3
  have hFm : ∀ k, F k → k ≠ mm := fun k hk e => by
    have := h2.lt k hk
    omega
  have hr1 : r1 ≠ mm := by
    have := blk_lt (hS.kn _ List.mem_cons_self).1
    simp only at this
    omega
  have hwm : w.heap.size ≤ mm := by have := hS.ext.size; omega
  have gG : ∀ w', Ext (onl mm) w3 w' → Gr w' F g mb mc s B C bb kb bc kc := fun w' hx => h3.ext hx fun k hk e => hFm k hk e
  have gS : ∀ w', Ext (onl mm) w3 w' → St w w' [(r1, b.cells, 25)] := fun w' hx => hS3.toX hx (fun k hk => by have : k = mm := hk; omega) (fun x hx e => by
    have e' : x.1 = mm := e
    rw [List.mem_singleton.1 hx] at e'
    exact hr1 e')
  have hpm : ∀ a, p = some a → a.block ≠ mm := fun a ha e => by
    have := (hrow2.at ha).2
    omega
  refine lp_mk (fun i : Nat => [.int .i64 (i : Int)])
    (fun m i w' => m = lst.length - i ∧ i ≤ lst.length ∧ Ext (onl mm) w3 w' ∧ ∃ bs clk, Mp w' mm ki kb' (metL B (pl C) b (lst.take i)) bs clk) lst.length 0 rfl
    ⟨rfl, Nat.zero_le _, Ext.refl _ _, _, _, hm3⟩ ?_
  rintro _ i w4 ⟨rfl, hi, hx4, bs, clk, hm4⟩ J hJ
  refine asI_i rfl (cond_split (fun hc => ?_) (fun hc => ?_))
  · have hil : i < lst.length := by
      have := of_decide_eq_true hc
      omega
    have ei : IntKind.wrap .i64 ((i : Int) + 1) = ((i + 1 : Nat) : Int) := by rw [wr64 (by omega) (by omega)]; omega
    have hr4 : Reads w4 p (lst.map cv) := (hrow2.reads.ext hx3 fun _ _ h => h).ext hx4 fun a ha e => hpm a ha e
    refine hr4.at (i := (i : Int)) (by omega) (v := cv lst[i]) (by simp [hil]) ?_ (by simp)
    have h4 := gG w4 hx4
    refine asC_i rfl (dr_i (ld_mk h4.ld2 (asM_i rfl ?_)))
    have hcok := hok lst[i] (List.getElem_mem hil)
    have htk : lst.take (i + 1) = lst.take i ++ [lst[i]] := by rw [List.take_add_one, List.getElem?_eq_getElem hil]; rfl
    generalize lst[i] = c0 at *
    have hlk := h4.cm.lookup keyC und_mc zero_ints c0 ⟨hcok, h4.ok⟩
    have e1 : (Option.map cval (aget C c0)).getD (cval nilV) = cval ((aget C c0).getD nilV) := by cases aget C c0 <;> rfl
    rw [e1] at hlk
    have hgd : (aget (pl C) c0).getD [] = ((aget C c0).getD nilV).2.2 := pl_get C c0
    have hids := hlen c0
    rw [hgd] at hids
    have hmetS : metL B (pl C) b (lst.take (i + 1)) = metC B b ((aget C c0).getD nilV).2.2 (metL B (pl C) b (lst.take i)) := by
      rw [htk]
      unfold metL
      rw [List.foldl_append, List.foldl_cons, List.foldl_nil, hgd]
    have grow : ∀ w', Ext (onl mm) w3 w' → Reads w' ((aget C c0).getD nilV).1 (iv .i64 ((aget C c0).getD nilV).2.2) := fun w' hx => ((gG w' hx).getRow c0).1.reads
    generalize (aget C c0).getD nilV = v at *
    refine rq_mk hlk (asS_i rfl ?_)
    refine lp_mk (fun j : Nat => [.int .i64 (j : Int)])
      (fun m j w' => m = v.2.2.length - j ∧ j ≤ v.2.2.length ∧ Ext (onl mm) w3 w' ∧ ∃ bs clk, Mp w' mm ki kb' (metC B b (v.2.2.take j) (metL B (pl C) b (lst.take i))) bs clk) v.2.2.length 0 rfl
      ⟨rfl, Nat.zero_le _, hx4, bs, clk, hm4⟩ ?_
    rintro _ j w5 ⟨rfl, hj, hx5, bs5, clk5, hm5⟩ J2 hJ2
    refine asI_i rfl (cond_split (fun hc => ?_) (fun hc => ?_))
    · have hjl : j < v.2.2.length := by
        have := of_decide_eq_true hc
        omega
      have ej : IntKind.wrap .i64 ((j : Int) + 1) = ((j + 1 : Nat) : Int) := by rw [wr64 (by omega) (by omega)]; omega
      refine jn_of (fun t w' => Ext (onl mm) w3 w' ∧ ∃ bs clk, Mp w' mm ki kb' (metC B b (v.2.2.take (j + 1)) (metL B (pl C) b (lst.take i))) bs clk) ?_ ?_
      · rintro _ w6 ⟨hx6, bs6, clk6, hm6⟩
        rw [ej]
        exact hJ2 (v.2.2.length - (j + 1)) (j + 1) w6 (by omega) ⟨rfl, by omega, hx6, bs6, clk6, hm6⟩
      · intro J3 hJ3
        have htj : v.2.2.take (j + 1) = v.2.2.take j ++ [v.2.2[j]] := by rw [List.take_add_one, List.getElem?_eq_getElem hjl]; rfl
        refine (grow w5 hx5).at (i := (j : Int)) (by omega) (v := .int .i64 v.2.2[j]) (by simp [iv, hjl]) ?_ (by simp [iv])
        generalize v.2.2[j] = id at *
        have hmj : metC B b (v.2.2.take (j + 1)) (metL B (pl C) b (lst.take i)) = if (meetV (boxAt B id) b).1 = true then aset (metC B b (v.2.2.take j) (metL B (pl C) b (lst.take i))) id true else metC B b (v.2.2.take j) (metL B (pl C) b (lst.take i)) := by
          rw [htj]
          unfold metC
          rw [List.foldl_append, List.foldl_cons, List.foldl_nil]
        refine asI_i rfl (lv_i (dw_mk ?_))
        have hx6 : Ext (onl mm) w3 w5.drew := hx5.then (Ext.drew w5) fun k _ hk => hk.elim
        have h6 := gG _ hx6
        have hS6 := gS _ hx6
        have hm6 : Mp w5.drew mm ki kb' _ bs5 clk5 := hm5.ext (Ext.drew w5) fun h => h
        refine dr_i (ld_mk h6.ld1 (asM_i rfl ?_))
        have hlk2 := h6.bm.lookup keyI und_mb zero_box id ⟨trivial, fun _ _ => trivial⟩
        have e2 : (Option.map Bx.v (aget B id)).getD (Bx.v ⟨0, 0, 0⟩) = (boxAt B id).v := by unfold boxAt; cases aget B id <;> rfl
        rw [e2] at hlk2
        refine rq_mk hlk2 (asA_i (l := (boxAt B id).cells) rfl rfl (asI_i rfl (asI_i rfl (asI_i rfl ?_))))
        refine hS6.ld0 0 rfl rfl (asI_i rfl (hS6.ld 0 rfl rfl (asI_i rfl (hS6.ld 0 rfl rfl (asI_i rfl ?_)))))
        show cl Try.prog 28 #[(boxAt B id).v, b.v] w5.drew _
        refine meet_k fun w7 hx7 => asT_i rfl rfl (asB_i rfl (asI_i rfl ?_))
        have hx7' : Ext (onl mm) w3 w7 := hx6.then hx7 fun k _ hk => hk.elim
        have h7 := gG _ hx7'
        have hm7 := hm6.ext hx7 fun h => h
        refine hd_i h7.ld1 (lv_i (cond_split (fun hmt => ?_) (fun hmt => ?_)))
        · have hmt' : (meetV (boxAt B id) b).1 = true := hmt
          rw [if_pos hmt'] at hmj
          refine hm7.update keyI und_mi id ⟨trivial, fun _ _ => trivial⟩ true fun w8 bs8 clk8 hm8 hx8 _ => hJ3 _ _ ⟨hx7'.trans hx8, bs8, clk8, ?_⟩
          rw [hmj]
          exact hm8
        · have hmt' : ¬ (meetV (boxAt B id) b).1 = true := by rw [show (meetV (boxAt B id) b).1 = false from hmt]; decide
          rw [if_neg hmt'] at hmj
          exact hJ3 _ _ ⟨hx7', bs5, clk5, by rw [hmj]; exact hm7⟩
    · have hjl : j = v.2.2.length := by
        have := of_decide_eq_false hc
        omega
      rw [ei]
      refine hJ (lst.length - (i + 1)) (i + 1) w5 (by omega) ⟨rfl, by omega, hx5, bs5, clk5, ?_⟩
      rw [hmetS]
      rw [hjl, List.take_length] at hm5
      exact hm5
  · have hil : i = lst.length := by
      have := of_decide_eq_false hc
      omega
    rw [hil, List.take_length] at hm4
    clear hJ hc
    have eN : gnearV s B (pl C) b = ((metL B (pl C) b lst).map (·.1)).mergeSort leI := by unfold gnearV; rw [hlst]
    have hnd := nodup_metL (B := B) (D := pl C) (b := b) lst
    obtain ⟨D0, hown, hperm, hsize⟩ := hm4.own hnd hI (le_maxLen (by omega))
    refine keys_cl (asN_i rfl ?_)
    refine sorted_cl mm _ D0 _ w4 hown (by rw [hsize]; exact le_maxLen (by omega)) (by omega) ?_
    intro v ss w5 hp hrow hx5
    have hss : ss.mergeSort (fun x y => decide (x ≤ y)) = gnearV s B (pl C) b := by
      rw [eN]
      exact Go.mergeSort_of_perm_i (hp.trans hperm)
    have hl5 : ss.length = (iv .i64 (gnearV s B (pl C) b)).length := by rw [iv_length, ← hss, List.length_mergeSort]
    rw [hss, hl5] at hrow
    obtain ⟨p5, c5, rfl, hr5⟩ := row_of hrow
    have hx : Ext no w w5 := (gS w4 hx4).ext.trans hx5
    refine asS_i rfl (lv_i ?_)
    rw [iv_length]
    exact hK p5 c5 w5 hx (hr5.mono (gS w4 hx4).ext.size)
end Go.Proofs.Ytamobmjfdiecbaa
