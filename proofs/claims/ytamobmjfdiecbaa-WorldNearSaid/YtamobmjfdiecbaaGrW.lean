/- GrW: the world's call Near, as a contract over lists of places. Conditions: those of each theorem, on its arguments. -/
import Derived.Test.YtamobmjfdiecbaaGrM
import Derived.Test.YtamobmjfdiecbaaWoJ
namespace Go.Proofs.Ytamobmjfdiecbaa
open Go Go.Sx Go.Fp
attribute [local irreducible] jn lv ld st nw asI asB asP asS asY asM asF asA asT lp rn ru rq cl dw dr bnd bn2 nz nn hd hr so eqW
attribute [local irreducible] callOk

/-- is somebody at a place who meets a box? -/
def pT (S : List Spot) (b : Bx) (i : Nat) : Bool := (meetV (S.getD i Spot.zero).e.box b).1 && (S.getD i Spot.zero).there
def hT (S : List Spot) (i : Nat) : Int := (S.getD i Spot.zero).e.h
def outW (S : List Spot) (b : Bx) : List Int := if b.right = true then ((List.range 64).filter (pT S b)).map (hT S) else []
def nz' (l : List Nat) : List Int := l.map fun (i : Nat) => (i : Int)

theorem range_sorted (p : Nat → Bool) (n : Nat) : (nz' ((List.range n).filter p)).mergeSort leI = nz' ((List.range n).filter p) := by
  refine List.mergeSort_of_pairwise ?_
  unfold nz'
  rw [List.pairwise_map]
  have h := (List.pairwise_lt_range (n := n)).filter p
  refine h.imp fun {a b} hab => ?_
  simp only [decide_eq_true_eq]
  omega

theorem near_places {B : List (Int × Bx)} {D : List ((Int × Int) × List Int)} {S : List Spot} {b : Bx} (h : ∀ x, x ∈ (metL B D b (cellsL' wside b)).map (·.1) ↔ ∃ i : Nat, x = (i : Int) ∧ i < 64 ∧ pT S b i = true) : gnearV wside B D b = nz' ((List.range 64).filter (pT S b)) := by
  rw [← range_sorted]
  unfold gnearV
  refine Go.mergeSort_of_perm_i ((List.perm_ext_iff_of_nodup (nodup_metL _) ?_).2 fun x => ?_)
  · unfold nz'
    refine List.Pairwise.map _ (fun a b hab e => hab ?_) ((List.nodup_range (n := 64)).filter (pT S b))
    have e' : (a : Int) = (b : Int) := e
    omega
  · rw [h]
    unfold nz'
    simp only [List.mem_map, List.mem_filter, List.mem_range]
    constructor
    · rintro ⟨i, rfl, h1, h2⟩
      exact ⟨i, ⟨h1, h2⟩, rfl⟩
    · rintro ⟨i, ⟨h1, h2⟩, rfl⟩
      exact ⟨i, rfl, h1, h2⟩

set_option maxHeartbeats 4000000 in
theorem wnear_k {w : World} {F : Nat → Prop} {r g : Nat} {S : List Spot} {B : List (Int × Bx)} {D : List ((Int × Int) × List Int)} {N : Nat} (h : Wd w F r g S B D N) (hN : N ≤ 1000000000) {b : Bx}
    (hI : ∀ x ∈ metL B D b (cellsL' wside b), I64 x.1) (hkeys : cellsE wside b = 0 → ∀ x, x ∈ (metL B D b (cellsL' wside b)).map (·.1) ↔ ∃ i : Nat, x = (i : Int) ∧ i < 64 ∧ pT S b i = true) (hml : (metL B D b (cellsL' wside b)).length ≤ 1099511627776) {K : Value → World → Prop}
    (hK : ∀ p c w', Ext no w w' → Row w' w.heap.size 3 p c (iv .i64 (outW S b)) → K (.tuple #[.slice p (outW S b).length c, .int .i64 b.rightE]) w') :
    cl Try.prog 37 #[.pointer (some ⟨r, 0, none⟩), b.v] w K := by
  apply F37_calls
  unfold F37
  have hS := St.start w
  (refine St.nw hS ?_; clear hS; intro r1 _ hS)
  refine lv_i (hS.ld0 0 rfl rfl (asI_i rfl (hS.ld 0 rfl rfl (asI_i rfl (hS.ld 0 rfl rfl (asI_i rfl ?_))))))
  refine right_k (b := b) fun w1 hx1 => asI_i rfl (lv_i ?_)
  replace hS := hS.to hx1
  refine cond_split (fun he => lv_i ?_) (fun he => ?_)
  · have hr : ¬ b.right = true := by
      intro hr
      unfold Bx.rightE at he
      rw [if_pos hr] at he
      cases he
    have e1 : outW S b = [] := by unfold outW; rw [if_neg hr]
    have := hK none 0 w1 hS.ext (by rw [e1]; exact Row.nil _ _ _)
    rw [e1] at this
    exact this
  have hr : b.right = true := by
    unfold Bx.rightE at he
    by_cases hr : b.right = true
    · exact hr
    · rw [if_neg hr] at he; cases he
  have hrE : b.rightE = 0 := by unfold Bx.rightE; rw [if_pos hr]
  rw [hrE] at hK
  have eO : outW S b = ((List.range 64).filter (pT S b)).map (hT S) := by unfold outW; rw [if_pos hr]
  refine hS.dw fun w2 hS _ => ?_
  have h2 := h.ext hS.ext fun _ _ h => h
  have h64 := h2.ws.len
  refine dr_i (ld_mk h2.ws.cell0 (asP_i rfl (hS.ld0 0 rfl rfl (asI_i rfl (hS.ld 0 rfl rfl (asI_i rfl (hS.ld 0 rfl rfl (asI_i rfl ?_))))))))
  obtain ⟨mb, mc, C, bb, kb, bc, kc, hg, rfl⟩ := h2.gr
  have hbd := h2.bd
  refine gNear_k hg hI hml (fun x => by have := hbd x; omega) fun p c w3 hx3 hr3 => ?_
  refine asT_i rfl rfl (asS_i rfl (asI_i rfl (lv_i ?_)))
  refine jn_of (fun t w' => ∃ p c pl, t = [.slice p pl.length c] ∧ Ext no w2 w' ∧ Row w' w2.heap.size 3 p c (iv .i64 (nz' pl)) ∧ (∀ i ∈ pl, i < 64) ∧ pl.length ≤ 64 ∧ pl.filter (pT S b) = (List.range 64).filter (pT S b)) ?_ ?_
  rotate_left
  · intro J hJ
    refine cond_split (fun he => ?_) (fun he => ?_)
    · have he' : cellsE wside b ≠ 0 := by simpa using he
      have e0 : gnearV wside B (pl C) b = [] := by
        have : cellsL' wside b = [] := by unfold cellsL'; rw [if_neg he']
        unfold gnearV
        rw [this]
        simp [metL]
      rw [e0] at hr3 ⊢
      refine lp_mk (fun t : (Option Addr × Nat) × Nat => [.slice t.1.1 t.2 t.1.2, .int .i64 (t.2 : Int)]) (fun m t w' => m = 64 - t.2 ∧ t.2 ≤ 64 ∧ Ext no w2 w' ∧ Row w' w2.heap.size 3 t.1.1 t.1.2 (iv .i64 (nz' (List.range t.2)))) 64 ((p, c), 0) rfl
        ⟨rfl, Nat.zero_le _, hx3, hr3⟩ ?_
      rintro _ ⟨⟨p, c⟩, i⟩ w4 ⟨rfl, hi, hx4, hr4⟩ J2 hJ2
      simp only at hi hr4 hJ2 ⊢
      refine asS_i rfl (asI_i rfl (cond_split (fun hc => ?_) (fun hc => ?_)))
      · have hil : i < 64 := by
          have := of_decide_eq_true hc
          omega
        have ei : IntKind.wrap .i64 ((i : Int) + 1) = ((i + 1 : Nat) : Int) := by rw [wr64 (by omega) (by omega)]; omega
        have hlr : (nz' (List.range i)).length = i := by simp [nz']
        refine lv_i (sI.app1 hr4 (by rw [iv_length, hlr]) hx4.size rfl (le_maxLen (by omega)) (by omega) fun p' c' w5 hr5 hx5 hM => asS_i rfl ?_)
        rw [ei]
        refine hJ2 (64 - (i + 1)) ((p', c'), i + 1) w5 (by omega) ⟨rfl, by simp only; omega, hx4.then hx5 fun k hk ⟨a, ha, hab⟩ => by
          have := (hr4.at ha).1
          omega, ?_⟩
        have e5 : iv .i64 (nz' (List.range (i + 1))) = iv .i64 (nz' (List.range i)) ++ [.int .i64 (i : Int)] := by simp [nz', iv, List.range_succ]
        simp only [e5]
        exact hr5
      · have hil : i = 64 := by
          have := of_decide_eq_false hc
          omega
        subst hil
        exact hJ _ _ ⟨p, c, List.range 64, by simp, hx4, hr4, by simp, by simp, rfl⟩
    · have he' : cellsE wside b = 0 := by simpa using he
      have e0 := near_places (hkeys he')
      rw [e0] at hr3 ⊢
      refine hJ _ _ ⟨p, c, (List.range 64).filter (pT S b), by simp [nz'], hx3, hr3, fun i hi => by simpa using (List.mem_filter.1 hi).1, ?_, ?_⟩
      · have := List.length_filter_le (pT S b) (List.range 64)
        simpa using this
      · rw [List.filter_filter]
        simp
  clear hr3 hx3 p c w3
  rintro _ w3 ⟨p, c, pl', rfl, hx3, hr3, hp64, hpl, hfil⟩
  have h3 := h2.ext hx3 fun _ _ h => h
  have hS3 := hS.to hx3
  refine asS_i rfl ?_
  refine lp_mk (fun t : (Option Addr × Nat × Nat) × Nat => [.slice t.1.1 t.1.2.1 t.1.2.2, .int .i64 (t.2 : Int)])
    (fun m t w' => m = pl'.length - t.2 ∧ t.2 ≤ pl'.length ∧ Ext no w3 w' ∧ t.1.2.1 = (((pl'.take t.2).filter (pT S b)).map (hT S)).length ∧ Row w' w3.heap.size 3 t.1.1 t.1.2.2 (iv .i64 (((pl'.take t.2).filter (pT S b)).map (hT S)))) pl'.length ((none, 0, 0), 0) rfl
    ⟨rfl, Nat.zero_le _, Ext.refl _ _, rfl, Row.nil _ _ _⟩ ?_
  rintro _ ⟨⟨p5, n5, c5⟩, i⟩ w5 ⟨rfl, hi, hx5, hn5, hr5⟩ J hJ
  simp only at hi hn5 hr5 hJ ⊢
  refine asS_i rfl (asI_i rfl (cond_split (fun hc => ?_) (fun hc => ?_)))
  · have hil : i < pl'.length := by
      have := of_decide_eq_true hc
      omega
    have ei : IntKind.wrap .i64 ((i : Int) + 1) = ((i + 1 : Nat) : Int) := by rw [wr64 (by omega) (by omega)]; omega
    have htk : pl'.take (i + 1) = pl'.take i ++ [pl'[i]] := by rw [List.take_add_one, List.getElem?_eq_getElem hil]; rfl
    have hj64 := hp64 _ (List.getElem_mem hil)
    have hRp := hr3.reads.ext hx5 fun _ _ h => h
    refine jn_of (fun t w' => ∃ p' n' c', t = [.slice p' n' c'] ∧ Ext no w3 w' ∧ n' = (((pl'.take (i + 1)).filter (pT S b)).map (hT S)).length ∧ Row w' w3.heap.size 3 p' c' (iv .i64 (((pl'.take (i + 1)).filter (pT S b)).map (hT S)))) ?_ ?_
    · rintro _ w6 ⟨p', n', c', rfl, hx6, hn6, hr6⟩
      refine asS_i rfl ?_
      rw [ei]
      exact hJ (pl'.length - (i + 1)) ((p', n', c'), i + 1) w6 (by omega) ⟨rfl, by simp only; omega, hx6, hn6, hr6⟩
    · intro J2 hJ2
      refine hRp.at (i := (i : Int)) (v := .int .i64 (pl'[i] : Int)) (by omega) (by simp [iv, nz', hil]) (asI_i rfl (lv_i ?_)) (by simp [iv, nz'])
      generalize pl'[i] = j at *
      have hs : S[j]? = some (S.getD j Spot.zero) := by
        rw [List.getD_eq_getElem?_getD, List.getElem?_eq_getElem (by omega)]
        rfl
      have hpT : pT S b j = ((meetV (S.getD j Spot.zero).e.box b).1 && (S.getD j Spot.zero).there) := rfl
      have hhT : hT S j = (S.getD j Spot.zero).e.h := rfl
      generalize S.getD j Spot.zero = s at *
      have hws5 := (h3.ext hx5 fun _ _ h => h).ws
      have hcell : ∀ k v, s.cells[k]? = some v → w5.cell? (Addr.add (Addr.add (Addr.add ⟨r, 0, none⟩ 1) (j * 10)) k) = some v := fun k v hv => by
        rw [add_mk, add_mk, add_mk, ← hws5.cell hs hv]
        congr 2
        omega
      have hcell0 : w5.cell? (Addr.add (Addr.add ⟨r, 0, none⟩ 1) (j * 10)) = some (.int .i64 s.gen) := by
        have := hcell 0 _ rfl
        rwa [Sx.add_zero'] at this
      refine dr_i (bnd_mk (by omega) (by omega) ?_)
      rw [Int.toNat_natCast]
      refine ld_mk hcell0 (asI_i rfl (ld_mk (hcell 1 _ rfl) (asB_i rfl (ld_mk (hcell 2 _ rfl) (asI_i rfl (ld_mk (hcell 3 _ rfl) (asI_i rfl (ld_mk (hcell 4 _ rfl) (asI_i rfl (ld_mk (hcell 5 _ rfl) (asI_i rfl (ld_mk (hcell 6 _ rfl) (asI_i rfl (ld_mk (hcell 7 _ rfl) (asI_i rfl (ld_mk (hcell 8 _ rfl) (asI_i rfl (ld_mk (hcell 9 _ rfl) (asI_i rfl ?_)))))))))))))))))))
      have hS5 := hS3.to hx5
      refine (St.start w5).nw (cs := [.int .i64 0, .bool false, .int .i64 0, .int .i64 0, .int .i64 0, .int .i64 0, .int .i64 0, .int .i64 0, .int .i64 0, .int .i64 0]) fun r89 w6 hZ => ?_
      refine hZ.st0 0 rfl rfl rfl fun w7 hZ => hZ.st 0 rfl rfl rfl fun w8 hZ => hZ.st 0 rfl rfl rfl fun w9 hZ => hZ.st 0 rfl rfl rfl fun w10 hZ => hZ.st 0 rfl rfl rfl fun w11 hZ => ?_
      refine hZ.st 0 rfl rfl rfl fun w12 hZ => hZ.st 0 rfl rfl rfl fun w13 hZ => hZ.st 0 rfl rfl rfl fun w14 hZ => hZ.st 0 rfl rfl rfl fun w15 hZ => hZ.st 0 rfl rfl rfl fun w16 hZ => ?_
      replace hZ : St w5 w16 [(r89, s.cells, 100)] := hZ
      have hb89 : ∀ {w' : World}, Ext no w16 w' → ∀ k v, s.cells[k]? = some v → w'.cell? ⟨r89, k, none⟩ = some v := fun hx k v hv => by
        rw [blk_cell ((hZ.to hx).kn _ List.mem_cons_self).1]
        simpa using hv
      have hS16 := hS5.to hZ.ext
      refine ld_mk (by rw [add_mk, add_mk]; exact hb89 (Ext.refl _ _) 3 _ rfl) (asI_i rfl (ld_mk (by rw [add_mk, add_mk, add_mk]; exact hb89 (Ext.refl _ _) 4 _ rfl) (asI_i rfl (ld_mk (by rw [add_mk, add_mk, add_mk]; exact hb89 (Ext.refl _ _) 5 _ rfl) (asI_i rfl ?_)))))
      refine hS16.ld0 0 rfl rfl (asI_i rfl (hS16.ld 0 rfl rfl (asI_i rfl (hS16.ld 0 rfl rfl (asI_i rfl ?_)))))
      refine meet_k (a := s.e.box) (b := b) fun w17 hx17 => asT_i rfl rfl (asB_i rfl (asI_i rfl (lv_i ?_)))
      have hX17 : Ext no w3 w17 := (hx5.trans hZ.ext).trans hx17
      have hr17 := (hr5.ext hZ.ext fun _ _ h => h).ext hx17 fun _ _ h => h
      refine jn_of (fun t w' => t = [.bool (pT S b j)] ∧ w' = w17) ?_ ?_
      · rintro _ w17 ⟨rfl, rfl⟩
        refine asB_i rfl (cond_split (fun h => ?_) (fun h => ?_))
        · refine ld_mk (by rw [add_mk]; exact hb89 hx17 2 _ rfl) (asI_i rfl ?_)
          have hlen : (((pl'.take i).filter (pT S b)).map (hT S)).length ≤ 64 := by
            rw [List.length_map]
            have h1 := List.length_filter_le (pT S b) (pl'.take i)
            rw [List.length_take] at h1
            omega
          refine sI.app1 hr17 (by rw [iv_length, hn5]) hX17.size rfl (le_maxLen (by omega)) (by omega) fun p' c' w18 hr18 hx18 hM => asS_i rfl (hJ2 _ _ ⟨p', n5 + 1, c', rfl, ?_, ?_, ?_⟩)
          · exact hX17.then hx18 fun k hk ⟨a, ha, hab⟩ => by
              have := (hr17.at ha).1
              omega
          · rw [htk, List.filter_append, List.map_append, List.length_append, ← hn5, List.filter_cons, if_pos h]
            rfl
          · rw [htk, List.filter_append, List.map_append, List.filter_cons, if_pos h]
            have e : iv .i64 (List.map (hT S) (List.filter (pT S b) (pl'.take i)) ++ List.map (hT S) (j :: List.filter (pT S b) [])) = iv .i64 (List.map (hT S) (List.filter (pT S b) (pl'.take i))) ++ [.int .i64 s.e.h] := by
              simp [iv, hhT]
            rw [e]
            exact hr18
        · refine hJ2 _ _ ⟨p5, n5, c5, rfl, hX17, ?_, ?_⟩
          · rw [htk, List.filter_append, List.filter_cons, if_neg (by rw [h]; decide)]
            simpa using hn5
          · rw [htk, List.filter_append, List.filter_cons, if_neg (by rw [h]; decide)]
            simpa using hr17
      · intro J3 hJ3
        refine cond_split (fun h => ld_mk (by rw [add_mk]; exact hb89 hx17 1 _ rfl) (asB_i rfl (hJ3 _ _ ⟨?_, rfl⟩))) (fun h => hJ3 _ _ ⟨?_, rfl⟩)
        · have h' : (meetV s.e.box b).1 = true := h
          rw [hpT, h']; rfl
        · have h' : (meetV s.e.box b).1 = false := h
          rw [hpT, h']; rfl
  · have hil : i = pl'.length := by
      have := of_decide_eq_false hc
      omega
    subst hil
    rw [List.take_length, hfil, ← eO] at hr5 hn5
    subst hn5
    refine lv_i (hK p5 c5 w5 ((hS3.ext).trans hx5) (hr5.mono hS3.ext.size))
end Go.Proofs.Ytamobmjfdiecbaa
