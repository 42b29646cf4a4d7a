/- PhD: the plain law of steps: whoever is far away changes nothing. No condition beyond each theorem's own. -/
import Derived.Test.YtamobmjfdiecbaaDoorMgPhysicsApart6
namespace Go.Proofs.YtamobmjfdiecbaaDoor
open Go Go.Sx Go.Fp

theorem pushF_app {s : Int} {a : Bx} {k : Bool} : ∀ {xs ys : List Bx} {i : Int} {p : Int × Int}, pushF s a k (xs ++ ys) i p = pushF s a k ys (i + xs.length) (pushF s a k xs i p)
  | [], ys, i, p => by simp [pushF]
  | x :: xs, ys, i, p => by
    simp only [List.cons_append, pushF, List.length_cons]
    rw [pushF_app]
    congr 1
    omega
theorem pushF_far {s : Int} {a : Bx} {k : Bool} : ∀ {ys : List Bx} {i : Int} {p : Int × Int}, p.1 ≤ 17179869184 → (∀ b ∈ ys, 17179869184 ≤ gap a b false) → pushF s a k ys i p = p
  | [], _, _, _, _ => rfl
  | b :: ys, i, p, h, hg => by
    simp only [pushF]
    have hb := hg b List.mem_cons_self
    have : stepP s a k b i p = p := by
      unfold stepP
      rw [if_neg]
      rintro ⟨_, h1, h2, h3⟩
      cases k
      · omega
      · have h3' : gap a b false < 0 := h3
        omega
    rw [this]
    exact pushF_far h fun c hc => hg c (List.mem_cons_of_mem _ hc)

/-- near, and far -/
def Nr (e : Ent) : Prop := -17179869184 ≤ e.x ∧ e.x ≤ 85899345920
def Fr (e : Ent) : Prop := 2199023255552 ≤ e.x
theorem gap_far {e o : Ent} (he : e.rightE = 0) (ho : o.rightE = 0) (hn : Nr e) (hf : Fr o) : 17179869184 ≤ gap e.box o.box false := by
  have h1 := r_rng he
  have h2 := r_rng ho
  have hg : gap e.box o.box false = adiff e.x o.x - e.r - o.r := rfl
  unfold Nr at hn
  unfold Fr at hf
  rw [hg]
  rcases adiff_cases e.x o.x with ⟨ee, _⟩ | ⟨ee, _⟩ <;> rw [ee] <;> omega

theorem turnE_far {X Y : List Ent} {e : Ent} {k : Bool} (he : e.rightE = 0) (hX : ∀ o ∈ X, o.rightE = 0) (hY : ∀ o ∈ Y, o.rightE = 0 ∧ Fr o) (hn : Nr e) : turnE (X ++ Y) e k = turnE X e k := by
  have hXY : ∀ o ∈ X ++ Y, o.rightE = 0 := fun o ho => by
    rcases List.mem_append.1 ho with h | h
    · exact hX o h
    · exact (hY o h).1
  have eo : oth (X ++ Y) e.h = oth X e.h ++ oth Y e.h := by unfold oth; rw [List.filter_append]
  have hP := pushV_ok (k := k) (rights_all hXY e.h) (box_right he) (within_vel he k)
  have hQ := pushV_ok (k := k) (rights_all hX e.h) (box_right he) (within_vel he k)
  have hrng := pushV_rng (k := k) (rights_all hX e.h) (box_right he) (within_vel he k)
  have hv := vel_rng he k
  have hm : mgn (e.vel k) ≤ 17179869184 := by unfold mgn; split <;> omega
  have hle := pushF_le (sgn (e.vel k)) e.box k ((oth X e.h).map Ent.box) 0 (mgn (e.vel k), -1)
  simp only at hle
  have hF : pushF (sgn (e.vel k)) e.box k ((oth (X ++ Y) e.h).map Ent.box) 0 (mgn (e.vel k), -1) = pushF (sgn (e.vel k)) e.box k ((oth X e.h).map Ent.box) 0 (mgn (e.vel k), -1) := by
    rw [eo, List.map_append, pushF_app]
    refine pushF_far (by omega) fun b hb => ?_
    obtain ⟨o, ho, rfl⟩ := List.mem_map.1 hb
    have ho' := hY o (List.mem_filter.1 ho).1
    exact gap_far he ho'.1 hn ho'.2
  rw [hF, ← hQ] at hP
  have eP : turnP (X ++ Y) e k = turnP X e k := hP
  have hrng' : (turnP X e k).2.1 < ((oth X e.h).map Ent.box).length := hrng.2.2.2
  rw [List.length_map] at hrng'
  unfold turnE
  rw [eP, eo]
  split
  · rfl
  · split
    · rename_i h0
      rw [List.map_append]
      congr 1
      have hl : (turnP X e k).2.1.toNat < ((oth X e.h).map (·.h)).length := by
        rw [List.length_map]
        omega
      rw [List.getD_eq_getElem?_getD, List.getD_eq_getElem?_getD, List.getElem?_append_left hl]
    · rfl

theorem turn1_far {X Y : List Ent} {t : List (Int × Int)} {met : List Int} {m : Nat} {k : Bool} {e : Ent} (hm : X[m]? = some e) (he : e.rightE = 0) (hX : ∀ o ∈ X, o.rightE = 0) (hY : ∀ o ∈ Y, o.rightE = 0 ∧ Fr o) (hn : Nr e) :
    turn1 m ⟨X ++ Y, t, met⟩ k = ⟨(turn1 m ⟨X, t, met⟩ k).L ++ Y, (turn1 m ⟨X, t, met⟩ k).t, (turn1 m ⟨X, t, met⟩ k).met⟩ := by
  have hml := (List.getElem?_eq_some_iff.1 hm).1
  have hm' : (X ++ Y)[m]? = some e := by rw [List.getElem?_append_left hml]; exact hm
  unfold turn1
  simp only [hm', hm, turnE_far he hX hY hn]
  rw [List.set_append_left _ _ hml]
  split <;> rfl

theorem step_far {X Y : List Ent} (hX : ∀ o ∈ X, o.rightE = 0) (hnd : (X.map (·.h)).Nodup) (hN : ∀ o ∈ X, 0 ≤ o.x ∧ o.x ≤ 68719476736) (hY : ∀ o ∈ Y, o.rightE = 0 ∧ Fr o) : ∀ m, m ≤ X.length → (stepN (X ++ Y) m).L = (stepN X m).L ++ Y ∧ (stepN (X ++ Y) m).t = (stepN X m).t
  | 0, _ => ⟨rfl, rfl⟩
  | m + 1, h => by
    obtain ⟨h1, h2⟩ := step_far hX hnd hN hY m (by omega)
    have hkp := Kp.step hX hnd m
    obtain ⟨e, he⟩ : ∃ e, X[m]? = some e := ⟨_, List.getElem?_eq_getElem (by omega)⟩
    have hem := List.mem_of_getElem? he
    have heR := hX e hem
    have hex := hN e hem
    have he0 : (stepN X m).L[m]? = some e := by rw [stepN_before (Nat.le_refl _)]; exact he
    have e1 : stepN (X ++ Y) (m + 1) = turn1 m (turn1 m ⟨(stepN X m).L ++ Y, (stepN X m).t, []⟩ false) true := by
      show turnN m ⟨(stepN (X ++ Y) m).L, (stepN (X ++ Y) m).t, []⟩ 2 = _
      rw [h1, h2]
      rfl
    have e2 : stepN X (m + 1) = turn1 m (turn1 m ⟨(stepN X m).L, (stepN X m).t, []⟩ false) true := rfl
    rw [e1, e2]
    rw [turn1_far (e := e) he0 heR hkp.rt hY (by unfold Nr; omega)]
    have he1 := turn1_at (k := false) (s := ⟨(stepN X m).L, (stepN X m).t, []⟩) he0
    have hkp1 := Kp.turn1 (s := ⟨(stepN X m).L, (stepN X m).t, []⟩) hkp hnd m false
    obtain ⟨w, v, g1, g2, g3, _⟩ := turn_open (k := false) heR hkp.rt
    have hb1 := pushF_le (sgn (e.vel false)) e.box false ((oth (stepN X m).L e.h).map Ent.box) 0 (mgn (e.vel false), -1)
    simp only at hb1
    have hv := vel_rng heR false
    have hmg : mgn (e.vel false) ≤ 17179869184 := by unfold mgn; split <;> omega
    have hx1 : (turnE (stepN X m).L e false).1.x = e.x + sgn (e.vel false) * w := by rw [g1]; rfl
    have hNr : Nr (turnE (stepN X m).L e false).1 := by
      unfold Nr
      rw [hx1]
      rcases sgn_cases (e.vel false) with ⟨hs, _, _⟩ | ⟨hs, _, _⟩ <;> rw [hs] <;> omega
    rw [turn1_far he1 (turnE_right heR) hkp1.rt hY hNr]
    exact ⟨rfl, rfl⟩
theorem stepV_far {X Y : List Ent} (hX : ∀ o ∈ X, o.rightE = 0) (hnd : (X.map (·.h)).Nodup) (hN : ∀ o ∈ X, 0 ≤ o.x ∧ o.x ≤ 68719476736) (hY : ∀ o ∈ Y, o.rightE = 0 ∧ Fr o) : (stepV (X ++ Y)).L.take X.length = (stepV X).L := by
  have key : ∀ m, X.length ≤ m → ∀ j, j < X.length → (stepN (X ++ Y) m).L[j]? = (stepN X X.length).L[j]? := by
    intro m hm
    induction m with
    | zero => intro j hj; omega
    | succ m ih =>
      intro j hj
      by_cases h : X.length = m + 1
      · rw [← h, (step_far hX hnd hN hY X.length (Nat.le_refl _)).1, List.getElem?_append_left (by rw [stepN_len]; exact hj)]
      · rw [stepN_ne (by omega)]
        exact ih (by omega) j hj
  refine List.ext_getElem? fun j => ?_
  rw [List.getElem?_take]
  split
  · rename_i hj
    exact key _ (by rw [List.length_append]; omega) j hj
  · rename_i hj
    rw [List.getElem?_eq_none (by rw [show (stepV X).L = (stepN X X.length).L from rfl, stepN_len]; omega)]

/-! ### the worlds' lists -/
def hdl : List Ent → Nat → List Ent
  | [], _ => []
  | e :: es, j => { e with h := (0 + 1) * 64 + (j : Int) } :: hdl es (j + 1)
def hsp : List Ent → Nat → List Spot
  | [], _ => []
  | e :: es, j => spn Spot.zero j e :: hsp es (j + 1)
theorem hdl_app : ∀ (xs ys : List Ent) (j : Nat), hdl (xs ++ ys) j = hdl xs j ++ hdl ys (j + xs.length)
  | [], ys, j => by simp [hdl]
  | x :: xs, ys, j => by
    show { x with h := (0 + 1) * 64 + (j : Int) } :: hdl (xs ++ ys) (j + 1) = { x with h := (0 + 1) * 64 + (j : Int) } :: hdl xs (j + 1) ++ hdl ys (j + (xs.length + 1))
    rw [hdl_app xs ys (j + 1), List.cons_append, show j + 1 + xs.length = j + (xs.length + 1) from by omega]
theorem hsp_app : ∀ (xs ys : List Ent) (j : Nat), hsp (xs ++ ys) j = hsp xs j ++ hsp ys (j + xs.length)
  | [], ys, j => by simp [hsp]
  | x :: xs, ys, j => by
    show spn Spot.zero j x :: hsp (xs ++ ys) (j + 1) = spn Spot.zero j x :: hsp xs (j + 1) ++ hsp ys (j + (xs.length + 1))
    rw [hsp_app xs ys (j + 1), List.cons_append, show j + 1 + xs.length = j + (xs.length + 1) from by omega]
theorem hsp_len : ∀ (xs : List Ent) (j : Nat), (hsp xs j).length = xs.length
  | [], _ => rfl
  | x :: xs, j => by unfold hsp; rw [List.length_cons, hsp_len xs (j + 1)]; rfl
theorem hdl_len : ∀ (xs : List Ent) (j : Nat), (hdl xs j).length = xs.length
  | [], _ => rfl
  | x :: xs, j => by unfold hdl; rw [List.length_cons, hdl_len xs (j + 1)]; rfl
theorem hsp_full : ∀ (xs : List Ent) (j : Nat), ∀ s ∈ hsp xs j, free s = false
  | [], _, s, h => by cases h
  | x :: xs, j, s, h => by
    unfold hsp at h
    rcases List.mem_cons.1 h with rfl | h
    · rfl
    · exact hsp_full xs (j + 1) s h
theorem spawnL_app {e : Ent} : ∀ {A B : List Spot} {k : Nat}, (∀ s ∈ A, free s = false) → spawnL e (A ++ B) k = A ++ spawnL e B (k + A.length)
  | [], B, k, _ => by simp
  | a :: A, B, k, h => by
    rw [List.cons_append]
    have h0 := h a List.mem_cons_self
    show (if free a = true then spn a k e :: (A ++ B) else a :: spawnL e (A ++ B) (k + 1)) = _
    rw [h0, if_neg (by decide), spawnL_app fun s hs => h s (List.mem_cons_of_mem _ hs), List.cons_append, List.length_cons, show k + 1 + A.length = k + (A.length + 1) from by omega]
theorem listS_app (A B : List Spot) : listS (A ++ B) = listS A ++ listS B := by unfold listS; rw [List.filter_append, List.map_append]
theorem listS_hsp : ∀ (xs : List Ent) (j : Nat), listS (hsp xs j) = hdl xs j
  | [], _ => rfl
  | x :: xs, j => by
    unfold hsp hdl
    rw [← listS_hsp xs (j + 1)]
    rfl
theorem listS_zero (n : Nat) : listS (List.replicate n Spot.zero) = [] := by
  unfold listS
  rw [List.filter_eq_nil_iff.2 fun s hs => by rw [List.eq_of_mem_replicate hs]; decide]
  rfl
def rts (es : List Ent) : List Ent := es.filter fun e => decide (e.rightE = 0)
theorem made_hsp {es : List Ent} (hl : es.length ≤ 40) : ∀ i, i ≤ es.length → madeN es [] i = hsp (rts (es.take i)) 0 ++ List.replicate (64 - (rts (es.take i)).length) Spot.zero
  | 0, _ => rfl
  | i + 1, h => by
    obtain ⟨e, he⟩ : ∃ e, es[i]? = some e := ⟨_, List.getElem?_eq_getElem (by omega)⟩
    have ih := made_hsp hl i (by omega)
    have e0 : madeN es [] (i + 1) = spawnS (madeN es [] i) e := by
      show (match es[i]? with | some e => if kd [] i = true then killS (spawnS (madeN es [] i) e) (kOf (([] : List Int).getD i 0)) else spawnS (madeN es [] i) e | none => madeN es [] i) = _
      rw [he]
      simp only
      have : kd [] i = false := by unfold kd; simp
      rw [this, if_neg (by decide)]
    have e1 : rts (es.take (i + 1)) = rts (es.take i) ++ (if e.rightE = 0 then [e] else []) := by
      unfold rts
      rw [List.take_add_one, he, List.filter_append]
      congr 1
      show List.filter _ [e] = _
      rw [List.filter_cons]
      by_cases hr : e.rightE = 0
      · rw [if_pos (decide_eq_true hr), if_pos hr]; rfl
      · rw [if_neg (by simpa using hr), if_neg hr]; rfl
    have hle : (rts (es.take i)).length ≤ i := by
      have h1 := List.length_filter_le (fun e : Ent => decide (e.rightE = 0)) (es.take i)
      rw [List.length_take] at h1
      unfold rts
      omega
    rw [e0, ih, e1]
    generalize rts (es.take i) = R at *
    unfold spawnS
    by_cases hr : e.rightE = 0
    · rw [if_pos hr, if_pos hr, spawnL_app (hsp_full R 0), hsp_len, hsp_app]
      obtain ⟨n, hn⟩ : ∃ n, 64 - R.length = n + 1 := ⟨64 - R.length - 1, by omega⟩
      rw [hn, List.replicate_succ]
      show hsp R 0 ++ (if free Spot.zero = true then spn Spot.zero (0 + R.length) e :: List.replicate n Spot.zero else _) = _
      rw [if_pos (by decide), List.length_append, List.length_singleton, show 64 - (R.length + 1) = n from by omega, List.append_assoc]
      rfl
    · rw [if_neg hr, if_neg hr, List.append_nil]
theorem made_list {es : List Ent} (hl : es.length ≤ 40) : listS (madeN es [] (min es.length 40)) = hdl (rts es) 0 := by
  rw [Nat.min_eq_left hl, made_hsp hl es.length (Nat.le_refl _), List.take_length, listS_app, listS_hsp, listS_zero, List.append_nil]
theorem hdl_mem {P : Ent → Prop} (hP : ∀ e h, P e → P { e with h := h }) : ∀ {xs : List Ent} {j : Nat}, (∀ e ∈ xs, P e) → ∀ e ∈ hdl xs j, P e
  | [], _, _, e, h => by cases h
  | x :: xs, j, hx, e, h => by
    unfold hdl at h
    rcases List.mem_cons.1 h with rfl | h
    · exact hP _ _ (hx x List.mem_cons_self)
    · exact hdl_mem hP (fun e he => hx e (List.mem_cons_of_mem _ he)) e h
end Go.Proofs.YtamobmjfdiecbaaDoor

/- PhL3: the law PhysicsSame comes out true for every input: a clone makes the same steps. Conditions: those of the law's arguments as they are read; the table of the axes as the program's text lays it. -/
namespace Go.Proofs.YtamobmjfdiecbaaDoor
open Go Go.Sx Go.Fp
attribute [local irreducible] jn lv ld st nw asI asB asP asS asY asM asF asA asT lp rn ru rq cl dw dr bnd bn2 nz nn hd hr so eqW
attribute [local irreducible] callOk

theorem sameT_k {w : World} {a b : Option Addr} {n m ca cb : Nat} {ts : List (Int × Int)} (hI : ∀ t ∈ ts, I64 t.1 ∧ I64 t.2) (ha : Reads w a (ts.flatMap tcl)) (hb : Reads w b (ts.flatMap tcl)) (hn : ts.length = n) (hm : ts.length = m) (hM : n ≤ 140737488351232) {K : Value → World → Prop}
    (hK : ∀ w', Ext no w w' → K (.bool true) w') : cl Tryd.prog 20 #[.slice a n ca, .slice b m cb] w K := by
  subst hm
  subst hn
  apply F20_calls
  unfold F20
  refine cond_f (by simp) (lv_i ?_)
  refine lp_mk (fun i : Nat => [.int .i64 (i : Int)]) (fun m i w' => m = ts.length - i ∧ i ≤ ts.length ∧ Ext no w w') ts.length 0 rfl ⟨rfl, Nat.zero_le _, Ext.refl _ _⟩ ?_
  rintro _ i w1 ⟨rfl, hi, hx⟩ J hJ
  refine asI_i rfl (cond_split (fun hc => ?_) (fun _ => hK w1 hx))
  have hlt : i < ts.length := by
    have := of_decide_eq_true hc
    omega
  have he : ts[i]? = some ts[i] := List.getElem?_eq_getElem hlt
  have hIe := hI _ (List.getElem_mem hlt)
  generalize ts[i] = t at he hIe
  refine dw_mk ?_
  have hx' : Ext no w w1.drew := hx.trans (Ext.drew w1)
  have rdT : ∀ {p : Option Addr}, Reads w p (ts.flatMap tcl) → ∀ {K : Addr → Prop}, (∀ a, w1.drew.cell? (Addr.add a (i * 2)) = some (.int .i64 t.1) → w1.drew.cell? (Addr.add (Addr.add a (i * 2)) 1) = some (.int .i64 t.2) → K a) → dr p fun a => bnd (i : Int) ts.length (K a) := fun {p} hp {K} hK =>
    Reads.atN (f := tcl) (s := 2) (fun _ => rfl) (Reads.no hx' hp) rfl he (by decide) fun a _ hca => hK a (by have := hca 0 (by decide); rwa [Sx.add_zero'] at this) (hca 1 (by decide))
  rw [Int.toNat_natCast]
  refine rdT ha fun a7 h0 h1 => ld_mk h0 (asI_i rfl (ld_mk h1 (asI_i rfl ?_)))
  refine rdT hb fun a12 h0 h1 => ld_mk h0 (asI_i rfl (ld_mk h1 (asI_i rfl ?_)))
  refine eqTch hIe.1 hIe.2 (cond_f rfl (lv_i ?_))
  have ei : IntKind.wrap .i64 ((i : Int) + 1) = ((i + 1 : Nat) : Int) := by rw [wr64 (by omega) (by omega)]; omega
  rw [ei]
  exact hJ (ts.length - (i + 1)) (i + 1) _ (by omega) ⟨rfl, by omega, hx'⟩

theorem touch_I {n : Nat} {S : List Spot} (hG : Good n S) : ∀ t ∈ (stepV (listS S)).t, I64 t.1 ∧ I64 t.2 := by
  intro t ht
  have hh := Tch.step (list_right hG) (hands_nd hG) (listS S).length t ht
  have key : ∀ x, x ∈ (listS S).map (·.h) → I64 x := fun x hx => by
    obtain ⟨e, he, rfl⟩ := List.mem_map.1 hx
    obtain ⟨m, s, hs, hth, rfl⟩ := listS_mem he
    exact ((hG m s hs).2.2.2 hth).2.2.2.1
  exact ⟨key _ hh.1, key _ hh.2.1⟩
theorem list_I {n : Nat} {S : List Spot} (hG : Good n S) : ∀ e ∈ listS S, e.I := fun e he => by
  obtain ⟨m, s, hs, ht, rfl⟩ := listS_mem he
  exact ((hG m s hs).2.2.2 ht).2.2.2

/-- two worlds of the program's, in blocks of their own -/
structure P2 (W w : World) (F : Nat → Prop) (r g : Nat) (S : List Spot) (B : List (Int × Bx)) (D : List ((Int × Int) × List Int)) (F2 : Nat → Prop) (r2 g2 : Nat) (S2 : List Spot) (B2 : List (Int × Bx)) (D2 : List ((Int × Int) × List Int)) (N : Nat) : Prop where
  ext : Ext no W w
  a : Wd w F r g S B D N
  b : Wd w F2 r2 g2 S2 B2 D2 N
  ds : ∀ k, wF F r k → ¬ wF F2 r2 k
  fr : ∀ k, (wF F r k ∨ wF F2 r2 k) → W.heap.size ≤ k
section
variable {W w : World} {F F2 : Nat → Prop} {r g r2 g2 : Nat} {S S2 : List Spot} {B B2 : List (Int × Bx)} {D D2 : List ((Int × Int) × List Int)} {N : Nat}
theorem P2.swap (h : P2 W w F r g S B D F2 r2 g2 S2 B2 D2 N) : P2 W w F2 r2 g2 S2 B2 D2 F r g S B D N := ⟨h.ext, h.b, h.a, fun k hk hk' => h.ds k hk' hk, fun k hk => h.fr k hk.symm⟩
theorem P2.to (h : P2 W w F r g S B D F2 r2 g2 S2 B2 D2 N) {w' : World} (hx : Ext no w w') : P2 W w' F r g S B D F2 r2 g2 S2 B2 D2 N := ⟨h.ext.trans hx, h.a.ext hx fun _ _ h => h, h.b.ext hx fun _ _ h => h, h.ds, h.fr⟩
theorem P2.mono (h : P2 W w F r g S B D F2 r2 g2 S2 B2 D2 N) {M : Nat} (hM : N ≤ M) : P2 W w F r g S B D F2 r2 g2 S2 B2 D2 M := ⟨h.ext, h.a.mono hM, h.b.mono hM, h.ds, h.fr⟩
theorem P2.ltb (h : P2 W w F r g S B D F2 r2 g2 S2 B2 D2 N) : ∀ k, wF F2 r2 k → k < w.heap.size := by
  rintro k (hk | rfl)
  · exact h.b.f_lt k hk
  · exact h.b.r_lt
theorem P2.step (h : P2 W w F r g S B D F2 r2 g2 S2 B2 D2 N) {n : Nat} (hA : Ax W) (hG : Good n S) (hLi : Lies S B D) (hB : (B.map (·.1)).Nodup) (hN : N ≤ 500000000000) {K : Value → World → Prop}
    (hK : ∀ p c w' F' S' B' D', P2 W w' F' r g S' B' D' F2 r2 g2 S2 B2 D2 (N + 131072) → Good n S' → Lies S' B' D' → (B'.map (·.1)).Nodup → listS S' = (stepV (listS S)).L → Ext (wF F r) w w' →
      RowN w' w.heap.size 47 2 p c (stepV (listS S)).t.length ((stepV (listS S)).t.flatMap tcl) → K (.slice p (stepV (listS S)).t.length c) w') :
    cl Tryd.prog 11 #[.pointer (some ⟨r, 0, none⟩)] w K := by
  have h0 : 0 < W.heap.size := Nat.lt_of_le_of_lt (Nat.zero_le _) (World.block_lt_of_cell? W _ hA.a0)
  refine step_k (hA.no h.ext) h.a (fun hk => ?_) hG hLi hB hN fun p c w' F' S' B' D' hw hx hF hG' hL' hB' hl hr _ => hK p c w' F' S' B' D' ⟨?_, hw, ?_, fun k hk hk2 => ?_, fun k hk => ?_⟩ hG' hL' hB' hl hx hr
  · have := h.fr 0 (.inl hk)
    omega
  · exact h.ext.then hx fun k hk hkF => by
      have := h.fr k (.inl hkF)
      omega
  · exact (h.b.ext hx fun k hk hkF => h.ds k hkF hk).mono (by omega)
  · have := h.ltb k hk2
    rcases hk with hk | hk
    · rcases hF k hk with h' | h'
      · exact h.ds k (.inl h') hk2
      · omega
    · exact h.ds k (.inr hk) hk2
  · rcases hk with (hk | hk) | hk
    · rcases hF k hk with h' | h'
      · exact h.fr k (.inl (.inl h'))
      · have := h.ext.size
        omega
    · exact h.fr k (.inl (.inr hk))
    · exact h.fr k (.inr hk)
end

set_option maxHeartbeats 2000000 in
theorem physicsSame_law (W : World) (hA : Ax W) (a0 : Option Addr) (len0 cap0 : Nat) (z0 : List (List Value)) (R0 : Reads W a0 z0.flatten) (L0 : z0.length = len0) (F0 : ∀ c ∈ z0, FitsAll [.int .i64, .int .i64, .int .i64, .int .i64, .int .i64, .int .i64, .int .i64, .int .i64] c) (Y0 : len0 * 64 ≤ 140737488351232)
    (a1 : Option Addr) (len1 cap1 : Nat) (z1 : List Int) (Ra : Reads W a1 (iv .i64 z1)) (La : z1.length = len1) (_F1 : ∀ n ∈ z1, (Lit.int .i64 n).wf = true) (_Y1 : len1 * 8 ≤ 140737488351232) (steps : Int) (_ws : (Lit.int .i64 steps).wf = true) :
    cl Tryd.prog 7 #[.slice a0 len0 cap0, .slice a1 len1 cap1, .int .i64 steps] W fun v w' => v = .bool true ∧ Ext no W w' := by
  obtain ⟨es, hz, hl, hI⟩ := ents_of rfl F0
  rw [hz] at R0
  rw [L0] at hl
  clear hz L0 F0
  apply F7_calls
  unfold F7
  refine awake20_k hA fun w2 hx2 => asB_i rfl ?_
  refine made_pw hx2 R0 hl hI Ra La fun w5 F r g x B D hP hG hLi hB => asT_i rfl rfl (asP_i rfl (asP_i rfl ?_))
  generalize madeN es z1 (min len0 40) = S at *
  refine jn_of (fun t w' => t = [.bool false] ∧ w' = w5) ?_ ?_
  rotate_left
  · intro J hJ
    exact cond_f rfl (hJ _ _ ⟨rfl, rfl⟩)
  rintro _ w5 ⟨rfl, rfl⟩
  refine asB_i rfl (cond_f rfl ?_)
  refine clone_k hP.wd hG fun w14 F2 r2 g2 B2 D2 hW2 hL2 hB2 hx14 hF2 hr2 => asP_i rfl (cond_f rfl (lv_i ?_))
  have hP2 : P2 W w14 F r g S B D F2 r2 g2 S B2 D2 65536 := by
    have hlt := hP.lt
    have hsz := hP.st.ext.size
    refine ⟨hP.st.ext.trans hx14, (hP.wd.ext hx14 fun _ _ h => h).mono (by omega), hW2, fun k hk hk2 => ?_, fun k hk => ?_⟩
    · have := hlt k hk
      rcases hk2 with hk2 | hk2
      · have := hF2 k hk2
        omega
      · omega
    · rcases hk with hk | hk | hk
      · exact (hP.fr k hk).1
      · have := hF2 k hk
        omega
      · omega
  refine lp_mk (fun i : Nat => [.int .i64 (i : Int)]) (fun m i w' => m = 4 - i ∧ i ≤ 4 ∧ ∃ F S B D F2 S2 B2 D2, P2 W w' F r g S B D F2 r2 g2 S2 B2 D2 (65536 + 262144 * i) ∧ Good 40 S ∧ Lies S B D ∧ (B.map (·.1)).Nodup ∧ Good 40 S2 ∧ Lies S2 B2 D2 ∧ (B2.map (·.1)).Nodup ∧ listS S = listS S2) 4 0 rfl
    ⟨rfl, Nat.zero_le _, F, S, B, D, F2, S, B2, D2, hP2, hG, hLi, hB, hG, hL2, hB2, rfl⟩ ?_
  clear hP hG hLi hB hW2 hL2 hB2 hx14 hF2 hr2 hP2 F F2 S B D B2 D2 hx2
  rintro _ n w18 ⟨rfl, hn, F, S, B, D, F2, S2, B2, D2, hP, hG, hLi, hB, hG2, hL2, hB2, hSS⟩ J hJ
  have h3 := andm steps (m := 3) (by decide)
  refine asI_i rfl (cond_split (fun hc => ?_) (fun _ => ⟨rfl, hP.ext⟩))
  have hn4 : n < 4 := by
    have := of_decide_eq_true hc
    have : Go.bits .and .i64 steps (3 : Int) ≤ 3 := h3.2
    omega
  have en : IntKind.wrap .i64 ((n : Int) + 1) = ((n + 1 : Nat) : Int) := by rw [wr64 (by omega) (by omega)]; omega
  refine hP.step hA hG hLi hB (by omega) fun p23 c25 w22 F1 S1 B1 D1 hPa hG1 hL1 hB1 hl1 hx22 hr22 => asS_i rfl ?_
  refine hPa.swap.step hA hG2 hL2 hB2 (by omega) fun p28 c30 w27 F3 S3 B3 D3 hPb hG3 hL3 hB3 hl3 hx27 hr27 => asS_i rfl ?_
  have hTI := touch_I hG
  have htl := stepN_t (L := listS S) (listS S).length
  have hll := listS_len S
  have h64 := hP.a.ws.len
  have e1 : stepV (listS S) = stepN (listS S) (listS S).length := rfl
  rw [← e1] at htl
  rw [← hSS] at hl3 hr27 ⊢
  have hrd1 : Reads w27 p23 ((stepV (listS S)).t.flatMap tcl) := hr22.reads.ext hx27 fun a ha hk => by
    have := (hr22.at ha).1
    have := hP.ltb _ hk
    omega
  refine sameT_k hTI hrd1 hr27.reads rfl rfl (by omega) fun w32 hx32 => asB_i rfl ?_
  have hPc := hPb.to hx32
  have hl13 : listS S1 = listS S3 := by rw [hl1, hl3]
  have hll1 := listS_len S1
  have h641 := hPa.a.ws.len
  refine list_k hPc.b.ws fun p36 c38 w35 hx35 hr35 => asS_i rfl ?_
  refine list_k (hPc.to hx35).a.ws fun p41 c43 w40 hx40 hr40 => asS_i rfl ?_
  rw [← hl13] at hr40 ⊢
  refine rsame_k (list_I hG1) (Reads.no hx40 hr35.reads) hr40.reads rfl rfl (by omega) fun w45 hx45 => asB_i rfl ?_
  have hPd := ((hPc.to hx35).to hx40).to hx45
  refine jn_of (fun t w' => t = [.bool false] ∧ w' = w45) ?_ ?_
  · rintro _ w48 ⟨rfl, rfl⟩
    refine asB_i rfl (cond_f rfl (lv_i ?_))
    rw [en]
    exact hJ (4 - (n + 1)) (n + 1) _ (by omega) ⟨rfl, by omega, F1, S1, B1, D1, F3, S3, B3, D3, hPd.swap.mono (by omega), hG1, hL1, hB1, hG3, hL3, hB3, hl13⟩
  · intro J2 hJ2
    exact cond_f rfl (hJ2 _ _ ⟨rfl, rfl⟩)
end Go.Proofs.YtamobmjfdiecbaaDoor

/- PhL5: the law PhysicsLocal comes out true for every input: whoever is far away changes nothing. Conditions: those of the law's arguments as they are read; the table of the axes as the program's text lays it. -/
namespace Go.Proofs.YtamobmjfdiecbaaDoor
open Go Go.Sx Go.Fp
attribute [local irreducible] jn lv ld st nw asI asB asP asS asY asM asF asA asT lp rn ru rq cl dw dr bnd bn2 nz nn hd hr so eqW
attribute [local irreducible] callOk

theorem _root_.Go.Sx.RowN.emp {w : World} {r : Nat} {e : TypeId} {s base : Nat} (hb : w.heap[r]? = some (.cells #[] e (0, 0))) (hr : base ≤ r) : RowN w base e s (some ⟨r, 0, none⟩) 0 0 [] :=
  ⟨⟨by simp, .inr ⟨r, 0, #[], rfl, hr, hb, Nat.le_refl _, by simp [maxLen], by simp, by simp⟩⟩⟩
def msk (n : Int) : Int := Go.bits .and .i64 n (68719476735 : Int)
theorem msk_rng (n : Int) : 0 ≤ msk n ∧ msk n ≤ 68719476735 := andm n (m := 68719476735) (by decide)
def nearE (e : Ent) : Ent := { e with x := msk e.x, y := msk e.y }
def farE (e : Ent) : Ent := { e with x := IntKind.wrap .i64 ((2199023255552 : Int) + msk e.x), y := msk e.y }
theorem nearE_I {e : Ent} (h : e.I) : (nearE e).I := by
  obtain ⟨i0, i1, i2, i3, i4, i5, i6, i7⟩ := h
  have h1 := msk_rng e.x
  have h2 := msk_rng e.y
  refine ⟨i0, ?_, ?_, i3, i4, i5, i6, i7⟩
  · show I64 (msk e.x)
    unfold I64; omega
  · show I64 (msk e.y)
    unfold I64; omega
theorem farE_x (e : Ent) : (farE e).x = 2199023255552 + msk e.x := by
  have h1 := msk_rng e.x
  exact wr64 (by omega) (by omega)
theorem farE_I {e : Ent} (h : e.I) : (farE e).I := by
  obtain ⟨i0, i1, i2, i3, i4, i5, i6, i7⟩ := h
  have h1 := msk_rng e.x
  have h2 := msk_rng e.y
  refine ⟨i0, ?_, ?_, i3, i4, i5, i6, i7⟩
  · show I64 (farE e).x
    rw [farE_x]
    unfold I64; omega
  · show I64 (msk e.y)
    unfold I64; omega

set_option maxHeartbeats 4000000 in
theorem physicsLocal_law (W : World) (hA : Ax W) (a0 : Option Addr) (len0 cap0 : Nat) (z0 : List (List Value)) (R0 : Reads W a0 z0.flatten) (L0 : z0.length = len0) (F0 : ∀ c ∈ z0, FitsAll [.int .i64, .int .i64, .int .i64, .int .i64, .int .i64, .int .i64, .int .i64, .int .i64] c) (Y0 : len0 * 64 ≤ 140737488351232)
    (a1 : Option Addr) (len1 cap1 : Nat) (z1 : List (List Value)) (Ra : Reads W a1 z1.flatten) (La : z1.length = len1) (F1 : ∀ c ∈ z1, FitsAll [.int .i64, .int .i64, .int .i64, .int .i64, .int .i64, .int .i64, .int .i64, .int .i64] c) (Y1 : len1 * 64 ≤ 140737488351232) :
    cl Tryd.prog 6 #[.slice a0 len0 cap0, .slice a1 len1 cap1] W fun v w' => v = .bool true ∧ Ext no W w' := by
  obtain ⟨es, hz, hl, hI⟩ := ents_of rfl F0
  rw [hz] at R0
  rw [L0] at hl
  clear hz L0 F0
  obtain ⟨fs, hz, hlf, hIf⟩ := ents_of rfl F1
  rw [hz] at Ra
  rw [La] at hlf
  clear hz La F1
  apply F6_calls
  unfold F6
  refine awake20_k hA fun w2 hx2 => asB_i rfl (lv_i ?_)
  have hS := (St.start W).to hx2
  refine lp_mk (fun s : (Option Addr × Nat × Nat) × Nat => [.slice s.1.1 s.1.2.1 s.1.2.2, .int .i64 (s.2 : Int)])
    (fun m s w' => m = len0 - s.2 ∧ s.2 ≤ len0 ∧ s.2 ≤ 20 ∧ ∃ ys, TE W w' [] s.1.1 s.1.2.1 s.1.2.2 ys ∧ s.1.2.1 = s.2 ∧ ∀ e ∈ ys, e.I ∧ 0 ≤ e.x ∧ e.x ≤ 68719476735) len0 ((none, 0, 0), 0) rfl
    ⟨rfl, Nat.zero_le _, Nat.zero_le _, [], ⟨hS, RowN.nil _ _ _ _, fun _ h => by cases h⟩, rfl, by simp⟩ ?_
  clear hS hx2
  rintro _ ⟨⟨p, nn, c⟩, i⟩ w6 ⟨rfl, hi, hi2, ys, hT, hnn, hys⟩ J hJ
  simp only at hi hi2 hT hnn hJ ⊢
  refine asS_i rfl (asI_i rfl ?_)
  refine jn_of (fun s w' => ∃ b, s = [.bool b] ∧ w' = w6 ∧ (b = true → i < len0 ∧ i < 20)) ?_ ?_
  rotate_left
  · intro J2 hJ2
    refine cond_split (fun h1 => hJ2 _ _ ⟨_, rfl, rfl, fun h2 => ?_⟩) (fun _ => hJ2 _ _ ⟨_, rfl, rfl, fun h => by cases h⟩)
    have := of_decide_eq_true h1
    have := of_decide_eq_true h2
    omega
  rintro _ w13 ⟨b0, rfl, rfl, hb⟩
  refine asB_i rfl (cond_split (fun h => ?_) (fun _ => ?_))
  · obtain ⟨hl1, hl2⟩ := hb h
    have he : es[i]? = some es[i] := List.getElem?_eq_getElem (by omega)
    have hIe := hI _ (List.getElem_mem (by omega : i < es.length))
    generalize es[i] = e at he hIe
    have ei : IntKind.wrap .i64 ((i : Int) + 1) = ((i + 1 : Nat) : Int) := by rw [wr64 (by omega) (by omega)]; omega
    refine Reads.atN (f := Ent.cells) Ent.cells_length (Reads.no hT.st.ext R0) hl he (by decide) fun a' _ hca => ?_
    rw [Int.toNat_natCast]
    refine ld8c hca ?_
    refine hT.nw (cs := Ent.zero.cells) fun r33 w34 hT => hT.st8 rfl e fun w42 hT => ?_
    have add1 : Addr.add (⟨r33, 0, none⟩ : Addr) 1 = ⟨r33, 1, none⟩ := by rw [add_mk]
    have add2 : Addr.add (⟨r33, 1, none⟩ : Addr) 1 = ⟨r33, 2, none⟩ := by rw [add_mk]
    rw [add1, add2]
    have hc : ∀ k v, e.cells[k]? = some v → w42.cell? ⟨r33, k, none⟩ = some v := fun k v hv => by
      rw [blk_cell (hT.st.kn _ List.mem_cons_self).1]
      simpa using hv
    refine ld_mk (hc 1 _ rfl) (asI_i rfl (ld_mk (hc 2 _ rfl) (asI_i rfl ?_)))
    refine hT.one rfl rfl fun w47 hT => hT.one rfl rfl fun w48 hT => ?_
    rw [← add1]
    replace hT : TE W w48 [(r33, (nearE e).cells, 40)] p nn c ys := hT
    refine hT.ld8 ?_
    refine hT.tail.app (e := nearE e) (by omega) fun p' c' w66 hT => asS_i rfl (lv_i ?_)
    rw [ei]
    refine hJ (len0 - (i + 1)) ((p', nn + 1, c'), i + 1) w66 (by omega) ⟨rfl, by omega, by omega, _, hT, by simp only; omega, fun x hx => ?_⟩
    rcases List.mem_append.1 hx with hx | hx
    · exact hys x hx
    · rw [List.mem_singleton.1 hx]
      exact ⟨nearE_I hIe, msk_rng e.x⟩
  -- the second row
  have hylen := hT.len
  have hxW := hT.st.ext
  have hRn := hT.b.reads
  refine (St.start w13).nw (cs := []) fun r73 w74 hS74 => ?_
  have hb74 := (hS74.kn _ List.mem_cons_self).1
  have hr73 := (hS74.kn _ List.mem_cons_self).2
  have hRn74 := Reads.no hS74.ext hRn
  have hpn : p = none → nn = 0 := fun h0 => (hT.b.none h0).1
  have hone : ∀ u ∈ ys.flatMap Ent.cells, Sx.one u = true := by
    intro u hu
    obtain ⟨e, _, hu⟩ := List.mem_flatMap.1 hu
    simp only [Ent.cells, List.mem_cons, List.not_mem_nil, or_false] at hu
    rcases hu with rfl | rfl | rfl | rfl | rfl | rfl | rfl | rfl <;> rfl
  have hl8 : (ys.flatMap Ent.cells).length = nn * 8 := by rw [fl_lenN (f := Ent.cells) Ent.cells_length, hylen]
  refine sE.app (RowN.emp hb74 hr73) hS74.ext.size hRn74 hl8 hpn hone (le_maxLen (by omega)) (by omega) fun p77 c79 w76 hr76 hx76 hM76 _ => asS_i rfl (lv_i ?_)
  have hT2 : TE w13 w76 [] p77 (0 + nn) c79 ys := by
    refine ⟨⟨hS74.ext.then hx76 fun k hk ⟨a, ha, hka⟩ => ?_, by simp, List.Pairwise.nil⟩, by simpa using hr76, by simp⟩
    cases ha
    simp only at hka hr73
    omega
  refine lp_mk (fun s : (Option Addr × Nat × Nat) × Nat => [.slice s.1.1 s.1.2.1 s.1.2.2, .int .i64 (s.2 : Int)])
    (fun m s w' => m = len1 - s.2 ∧ s.2 ≤ len1 ∧ s.2 ≤ 20 ∧ ∃ zs, TE w13 w' [] s.1.1 s.1.2.1 s.1.2.2 (ys ++ zs) ∧ zs.length = s.2 ∧ ∀ e ∈ zs, e.I ∧ Fr e) len1 ((p77, 0 + nn, c79), 0) rfl
    ⟨rfl, Nat.zero_le _, Nat.zero_le _, [], by simpa using hT2, rfl, by simp⟩ ?_
  clear hT2 hr76 hx76 hM76 hRn74 hS74 hb74 hr73
  rintro _ ⟨⟨q, mm, d⟩, j⟩ w82 ⟨rfl, hj, hj2, zs, hU, hzl, hzs⟩ J2 hJ2
  simp only at hj hj2 hU hzl hJ2 ⊢
  have hmm := hU.len
  rw [List.length_append] at hmm
  refine asS_i rfl (asI_i rfl ?_)
  refine jn_of (fun s w' => ∃ b, s = [.bool b] ∧ w' = w82 ∧ (b = true → j < len1 ∧ j < 20)) ?_ ?_
  rotate_left
  · intro J3 hJ3
    refine cond_split (fun h1 => hJ3 _ _ ⟨_, rfl, rfl, fun h2 => ?_⟩) (fun _ => hJ3 _ _ ⟨_, rfl, rfl, fun h => by cases h⟩)
    have := of_decide_eq_true h1
    have := of_decide_eq_true h2
    omega
  rintro _ w89 ⟨b1, rfl, rfl, hb1⟩
  refine asB_i rfl (cond_split (fun h => ?_) (fun _ => ?_))
  · obtain ⟨hl1, hl2⟩ := hb1 h
    have he : fs[j]? = some fs[j] := List.getElem?_eq_getElem (by omega)
    have hIe := hIf _ (List.getElem_mem (by omega : j < fs.length))
    generalize fs[j] = e at he hIe
    have ej : IntKind.wrap .i64 ((j : Int) + 1) = ((j + 1 : Nat) : Int) := by rw [wr64 (by omega) (by omega)]; omega
    refine Reads.atN (f := Ent.cells) Ent.cells_length (Reads.no (hxW.trans hU.st.ext) Ra) hlf he (by decide) fun a' _ hca => ?_
    rw [Int.toNat_natCast]
    refine ld8c hca ?_
    refine hU.nw (cs := Ent.zero.cells) fun r33 w34 hU => hU.st8 rfl e fun w42 hU => ?_
    have add1 : Addr.add (⟨r33, 0, none⟩ : Addr) 1 = ⟨r33, 1, none⟩ := by rw [add_mk]
    have add2 : Addr.add (⟨r33, 1, none⟩ : Addr) 1 = ⟨r33, 2, none⟩ := by rw [add_mk]
    rw [add1, add2]
    have hc : ∀ k v, e.cells[k]? = some v → w42.cell? ⟨r33, k, none⟩ = some v := fun k v hv => by
      rw [blk_cell (hU.st.kn _ List.mem_cons_self).1]
      simpa using hv
    refine ld_mk (hc 1 _ rfl) (asI_i rfl (ld_mk (hc 2 _ rfl) (asI_i rfl ?_)))
    refine hU.one rfl rfl fun w47 hU => hU.one rfl rfl fun w48 hU => ?_
    rw [← add1]
    replace hU : TE w13 w48 [(r33, (farE e).cells, 40)] q mm d (ys ++ zs) := hU
    refine hU.ld8 ?_
    refine hU.tail.app (e := farE e) (by omega) fun p' c' w66 hU => asS_i rfl (lv_i ?_)
    rw [ej]
    refine hJ2 (len1 - (j + 1)) ((p', mm + 1, c'), j + 1) w66 (by omega) ⟨rfl, by omega, by omega, zs ++ [farE e], by rw [← List.append_assoc]; exact hU, by rw [List.length_append]; simp only [List.length_singleton]; omega, fun x hx => ?_⟩
    rcases List.mem_append.1 hx with hx | hx
    · exact hzs x hx
    · rw [List.mem_singleton.1 hx]
      refine ⟨farE_I hIe, ?_⟩
      unfold Fr
      rw [farE_x]
      have := msk_rng e.x
      omega
  -- the two worlds
  have hX89 := hxW.trans hU.st.ext
  have hn20 : ys.length ≤ 20 := by omega
  refine made_pw2 ((St.start W).to hX89) (Reads.no hU.st.ext hRn) hylen (fun e he => (hys e he).1) fun w150 F r g x B D hP hx150 hfrP hG hLi hB => asT_i rfl rfl (asP_i rfl (asP_i rfl ?_))
  refine made_pw2 ((St.start W).to (hX89.trans hx150)) (Reads.no hx150 hU.b.reads) hU.len (fun e he => by
    rcases List.mem_append.1 he with he | he
    · exact (hys e he).1
    · exact (hzs e he).1) fun w155 F2 r2 g2 x2 B2 D2 hP2 hx155 hfrP2 hG2 hLi2 hB2 => asT_i rfl rfl (asP_i rfl (asP_i rfl ?_))
  have hmade1 := made_list (es := ys) (by omega)
  have hmade2 := made_list (es := ys ++ zs) (by rw [List.length_append]; omega)
  rw [hylen] at hmade1
  rw [hU.len] at hmade2
  generalize madeN ys [] (min nn 40) = S1 at *
  generalize madeN (ys ++ zs) [] (min mm 40) = S2 at *
  have hPP : P2 W w155 F r g S1 B D F2 r2 g2 S2 B2 D2 40960 := by
    refine ⟨hP2.st.ext, hP.wd.ext hx155 fun _ _ h => h, hP2.wd, fun k hk hk2 => ?_, fun k hk => ?_⟩
    · have := hP.lt k hk
      have := hfrP2 k hk2
      omega
    · rcases hk with hk | hk
      · exact (hP.fr k hk).1
      · exact (hP2.fr k hk).1
  have hXY : listS S2 = listS S1 ++ hdl (rts zs) (0 + (rts ys).length) := by
    rw [hmade2, hmade1, show rts (ys ++ zs) = rts ys ++ rts zs from List.filter_append .., hdl_app]
  have hXr := list_right hG
  have hXn := hands_nd hG
  have hXx : ∀ o ∈ listS S1, 0 ≤ o.x ∧ o.x ≤ 68719476736 := by
    rw [hmade1]
    refine hdl_mem (P := fun o => 0 ≤ o.x ∧ o.x ≤ 68719476736) (fun e h he => he) fun e he => ?_
    have := (hys e (List.mem_filter.1 he).1).2
    omega
  have hYr : ∀ o ∈ hdl (rts zs) (0 + (rts ys).length), o.rightE = 0 ∧ Fr o := by
    refine hdl_mem (P := fun o => o.rightE = 0 ∧ Fr o) (fun e h he => he) fun e he => ?_
    obtain ⟨h1, h2⟩ := List.mem_filter.1 he
    exact ⟨of_decide_eq_true h2, (hzs e h1).2⟩
  have hfar := stepV_far hXr hXn hXx hYr
  rw [← hXY] at hfar
  refine jn_of (fun t w' => t = [.bool false] ∧ w' = w155) ?_ ?_
  rotate_left
  · intro J3 hJ3
    exact cond_f rfl (cond_f rfl (hJ3 _ _ ⟨rfl, rfl⟩))
  rintro _ w160 ⟨rfl, rfl⟩
  refine asB_i rfl (cond_f rfl ?_)
  clear hP hP2 hfrP hfrP2
  refine list_k hPP.a.ws fun p165 c167 w164 hx164 _ => asS_i rfl (lv_i ?_)
  replace hPP := hPP.to hx164
  refine hPP.step hA hG hLi hB (by omega) fun p171 c173 w170 F3 S3 B3 D3 hPP hG3 hL3 hB3 hl3 _ _ => asS_i rfl ?_
  refine hPP.swap.step hA hG2 hLi2 hB2 (by omega) fun p176 c178 w175 F4 S4 B4 D4 hPP hG4 hL4 hB4 hl4 _ _ => asS_i rfl ?_
  refine list_k hPP.b.ws fun p181 c183 w180 hx180 hr180 => asS_i rfl ?_
  replace hPP := hPP.to hx180
  refine list_k hPP.a.ws fun p186 c188 w185 hx185 hr185 => asS_i rfl ?_
  have hE3 : (listS S3).length = (listS S1).length := by rw [hl3]; exact stepN_len _ _
  have hE4 : (listS S4).length = (listS S2).length := by rw [hl4]; exact stepN_len _ _
  have hE2 : (listS S1).length ≤ (listS S2).length := by rw [hXY, List.length_append]; omega
  have htk : (listS S4).take (listS S1).length = listS S3 := by rw [hl4, hl3]; exact hfar
  have hcap := hr185.le_max
  have hll := listS_len S3
  have h64 := hPP.b.ws.len
  refine jn_of (fun t w' => t = [.bool true] ∧ Ext no w185 w') ?_ ?_
  · rintro _ w190 ⟨rfl, hx190⟩
    exact asB_i rfl ⟨rfl, (hPP.ext.trans hx185).trans hx190⟩
  · intro J3 hJ3
    refine cond_t (by rw [hE3]; simp) (cond_t (decide_eq_true (by omega)) (bn2_mk (by omega) (by omega) ?_))
    rw [Int.toNat_natCast]
    have hpre : Reads w185 p186 ((listS S3).flatMap Ent.cells) := by
      have h1 := hr185.reads
      have h2 : (listS S4).flatMap Ent.cells = (listS S3).flatMap Ent.cells ++ ((listS S4).drop (listS S1).length).flatMap Ent.cells := by
        rw [← htk, ← List.flatMap_append, List.take_append_drop]
      rw [h2] at h1
      exact h1.pre
    exact rsame_k (list_I hG3) (Reads.no hx185 hr180.reads) hpre rfl hE3 (by omega) fun w193 hx193 => asB_i rfl (hJ3 _ _ ⟨rfl, hx193⟩)
end Go.Proofs.YtamobmjfdiecbaaDoor
