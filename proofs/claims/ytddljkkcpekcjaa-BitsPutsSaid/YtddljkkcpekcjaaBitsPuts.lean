/- BitsPuts: the law BitsPuts comes out true for every input: which bits a writer has behind any calls. Conditions: those of the law's arguments as they are read. -/
import Derived.Test.YtddljkkcpekcjaaBitsPutsA
namespace Go.Proofs.Ytddljkkcpekcjaa
open Go Go.Sx

theorem s55 : SlT Try.prog 55 9 (.string ByteArray.empty) 16 := ⟨rfl, ⟨_, rfl, rfl, rfl, rfl⟩, rfl⟩

def xr (bs : List Nat) : List Nat := bs.map (· ^^^ 255)
theorem xr_length (bs : List Nat) : (xr bs).length = bs.length := by simp [xr]
theorem xr_xr {bs : List Nat} (h : ∀ b ∈ bs, b < 256) : xr (xr bs) = bs := by
  simp only [xr, List.map_map]
  have : List.map ((· ^^^ 255) ∘ (· ^^^ 255)) bs = List.map id bs := List.map_congr_left fun b hb => (xor_byte (h b hb)).2.2
  rw [this, List.map_id]
theorem xr_small {bs : List Nat} (h : ∀ b ∈ bs, b < 256) : ∀ b ∈ xr bs, b < 256 := by
  intro b hb
  simp only [xr, List.mem_map] at hb
  obtain ⟨x, hx, rfl⟩ := hb
  exact (xor_byte (h x hx)).2.1

/-- a row is written over -/
theorem xor_loop {w : World} {base : Nat} {p : Option Addr} {c : Nat} {bs : List Nat} (row : Row w base 5 p c (bv bs)) (small : ∀ b ∈ bs, b < 256) (hc : bs.length = c) (hcl : c ≤ 1125899906842624) {N : World → Prop}
    (hN : ∀ w', Row w' base 5 p c (bv (xr bs)) → Ext (blocks p) w w' → N w') :
    lp [(.int .i64 (0 : Int))] w fun J43 s41 w42 => asI .i64 (s41.getD 0 undef) fun x44 => 
(cond (decide (x44 < (((Int.toNat (c : Int)) : Nat) : Int))) 
(dr p fun a45 => (bnd x44 (Int.toNat (c : Int)) (ld w42 (Addr.add a45 (Int.toNat x44 * 1)) fun v46 => asI .u8 v46 fun x47 => (dr p fun a48 => (bnd x44 (Int.toNat (c : Int)) (st w42 (Addr.add a48 (Int.toNat x44 * 1)) (.int .u8 (Go.bits .xor .u8 x47 (255 : Int))) fun w49 => 
(lv (IntKind.wrap .i64 (x44 + (1 : Int))) fun k_50 => (J43 [(.int .i64 k_50)] w49)))))))) (N w42)) := by
  subst hc
  refine lp_mk (fun i : Nat => [.int .i64 (i : Int)]) (fun m i w' => m = bs.length - i ∧ i ≤ bs.length ∧ Row w' base 5 p bs.length (bv (xr (bs.take i) ++ bs.drop i)) ∧ Ext (blocks p) w w') bs.length 0 rfl
    ⟨rfl, Nat.zero_le _, by simpa [xr] using row, Ext.refl _ _⟩ ?_
  rintro _ i w1 ⟨rfl, hi, row1, x1⟩ J hJ
  have hlen : (xr (bs.take i) ++ bs.drop i).length = bs.length := by simp [xr]; omega
  refine asI_i rfl (cond_split (fun h => ?_) (fun h => ?_))
  · have hil : i < bs.length := by
      rw [Int.toNat_natCast, decide_eq_true_eq] at h
      omega
    rw [Int.toNat_natCast (n := bs.length)]
    refine row1.reads.at (by omega) (by rw [Int.toNat_natCast]; exact bv_get (by omega)) ?_ (by rw [bv_length]; omega)
    have hd : bs.drop i = bs[i] :: bs.drop (i + 1) := List.drop_eq_getElem_cons hil
    have hxl : (xr (bs.take i)).length = i := by rw [xr_length, List.length_take]; omega
    have hget : (xr (bs.take i) ++ bs.drop i).getD i 0 = bs[i] := by
      rw [List.getD_eq_getElem?_getD, List.getElem?_append_right (by omega), hxl, hd, Nat.sub_self]
      rfl
    rw [hget]
    obtain ⟨o1, o2, _⟩ := xor_byte (small _ (List.getElem_mem hil))
    refine asI_i rfl ?_
    rw [o1]
    refine row1.st (by omega) (by rw [Int.toNat_natCast, bv_length]; omega) (by rw [bv_length]; omega) rfl ?_
    intro w2 row2 x2 _
    have ei : IntKind.wrap .i64 ((i : Int) + 1) = ((i + 1 : Nat) : Int) := by rw [wr64 (by omega) (by omega)]; omega
    refine lv_i ?_
    rw [ei]
    refine hJ (bs.length - (i + 1)) (i + 1) w2 (by omega) ⟨rfl, by omega, ?_, x1.trans x2⟩
    rw [Int.toNat_natCast, bv_set] at row2
    have es : (xr (bs.take i) ++ bs.drop i).set i (bs[i] ^^^ 255) = xr (bs.take (i + 1)) ++ bs.drop (i + 1) := by
      rw [List.set_append_right _ _ (by omega), hxl, hd, Nat.sub_self, List.set_cons_zero]
      have : List.take (i + 1) bs = List.take i bs ++ [bs[i]] := by rw [List.take_add_one, List.getElem?_eq_getElem hil]; rfl
      rw [this]
      simp only [xr, List.map_append, List.map_cons, List.map_nil, List.append_assoc, List.cons_append, List.nil_append]
    rw [es] at row2
    exact row2
  · have hil : i = bs.length := by
      rw [Int.toNat_natCast, decide_eq_false_iff_not] at h
      omega
    subst hil
    refine hN w1 ?_ x1
    simpa using row1

def sv (rows : List (Option Addr × List Nat)) : List Value := rows.map fun x => .slice x.1 x.2.length x.2.length
theorem sv_length (rows : List (Option Addr × List Nat)) : (sv rows).length = rows.length := by simp [sv]

structure Rows3 (w : World) (base hi : Nat) (q : Option Addr) (rows : List (Option Addr × List Nat)) : Prop where
  reads : Reads w q (sv rows)
  row : ∀ x ∈ rows, Row w base 5 x.1 x.2.length (bv x.2)
  under : ∀ x ∈ rows, ∀ a, x.1 = some a → a.block < hi

theorem owned_k {w : World} {base : Nat} {q : Option Addr} {cq : Nat} {rows : List (Option Addr × List Nat)} (hq : Reads w q (sv rows)) (hrow : ∀ x ∈ rows, Row w base 5 x.1 x.2.length (bv x.2)) (small : ∀ x ∈ rows, ∀ b ∈ x.2, b < 256)
    (hl : ∀ x ∈ rows, x.2.length ≤ 1048576) (hn : rows.length ≤ 1048576) (apart : ∀ (i j : Nat) x y, i ≠ j → rows[i]? = some x → rows[j]? = some y → Apart x.1 y.1) (hqa : ∀ x ∈ rows, Apart q x.1) (hb : base ≤ w.heap.size) {K : Value → World → Prop}
    (hK : ∀ w', Ext (ge base) w w' → K (.bool true) w') :
    cl Try.prog 25 #[.slice q rows.length cq] w K := by
  apply F25_calls
  unfold F25
  refine lv_i (lp_mk (fun s : Option Addr × Nat × Nat => [.slice s.1 s.2.2 s.2.1, .int .i64 (s.2.2 : Int)])
    (fun m s w' => m = rows.length - s.2.2 ∧ s.2.2 ≤ rows.length ∧ Ext (ge w.heap.size) w w' ∧ Row w' w.heap.size 9 s.1 s.2.1 ((rows.take s.2.2).map fun x => .string (strB x.2))) rows.length (none, 0, 0) rfl ⟨rfl, Nat.zero_le _, Ext.refl _ _, Row.nil _ _ _⟩ ?_)
  rintro _ ⟨p5, c5, i⟩ w1 ⟨rfl, hi, x1, row1⟩ J hJ
  simp only at hi row1 hJ ⊢
  have old : ∀ {w' : World} {p : Option Addr} {vs : List Value}, Ext (ge w.heap.size) w w' → Reads w p vs → Reads w' p vs := fun hx hr => hr.old hx (Nat.le_refl _)
  refine asS_i rfl (asI_i rfl (cond_split (fun hc => ?_) (fun hc => ?_)))
  · have hil : i < rows.length := by simpa using hc
    have hx0 : rows[i]? = some rows[i] := List.getElem?_eq_getElem hil
    have hm : rows[i] ∈ rows := List.getElem_mem hil
    refine (old x1 hq).at (v := .slice rows[i].1 rows[i].2.length rows[i].2.length) (by omega) (by rw [Int.toNat_natCast]; simp [sv, hx0]) ?_ (by rw [sv_length]; exact Nat.le_refl _)
    have hr := hrow _ hm
    have hnil : rows[i].1 = none → rows[i].2 = [] := fun h => by
      rcases hr.cases with ⟨_, _, h⟩ | ⟨g, cur, hp, _⟩
      · simpa [bv] using h
      · rw [h] at hp; cases hp
    refine asS_i rfl (rq_mk (run_str s22.und rfl rfl (old x1 hr.reads) rfl hnil) (asY_i rfl ?_))
    refine s55.app1 row1 (by simp; omega) x1.size rfl (le_maxLen (by omega)) (by omega) ?_
    intro p' c' w2 row2 x2 _
    have ei : IntKind.wrap .i64 ((i : Int) + 1) = ((i + 1 : Nat) : Int) := by rw [wr64 (by omega) (by omega)]; omega
    refine asS_i rfl (lv_i ?_)
    rw [ei]
    refine hJ (rows.length - (i + 1)) (p', c', i + 1) w2 (by omega) ⟨rfl, by simp only; omega, x1.trans (x2.mono fun k _ ⟨a, ha, hk⟩ => by have := (row1.at ha).1; show w.heap.size ≤ k; omega), ?_⟩
    simp only
    rw [List.take_add_one, hx0, Option.toList_some, List.map_append]
    exact row2
  · have hil : i = rows.length := by
      have : ¬ i < rows.length := by simpa using hc
      omega
    subst hil
    rw [List.take_length] at row1
    have g1 := x1.size
    refine lv_i (lp_mk (fun i : Nat => [.int .i64 (i : Int)])
      (fun m i w' => m = rows.length - i ∧ i ≤ rows.length ∧ Ext (ge base) w w' ∧ Reads w' q (sv rows) ∧ (∀ x ∈ rows, Row w' base 5 x.1 x.2.length (bv x.2)) ∧ Row w' w.heap.size 9 p5 c5 (rows.map fun x => .string (strB x.2))) rows.length 0 rfl
      ⟨rfl, Nat.zero_le _, x1.mono fun k _ (hk : w.heap.size ≤ k) => Nat.le_trans hb hk, old x1 hq, fun x hx => (hrow x hx).ext x1 fun a ha hg => by have := ((hrow x hx).at ha).2; have : w.heap.size ≤ a.block := hg; omega, row1⟩ ?_)
    rintro _ i w2 ⟨rfl, hi, x2, hq2, hrow2, row52⟩ J2 hJ2
    refine asI_i rfl (cond_split (fun hc => ?_) (fun hc => hK _ x2))
    have hil : i < rows.length := by simpa using hc
    have hx0 : rows[i]? = some rows[i] := List.getElem?_eq_getElem hil
    have hm : rows[i] ∈ rows := List.getElem_mem hil
    generalize hX : rows[i] = X at *
    obtain ⟨p, bs⟩ := X
    have hqd : Reads w2.drew q (sv rows) := hq2.ext (Ext.drew w2) fun _ _ h => h
    refine dw_mk ?_
    refine hqd.at (v := .slice p bs.length bs.length) (by omega) (by rw [Int.toNat_natCast]; simp [sv, hx0]) ?_ (by rw [sv_length]; exact Nat.le_refl _)
    refine asS_i rfl ?_
    refine hqd.at (v := .slice p bs.length bs.length) (by omega) (by rw [Int.toNat_natCast]; simp [sv, hx0]) ?_ (by rw [sv_length]; exact Nat.le_refl _)
    have hsm := small _ hm
    have hbl := hl _ hm
    simp only at hsm hbl
    refine asS_i rfl (bn2_mk (by omega) (by omega) (lv_i (xor_loop ((hrow2 _ hm).ext (Ext.drew w2) fun _ _ h => h) hsm rfl (by simp only; omega) ?_)))
    intro w3 row3 x3
    have p5a : Apart p5 p := fun a b ha hb' => by
      have h1 := (row1.at ha).1
      have h2 := ((hrow _ hm).at hb').2
      omega
    have x23 : Ext (blocks p) w2 w3 := ((Ext.drew w2).mono fun _ _ h => h.elim).trans x3
    have hq3 : Reads w3 q (sv rows) := hq2.ext x23 fun a ha ⟨b, hb', hab⟩ => hqa _ hm a b ha hb' hab.symm
    have row53 := row52.keep x23 p5a
    have hrow3 : ∀ (j : Nat) x, j ≠ i → rows[j]? = some x → Row w3 base 5 x.1 x.2.length (bv x.2) := fun j x hj hx => (hrow2 x (List.mem_of_getElem? hx)).keep x23 (apart j i x _ hj hx hx0)
    refine lv_i (lp_mk (fun j : Nat => [.int .i64 (j : Int)]) (fun m j w' => m = rows.length - j ∧ j ≤ rows.length ∧ Ext no w3 w') rows.length 0 rfl ⟨rfl, Nat.zero_le _, Ext.refl _ _⟩ ?_)
    rintro _ j w4 ⟨rfl, hj, x4⟩ J3 hJ3
    refine asI_i rfl (cond_split (fun hc3 => ?_) (fun hc3 => ?_))
    · have hjl : j < rows.length := by simpa using hc3
      have ej : IntKind.wrap .i64 ((j : Int) + 1) = ((j + 1 : Nat) : Int) := by rw [wr64 (by omega) (by omega)]; omega
      refine jn_of (fun s w' => s = [.bool false] ∧ w4.drew = w') ?_ ?_
      · rintro _ _ ⟨rfl, rfl⟩
        refine asB_i rfl (cond_f rfl (lv_i ?_))
        rw [ej]
        exact hJ3 (rows.length - (j + 1)) (j + 1) _ (by omega) ⟨rfl, by omega, x4.trans (Ext.drew w4)⟩
      · intro J4 hJ4
        have x4d := x4.trans (Ext.drew w4)
        refine dw_mk (cond_split (fun hne => ?_) (fun _ => hJ4 _ _ ⟨rfl, rfl⟩))
        have hji : j ≠ i := by
          intro h
          subst h
          simp at hne
        have hy0 : rows[j]? = some rows[j] := List.getElem?_eq_getElem hjl
        generalize hY : rows[j] = Y at *
        obtain ⟨py, by'⟩ := Y
        refine (hq3.ext x4d fun _ _ h => h).at (v := .slice py by'.length by'.length) (by omega) (by rw [Int.toNat_natCast]; simp [sv, hy0]) ?_ (by rw [sv_length]; exact Nat.le_refl _)
        have hry := (hrow3 j _ hji hy0).ext x4d fun _ _ h => h
        have hnil : py = none → by' = [] := fun h => by
          rcases hry.cases with ⟨_, _, h⟩ | ⟨g, cur, hp, _⟩
          · simpa [bv] using h
          · simp only at hp; rw [h] at hp; cases hp
        refine asS_i rfl (rq_mk (run_str s22.und rfl rfl hry.reads rfl hnil) (asY_i rfl ?_))
        refine (row53.ext x4d fun _ _ h => h).reads.at (v := .string (strB by')) (by omega) (by rw [Int.toNat_natCast]; simp [hy0]) ?_ (by simp)
        refine asY_i rfl (hJ4 _ _ ⟨by simp, rfl⟩)
    · refine lv_i (xor_loop (row3.ext x4 fun _ _ h => h) (xr_small hsm) (by rw [xr_length]) (by simp only; omega) ?_)
      intro w5 row5 x5
      rw [xr_xr hsm] at row5
      have ei : IntKind.wrap .i64 ((i : Int) + 1) = ((i + 1 : Nat) : Int) := by rw [wr64 (by omega) (by omega)]; omega
      refine lv_i ?_
      rw [ei]
      have x35 : Ext (blocks p) w3 w5 := (x4.mono fun _ _ h => h.elim).trans x5
      have x25 : Ext (blocks p) w2 w5 := x23.trans x35
      refine hJ2 (rows.length - (i + 1)) (i + 1) w5 (by omega) ⟨rfl, by omega, x2.then x25 fun k _ ⟨a, ha, hk⟩ => ?_, hq2.ext x25 fun a ha ⟨b, hb', hab⟩ => hqa _ hm a b ha hb' hab.symm, fun x hx => ?_, row52.keep x25 p5a⟩
      · have := ((hrow _ hm).at ha).1
        show base ≤ k
        omega
      · obtain ⟨j, hj'⟩ := List.getElem?_of_mem hx
        by_cases hji : j = i
        · subst hji
          rw [hx0] at hj'
          cases hj'
          exact row5
        · exact (hrow3 j x hji hj').keep x35 (apart j i x _ hji hj' hx0)

/-- Bytes, with a capacity that is its length -/
theorem bytes_kC {w : World} {base r : Nat} {p : Option Addr} {c : Nat} {bs : List Nat} {l : List Bool} (h : Wtr w base r p c bs l) {K : Value → World → Prop}
    (hK : ∀ p' w', Ext no w w' → Row w' w.heap.size 5 p' bs.length (bv bs) → K (.slice p' bs.length bs.length) w') :
    cl Try.prog 21 #[.pointer (some ⟨r, 0, none⟩)] w K := by
  have hb := Packs.le h.pk h.most
  apply F21_calls
  unfold F21
  refine dw_mk (dr_i (ld_mk (wtr_ld0 h.drew) (asS_i rfl (dr_i (ld_mk (wtr_ld0 h.drew) (asS_i rfl ?_))))))
  refine s22.make0 (by omega) (le_maxLen (by omega)) ?_
  intro w1 hr1 hx1
  have h1 := h.drew.keep hx1 (fun h => h) fun _ _ h => h
  refine asS_i rfl (hd_i (wtr_ld0 h1) (hd_i (wtr_ld0 h1) ?_))
  refine s22.appC (n := 0) hr1 rfl hx1.size h1.row.reads (bv_length bs) bv_one (le_maxLen (by omega)) (by omega) ?_
  intro p' c' w2 hr2 hx2 hm _ hcap
  have hcap' : c' = bs.length := hcap (by omega)
  subst hcap'
  have hx12 : Ext no w.drew w2 := hx1.then hx2 fun k hk hkb => by
    obtain ⟨a, ha, rfl⟩ := hkb
    have := (hr1.at ha).1
    omega
  have h2 := h.drew.keep hx12 (fun h => h) fun _ _ h => h
  refine asS_i rfl (hd_i (wtr_ld0 h2) ?_)
  rw [Nat.zero_add]
  rw [List.nil_append] at hr2
  exact hK _ _ ((Ext.drew w).trans hx12) hr2

theorem bitsPuts_law (W : World) (a0 : Option Addr) (n0 c0 : Nat) (z0 : List Int) (R0 : Reads W a0 (iv .i64 z0)) (L0 : z0.length = n0) (F0 : ∀ n ∈ z0, (Lit.int .i64 n).wf = true) (Y0 : n0 * 8 ≤ 140737488351232)
    (a1 : Option Addr) (n1 c1 : Nat) (z1 : List Int) (R1 : Reads W a1 (iv .i64 z1)) (L1 : z1.length = n1) (_F1 : ∀ n ∈ z1, (Lit.int .i64 n).wf = true) (_Y1 : n1 * 8 ≤ 140737488351232) :
    cl Try.prog 7 #[.slice a0 n0 c0, .slice a1 n1 c1] W fun v w' => v = .bool true ∧ Ext no W w' := by
  apply F7_calls
  unfold F7
  refine awake_k ?_
  intro w1 x1
  refine asB_i rfl (new_k ?_)
  intro r w2 x2 h2
  have X2 : Ext no W w2 := x1.trans x2
  have g1 : W.heap.size ≤ w1.heap.size := x1.size
  refine asP_i rfl (jn_mk (cond_f rfl (asB_i rfl (cond_f rfl (lv_i ?_)))))
  refine lp_mk (fun s : Option Addr × Nat × List Bool × Nat => [.slice s.1 s.2.2.1.length s.2.1, .int .i64 (s.2.2.2 : Int)])
    (fun m s w' => m = n0 - s.2.2.2 ∧ s.2.2.2 ≤ n0 ∧ Ext (ge w1.heap.size) w2 w' ∧ Row w' w1.heap.size 4 s.1 s.2.1 (tv s.2.2.1) ∧ Apart s.1 (some ⟨r, 0, none⟩) ∧ ∃ p c bs, Wtr w' w1.heap.size r p c bs s.2.2.1 ∧ Apart s.1 p)
    n0 (none, 0, [], 0) rfl ⟨rfl, Nat.zero_le _, Ext.refl _ _, Row.nil _ _ _, Apart.none _, none, 0, [], h2, Apart.none _⟩ ?_
  rintro _ ⟨pl, cl', l, i⟩ w3 ⟨rfl, hi, X3, rl, Ar, p, c, bs, hW, Ap⟩ J hJ
  simp only at hi rl Ar hW Ap hJ ⊢
  have fin : ∀ {w'}, Ext (ge w1.heap.size) w2 w' → Ext no W w' := fun hx => Ext.to_no ((Ext.to_ge X2).trans hx) g1
  refine asS_i rfl (asI_i rfl ?_)
  refine jn_of (fun s w' => w3 = w' ∧ s = [.bool (decide (i < n0) && decide (i < n1))]) ?_ ?_
  · rintro _ _ ⟨rfl, rfl⟩
    refine asB_i rfl (cond_split (fun hc => ?_) (fun _ => ?_))
    · simp only [Bool.and_eq_true, decide_eq_true_eq] at hc
      have ei : IntKind.wrap .i64 ((i : Int) + 1) = ((i + 1 : Nat) : Int) := by rw [wr64 (by omega) (by omega)]; omega
      have X3' : Ext (ge w1.heap.size) w2 w3.drew := X3.trans (Ext.to_ge (Ext.drew w3))
      refine dw_mk ?_
      refine (R0.old (Ext.to_ge (fin X3')) (Nat.le_refl _)).at (by omega) (by rw [Int.toNat_natCast]; exact iv_get (by omega)) ?_ (by rw [iv_length, L0]; exact Nat.le_refl _)
      refine asI_i rfl ?_
      refine (R1.old (Ext.to_ge (fin X3')) (Nat.le_refl _)).at (by omega) (by rw [Int.toNat_natCast]; exact iv_get (by omega)) ?_ (by rw [iv_length, L1]; exact Nat.le_refl _)
      refine asI_i rfl (put_k hW.drew ?_)
      intro p' c' bs' w4 hW' x4 m4
      have hvmax : z0.getD i 0 ≤ 9223372036854775807 := by
        have hm : z0.getD i 0 ∈ z0 := by
          rw [List.getD_eq_getElem?_getD, List.getElem?_eq_getElem (show i < z0.length by omega)]
          exact List.getElem_mem _
        exact (i64_of (F0 _ hm)).2
      generalize hv : z0.getD i 0 = v at *
      generalize hn : z1.getD i 0 = n at *
      have X4 : Ext (ge w1.heap.size) w2 w4 := X3'.trans (hW.drew.ext_ge x4)
      have rld := rl.ext (Ext.drew w3) fun _ _ h => h
      have rl' := rld.ext x4 fun a ha hk => by
        rcases hk with hk | ⟨b, hb, hab⟩
        · exact Ar a ⟨r, 0, none⟩ ha rfl hk
        · exact Ap a b ha hb hab.symm
      have Ap' : Apart pl p' := (m4.apart Ap.symm fun a ha => (rl.at ha).2).symm
      refine asI_i rfl (lv_i (dw_mk ?_))
      have X4' : Ext (ge w1.heap.size) w2 w4.drew := X4.trans (Ext.to_ge (Ext.drew w4))
      refine (R0.old (Ext.to_ge (fin X4')) (Nat.le_refl _)).at (by omega) (by rw [Int.toNat_natCast]; exact iv_get (by omega)) ?_ (by rw [iv_length, L0]; exact Nat.le_refl _)
      rw [hv]
      refine asI_i rfl ?_
      refine (R1.old (Ext.to_ge (fin X4')) (Nat.le_refl _)).at (by omega) (by rw [Int.toNat_natCast]; exact iv_get (by omega)) ?_ (by rw [iv_length, L1]; exact Nat.le_refl _)
      rw [hn]
      refine asI_i rfl (rput_k (rl'.ext (Ext.drew w4) fun _ _ h => h) hW'.drew.le hW.most hvmax ?_)
      intro p5 c5 w5 rl5 x5 m5
      have hWd := hW'.drew
      have hW5 := hWd.keep x5 (fun ⟨a, ha, hk⟩ => Ar a ⟨r, 0, none⟩ ha rfl hk) fun a ha ⟨b, hb, hk⟩ => Ap' b a hb ha hk
      have Ar5 : Apart p5 (some ⟨r, 0, none⟩) := m5.apart Ar fun a ha => by cases ha; exact blk_lt hWd.blk
      have Ap5 : Apart p5 p' := m5.apart Ap' fun a ha => (hWd.row.at ha).2
      have X5 := X4'.trans (x5.mono fun k _ ⟨a, ha, hk⟩ => by have := (rl'.at ha).1; show w1.heap.size ≤ k; omega)
      refine asT_i rfl rfl (asS_i rfl (asI_i rfl (lv_i (jn_mk (cond_f (by simp) (len_k hW5 (asI_i rfl (asB_i rfl (cond_f (by simp) (lv_i ?_))))))))))
      rw [ei]
      exact hJ (n0 - (i + 1)) (p5, c5, putL l v n, i + 1) w5 (by omega) ⟨rfl, by simp only; omega, X5, rl5, Ar5, p', c', bs', hW5, Ap5⟩
    · have hbl := Packs.le hW.pk hW.most
      have most := hW.most
      refine bytes_kC hW ?_
      intro p6 w6 x6 row6
      have hW6 := hW.keep x6 (fun h => h) fun _ _ h => h
      refine asS_i rfl (bytes_kC hW6 ?_)
      intro p7 w7 x7 row7
      have hW7 := hW6.keep x7 (fun h => h) fun _ _ h => h
      have x37 := x6.trans x7
      refine asS_i rfl (rbytes_k (rl.ext x37 fun _ _ h => h).reads most ?_)
      intro p8 bs8 w8 x8 row8 pk8
      have hb8 : bs8 = bs := pk8.unique hW.pk
      subst hb8
      have none_of : ∀ {w : World} {base : Nat} {p : Option Addr} {c : Nat}, Row w base 5 p c (bv bs8) → p = none → bs8 = [] := fun hr h => by
        rcases hr.cases with ⟨_, _, h⟩ | ⟨g, cur, hp, _⟩
        · simpa [bv] using h
        · rw [h] at hp; cases hp
      have x78 := x7.trans x8
      have row6' := row6.ext x78 fun _ _ h => h
      have row7' := row7.ext x8 fun _ _ h => h
      refine asS_i rfl (rq_mk (run_str s22.und rfl rfl row8.reads rfl (none_of row8)) (asY_i rfl (jn_mk ?_)))
      refine rq_mk (run_str s22.und rfl rfl row6'.reads rfl (none_of row6)) (asY_i rfl (cond_t (by simp) ?_))
      refine rq_mk (run_str s22.und rfl rfl row7'.reads rfl (none_of row7)) (asY_i rfl (asB_i rfl ?_))
      have hW8 := hW7.keep x8 (fun h => h) fun _ _ h => h
      refine bytes_kC hW8 ?_
      intro p9 w9 x9 row9
      refine asS_i rfl (nw_mk ?_)
      have x10 : Ext no w9 (w9.alloc (.cells #[.slice p6 bs8.length bs8.length, .slice p7 bs8.length bs8.length, .slice p9 bs8.length bs8.length] 22)) := Ext.alloc _ _
      have s6 := x6.size
      have s7 := x7.size
      have s8 := x8.size
      have s9 := x9.size
      have r6 := row6'.ext (x9.trans x10) fun _ _ h => h
      have r7 := row7'.ext (x9.trans x10) fun _ _ h => h
      have r9 := row9.ext x10 fun _ _ h => h
      have b6 : ∀ a, p6 = some a → w3.heap.size ≤ a.block ∧ a.block < w6.heap.size := fun a ha => row6.at ha
      have b7 : ∀ a, p7 = some a → w6.heap.size ≤ a.block ∧ a.block < w7.heap.size := fun a ha => row7.at ha
      have b9 : ∀ a, p9 = some a → w8.heap.size ≤ a.block ∧ a.block < w9.heap.size := fun a ha => row9.at ha
      have m6 : w3.heap.size ≤ w3.heap.size := Nat.le_refl _
      have q : Reads (w9.alloc (.cells #[.slice p6 bs8.length bs8.length, .slice p7 bs8.length bs8.length, .slice p9 bs8.length bs8.length] 22)) (some ⟨w9.heap.size, 0, none⟩) (sv [(p6, bs8), (p7, bs8), (p9, bs8)]) :=
        Reads.new w9 (sv [(p6, bs8), (p7, bs8), (p9, bs8)]) 22
      have x310 := x37.trans (x8.trans (x9.trans x10))
      refine owned_k (base := w3.heap.size) (rows := [(p6, bs8), (p7, bs8), (p9, bs8)]) q ?_ ?_ ?_ (by simp) ?_ ?_ x310.size ?_
      · intro x hx
        simp only [List.mem_cons, List.not_mem_nil, or_false] at hx
        rcases hx with rfl | rfl | rfl
        · exact r6
        · exact r7.mono s6
        · exact r9.mono (by omega)
      · intro x hx
        simp only [List.mem_cons, List.not_mem_nil, or_false] at hx
        rcases hx with rfl | rfl | rfl <;> exact hW.pk.small
      · intro x hx
        simp only [List.mem_cons, List.not_mem_nil, or_false] at hx
        rcases hx with rfl | rfl | rfl <;> (simp only; omega)
      · have A67 : Apart p6 p7 := fun a b ha hb => by have := b6 a ha; have := b7 b hb; omega
        have A69 : Apart p6 p9 := fun a b ha hb => by have := b6 a ha; have := b9 b hb; omega
        have A79 : Apart p7 p9 := fun a b ha hb => by have := b7 a ha; have := b9 b hb; omega
        intro i j x y hij hx hy
        match i, j, hij, hx, hy with
        | 0, 1, _, hx, hy => cases hx; cases hy; exact A67
        | 0, 2, _, hx, hy => cases hx; cases hy; exact A69
        | 1, 0, _, hx, hy => cases hx; cases hy; exact A67.symm
        | 1, 2, _, hx, hy => cases hx; cases hy; exact A79
        | 2, 0, _, hx, hy => cases hx; cases hy; exact A69.symm
        | 2, 1, _, hx, hy => cases hx; cases hy; exact A79.symm
        | 0, 0, h, _, _ => exact absurd rfl h
        | 1, 1, h, _, _ => exact absurd rfl h
        | 2, 2, h, _, _ => exact absurd rfl h
        | i + 3, _, _, hx, _ => simp at hx
        | 0, j + 3, _, _, hy => simp at hy
        | 1, j + 3, _, _, hy => simp at hy
        | 2, j + 3, _, _, hy => simp at hy
      · intro x hx a b ha hb
        cases ha
        simp only [List.mem_cons, List.not_mem_nil, or_false] at hx
        simp only
        rcases hx with rfl | rfl | rfl
        · have := b6 b hb; omega
        · have := b7 b hb; omega
        · have := b9 b hb; omega
      · intro w10 x11
        have g2 := x2.size
        have g3 := X3.size
        refine asB_i rfl (jn_mk (cond_t (by simp) (asB_i rfl ⟨rfl, fin ((X3.trans (Ext.to_ge x310)).trans ?_)⟩)))
        refine Ext.mono (x11.then (Ext.refl _ _) fun i _ h => h) fun k hk (hg : w3.heap.size ≤ k) => show w1.heap.size ≤ k by omega
  · intro J2 hJ2
    refine cond_split (fun h => hJ2 _ _ ⟨rfl, ?_⟩) (fun h => hJ2 _ _ ⟨rfl, ?_⟩)
    · have h1 : i < n0 := by simpa using h
      simp [h1]
    · have h1 : ¬ i < n0 := by simpa using h
      simp [h1]
end Go.Proofs.Ytddljkkcpekcjaa
