/- GrQ: the document's own grid: Put. Conditions: those of each theorem, on its arguments. -/
import Derived.Test.YtamobmjfdiecbaaGrP
namespace Go.Proofs.Ytamobmjfdiecbaa
open Go Go.Sx Go.Fp
attribute [local irreducible] jn lv ld st nw asI asB asP asS asY asM asF asA asT lp rn ru rq cl dw dr bnd bn2 nz nn hd hr so eqW
attribute [local irreducible] callOk

theorem iv_one {l : List Int} : ∀ u ∈ iv .i64 l, Sx.one u = true := by
  intro u hu
  obtain ⟨z, _, rfl⟩ := List.mem_map.1 hu
  rfl
theorem bcs_one {A : List (Int × Bx)} : ∀ u ∈ bcs A, Sx.one u = true := by
  intro u hu
  unfold bcs at hu
  obtain ⟨y, _, hu⟩ := List.mem_flatMap.1 hu
  simp only [Bx.cells, List.mem_cons, List.not_mem_nil, or_false] at hu
  rcases hu with rfl | rfl | rfl <;> rfl
theorem bcs_length (A : List (Int × Bx)) : (bcs A).length = A.length * 3 := fl_lenN (f := fun y : Int × Bx => y.2.cells) (fun _ => rfl) A
theorem ids_split (A : List (Int × Bx)) (i : Nat) : ids (A.take i) ++ ids (A.drop i) = ids A := by
  unfold ids iv
  rw [← List.map_append, ← List.map_append, List.take_append_drop]
theorem bcs_split (A : List (Int × Bx)) (i : Nat) : bcs (A.take i) ++ bcs (A.drop i) = bcs A := by
  unfold bcs
  rw [← List.flatMap_append, List.take_append_drop]
theorem ids_drop (A : List (Int × Bx)) (i : Nat) : (ids A).drop i = ids (A.drop i) := by simp [ids, iv]
theorem bcs_drop (A : List (Int × Bx)) {i : Nat} (hi : i ≤ A.length) : (bcs A).drop (i * 3) = bcs (A.drop i) := by
  have h := bcs_split A i
  have hl : (bcs (A.take i)).length = i * 3 := by rw [bcs_length, List.length_take]; congr 1; omega
  rw [← h, ← hl, List.drop_left]
set_option maxRecDepth 100000 in
theorem sB : SlN Try.prog 82 25 3 24 := ⟨rfl, ⟨_, _, rfl, rfl, rfl, rfl, rfl⟩, by decide⟩

theorem _root_.Go.Sx.Reads.dropN {w : World} {p : Option Addr} {c n s : Nat} {xs : List Value} (h : Reads w p xs) (hc : xs.length ≤ c * s) : Reads w (slp p c n s) (xs.drop (n * s)) := by
  by_cases h0 : xs.drop (n * s) = []
  · exact .inl h0
  · have hn : n * s < xs.length := by
      by_cases hh : n * s < xs.length
      · exact hh
      · exact absurd (List.drop_eq_nil_of_le (by omega)) h0
    rcases h with h | ⟨b, o, rfl, hx⟩
    · subst h; simp at hn
    · have hcn : c ≠ n := fun e => by subst e; omega
      have : slp (some ⟨b, o, Option.none⟩) c n s = some ⟨b, o + n * s, Option.none⟩ := by
        unfold slp
        rw [if_neg hcn]
        simp [add_mk]
      rw [this]
      refine .inr ⟨b, o + n * s, rfl, fun i v hv => ?_⟩
      rw [List.getElem?_drop] at hv
      have := hx _ _ hv
      rw [← this]
      congr 2
      omega
theorem slp_none {p : Option Addr} {c n s : Nat} (h : slp p c n s = none) : p = none := by
  unfold slp at h
  split at h
  · exact h
  · cases p with
    | none => rfl
    | some b => simp at h

/-- a list with one more, at a place -/
def insA (A : List (Int × Bx)) (i : Nat) (id : Int) (b : Bx) : List (Int × Bx) := A.take i ++ (id, b) :: A.drop i
theorem insA_length {A : List (Int × Bx)} {i : Nat} {id : Int} {b : Bx} (hi : i ≤ A.length) : (insA A i id b).length = A.length + 1 := by
  unfold insA
  rw [List.length_append, List.length_cons, List.length_take, List.length_drop]
  omega

/-- what Put tells -/
def rputE (s : Int) (A : List (Int × Bx)) (id : Int) (b : Bx) : Int := if id < 0 then 1 else if isAt A id = true then 180 else cellsE s b
def rputA (s : Int) (A : List (Int × Bx)) (id : Int) (b : Bx) : List (Int × Bx) := if rputE s A id b = 0 then insA A (pos A id) id b else A

theorem row_le {w : World} {base : Nat} {e : TypeId} {p : Option Addr} {c : Nat} {xs : List Value} (h : Row w base e p c xs) : xs.length ≤ c := by
  rcases h.cases with ⟨_, rfl, rfl⟩ | ⟨g, cur, _, _, _, h1, _⟩
  · simp
  · exact h1

theorem stx {w : World} {x : Nat} {cs : Array Value} {t : TypeId} (hd : w.heap[x]? = some (.cells cs t (0, 0))) {k : Nat} (hk : k < cs.size) {v : Value} (h1 : Sx.one v = true) {K : World → Prop}
    (hK : ∀ w', w'.heap[x]? = some (.cells (cs.setIfInBounds k v) t (0, 0)) → Ext (onl x) w w' → w'.heap.size = w.heap.size → K w') : dr (some ⟨x, 0, none⟩) fun a => Sx.st w (Addr.add a k) v K := by
  refine dr_i ?_
  rw [add_mk, Nat.zero_add]
  exact st_mk hd hk h1 (hK _ (blk_set hd _ _) (Ext.set w ⟨x, k, none⟩ v) (by simp [World.setCell]))

set_option maxHeartbeats 4000000 in
theorem rPut_k {w : World} {F : Nat → Prop} {x : Nat} {s : Int} {A : List (Int × Bx)} {p : Option Addr} {c : Nat} {q : Option Addr} {c' : Nat} (h : R1 w F x s A p c q c') (hm : A.length ≤ 100000) {id : Int} {b : Bx} {K : Value → World → Prop}
    (hK : ∀ w' F' p' c1 q' c2, R1 w' F' x s (rputA s A id b) p' c1 q' c2 → Ext F w w' → (∀ k, F' k → F k ∨ w.heap.size ≤ k) → K (.int .i64 (rputE s A id b)) w') :
    cl Try.prog 55 #[.pointer (some ⟨x, 0, none⟩), .int .i64 id, b.v] w K := by
  have bad : rputE s A id b ≠ 0 → ∀ e, rputE s A id b = e → ∀ w', Ext no w w' → K (.int .i64 e) w' := by
    intro h0 e he w' hx
    have := hK w' F p c q c' (by unfold rputA; rw [if_neg h0]; exact h.no hx) (Ext.of_no hx) (fun k hk => .inl hk)
    rw [he] at this
    exact this
  apply F55_calls
  unfold F55
  have hS := St.start w
  (refine St.nw hS ?_; clear hS; intro r1 _ hS)
  refine lv_i (cond_split (fun hc => ?_) (fun hc => ?_))
  · have hid : id < 0 := of_decide_eq_true hc
    have hE : rputE s A id b = 1 := by unfold rputE; rw [if_pos hid]
    exact lv_i (bad (by rw [hE]; decide) _ hE _ hS.ext)
  have hid : ¬ id < 0 := of_decide_eq_false hc
  refine place_k (h.no hS.ext) (by omega) fun w1 hx1 => ?_
  replace hS := hS.to hx1
  refine asT_i rfl rfl (asI_i rfl (asB_i rfl (lv_i (cond_split (fun hc => ?_) (fun hc => ?_)))))
  · have hE : rputE s A id b = 180 := by unfold rputE; rw [if_neg hid, if_pos hc]
    exact lv_i (bad (by rw [hE]; decide) _ hE _ hS.ext)
  have hE : rputE s A id b = cellsE s b := by unfold rputE; rw [if_neg hid, if_neg (by rw [hc]; decide)]
  refine hS.dw fun w2 hS _ => ?_
  have h2 := h.no hS.ext
  refine dr_i (ld_mk h2.ld0 (asI_i rfl (hS.ld0 0 rfl rfl (asI_i rfl (hS.ld 0 rfl rfl (asI_i rfl (hS.ld 0 rfl rfl (asI_i rfl ?_))))))))
  refine rcells_k (b := b) fun p0 c0 w3 hx3 _ => asT_i rfl rfl (asS_i rfl (asI_i rfl (lv_i (cond_split (fun hc => ?_) (fun hc => ?_)))))
  · exact lv_i (bad (by rw [hE]; simpa using hc) _ hE _ (hS.ext.trans hx3))
  have hE0 : rputE s A id b = 0 := by rw [hE]; simpa using hc
  have hA' : rputA s A id b = insA A (pos A id) id b := by unfold rputA; rw [if_pos hE0]
  rw [hA', hE0] at hK
  replace hS := hS.to hx3
  have hX3 := hS.ext
  have hpl := pos_le A id
  generalize pos A id = i at *
  have hlen := insA_length (id := id) (b := b) hpl
  rw [Int.toNat_natCast]
  refine jn_of (fun t w' => ∃ p1 c1, t = [.slice p1 (A.length + 1) c1] ∧ Ext no w3 w' ∧ Row w' w3.heap.size 3 p1 c1 (ids (insA A i id b))) ?_ ?_
  rotate_left
  · intro J hJ
    refine hS.dw fun w4 hS hx4 => ?_
    have h4 := h.no hS.ext
    have hcc := row_le h4.ri
    rw [ids_length] at hcc
    have hsz := hx4.size
    have hsrc : Reads w4 p (ids (A.take i)) := by
      have := h4.ri.reads
      rw [← ids_split A i] at this
      exact this.pre
    have hdr : ∀ {w5 : World}, Ext no w4 w5 → Reads w5 (slp p c i 1) (ids (A.drop i)) := fun hx => by
      have := (h4.no hx).ri.reads.drop (c := c) (n := i) (by rw [ids_length]; exact hcc)
      rwa [ids_drop] at this
    have lt : (ids (A.take i)).length = i := by rw [ids_length, List.length_take]; omega
    have ld : (ids (A.drop i)).length = A.length - i := by rw [ids_length, List.length_drop]
    have hI : ids (A.take i) ++ [.int .i64 id] ++ ids (A.drop i) = ids (insA A i id b) := by unfold insA ids iv; simp
    have fin : ∀ (w5 : World) (p1 : Option Addr) (c1 : Nat), Ext no w4 w5 → Row w5 w4.heap.size 3 p1 c1 (ids (A.take i) ++ [.int .i64 id]) → rn Try.prog (Builtin.append_ #[38, 38] 38 #[.slice p1 (0 + i + 1) c1, .slice (slp p c i 1) (A.length - i) (c - i)]) w5 fun v57 w58 => asS v57 fun p59 n60 c61 => hd w58 (Addr.add ⟨x, 0, none⟩ 1) (.slice p A.length c) (hd w58 (Addr.add ⟨x, 0, none⟩ 1) (.slice p A.length c) (J [.slice p59 n60 c61] w58)) := by
      intro w5 p1 c1 hx5 hr5
      refine sI.app hr5 (by simp [lt]) hx5.size (hdr hx5) ld iv_one (le_maxLen (by omega)) (by omega) fun p2 c2 w6 hr6 hx6 _ _ => asS_i rfl ?_
      have hx46 : Ext no w4 w6 := hx5.then hx6 fun k hk ⟨a, ha, hab⟩ => by
        have := (hr5.at ha).1
        omega
      have hn : 0 + i + 1 + (A.length - i) = A.length + 1 := by omega
      rw [hn]
      refine hd_i (h4.no hx46).ld1 (hd_i (h4.no hx46).ld1 (hJ _ _ ⟨p2, c2, rfl, hx4.trans hx46, ?_⟩))
      rw [hI] at hr6
      exact hr6.mono hsz
    refine dr_i (ld_mk h4.ld1 (asS_i rfl (bn2_mk (by omega) (by omega) (dr_i (ld_mk h4.ld1 (asS_i rfl (bn2_mk (by omega) (by omega) ⟨?_, ?_⟩)))))))
    · refine sI.app (n := 0) (m := i) (Row.nil w4 w4.heap.size _) rfl (Nat.le_refl _) hsrc lt iv_one (le_maxLen (by omega)) (by omega) fun p1 c1 w5 hr5 hx5 _ _ => asS_i rfl ?_
      have hx45 : Ext no w4 w5 := hx5.mono fun k _ ⟨a, ha, _⟩ => by cases ha
      refine hd_i (h4.no hx45).ld1 (hd_i (h4.no hx45).ld1 ?_)
      refine (St.start w5).nw (cs := [.int .i64 id]) fun r50 w6 hZ => ?_
      have hx46 := hx45.trans hZ.ext
      refine hd_i (h4.no hx46).ld1 (hd_i (h4.no hx46).ld1 ?_)
      have hr50 : Reads w6 (some ⟨r50, 0, none⟩) [.int .i64 id] := .inr ⟨r50, 0, rfl, fun k v hv => by
        rw [blk_cell (hZ.kn _ List.mem_cons_self).1, Nat.zero_add]
        simpa using hv⟩
      refine sI.app (n := 0 + i) (m := 1) (hr5.ext hZ.ext fun _ _ h => h) (by simp [lt]) hx46.size hr50 rfl (by intro u hu; rw [List.mem_singleton.1 hu]; rfl) (le_maxLen (by omega)) (by omega) fun p2 c2 w7 hr7 hx7 _ _ => asS_i rfl ?_
      have hx47 : Ext no w4 w7 := hx46.then hx7 fun k hk ⟨a, ha, hab⟩ => by
        have := (hr5.at ha).1
        omega
      exact hd_i (h4.no hx47).ld1 (hd_i (h4.no hx47).ld1 (fin w7 p2 c2 hx47 hr7))
    · refine (St.start w4).nw (cs := [.int .i64 id]) fun r50 w5 hZ => ?_
      have hx45 := hZ.ext
      refine hd_i (h4.no hx45).ld1 (hd_i (h4.no hx45).ld1 ?_)
      refine sI.app (n := 0) (m := i) (Row.nil w5 w4.heap.size _) rfl hx45.size (hsrc.ext hx45 fun _ _ h => h) lt iv_one (le_maxLen (by omega)) (by omega) fun p1 c1 w6 hr6 hx6 _ _ => asS_i rfl ?_
      have hx56 : Ext no w5 w6 := hx6.mono fun k _ ⟨a, ha, _⟩ => by cases ha
      have hx46 := hx45.trans hx56
      replace hZ := hZ.to hx56
      refine hd_i (h4.no hx46).ld1 (hd_i (h4.no hx46).ld1 ?_)
      have hr50 : Reads w6 (some ⟨r50, 0, none⟩) [.int .i64 id] := .inr ⟨r50, 0, rfl, fun k v hv => by
        rw [blk_cell (hZ.kn _ List.mem_cons_self).1, Nat.zero_add]
        simpa using hv⟩
      refine sI.app (n := 0 + i) (m := 1) hr6 (by simp [lt]) hx46.size hr50 rfl (by intro u hu; rw [List.mem_singleton.1 hu]; rfl) (le_maxLen (by omega)) (by omega) fun p2 c2 w7 hr7 hx7 _ _ => asS_i rfl ?_
      have hx47 : Ext no w4 w7 := hx46.then hx7 fun k hk ⟨a, ha, hab⟩ => by
        have := (hr6.at ha).1
        omega
      exact hd_i (h4.no hx47).ld1 (hd_i (h4.no hx47).ld1 (fin w7 p2 c2 hx47 hr7))
  rintro _ w4 ⟨p1, c1, rfl, hx4, hr1⟩
  replace hS := hS.to hx4
  refine asS_i rfl ?_
  refine jn_of (fun t w' => ∃ q1 c2, t = [.slice q1 (A.length + 1) c2] ∧ Ext no w4 w' ∧ RowN w' w4.heap.size 25 3 q1 c2 (A.length + 1) (bcs (insA A i id b))) ?_ ?_
  rotate_left
  · intro J hJ
    refine hS.dw fun w5 hS hx5 => ?_
    have h5 := h.no hS.ext
    have hsz := hx5.size
    have hcc := h5.rb.le_max
    have hsrc : Reads w5 q (bcs (A.take i)) := by
      have := h5.rb.reads
      rw [← bcs_split A i] at this
      exact this.pre
    have hdr : ∀ {w6 : World}, Ext no w5 w6 → Reads w6 (slp q c' i 3) (bcs (A.drop i)) := fun hx => by
      have := (h5.no hx).rb.reads.dropN (c := c') (n := i) (s := 3) (by rw [bcs_length]; omega)
      rwa [bcs_drop A hpl] at this
    have lt : (bcs (A.take i)).length = i * 3 := by rw [bcs_length, List.length_take]; congr 1; omega
    have ld : (bcs (A.drop i)).length = (A.length - i) * 3 := by rw [bcs_length, List.length_drop]
    have hq0 : q = none → i = 0 := fun hq => by
      have := (h5.rb.none hq).1
      omega
    have hq1 : slp q c' i 3 = none → A.length - i = 0 := fun hq => by
      have := (h5.rb.none (slp_none hq)).1
      omega
    have hI : bcs (A.take i) ++ b.cells ++ bcs (A.drop i) = bcs (insA A i id b) := by unfold insA bcs; simp
    have b1 : ∀ u ∈ b.cells, Sx.one u = true := fun u hu => by
      simp only [Bx.cells, List.mem_cons, List.not_mem_nil, or_false] at hu
      rcases hu with rfl | rfl | rfl <;> rfl
    have fin : ∀ (w6 : World) (p1 : Option Addr) (c1 : Nat), Ext no w5 w6 → RowN w6 w5.heap.size 25 3 p1 c1 (0 + i + 1) (bcs (A.take i) ++ b.cells) → rn Try.prog (Builtin.append_ #[82, 82] 82 #[.slice p1 (0 + i + 1) c1, .slice (slp q c' i 3) (A.length - i) (c' - i)]) w6 fun v57 w58 => asS v57 fun p59 n60 c61 => hd w58 (Addr.add ⟨x, 0, none⟩ 2) (.slice q A.length c') (hd w58 (Addr.add ⟨x, 0, none⟩ 2) (.slice q A.length c') (J [.slice p59 n60 c61] w58)) := by
      intro w6 p1 c1 hx6 hr6
      refine sB.app hr6 hx6.size (hdr hx6) ld hq1 bcs_one (le_maxLen (by omega)) (by omega) fun p2 c2 w7 hr7 hx7 _ _ => asS_i rfl ?_
      have hx57 : Ext no w5 w7 := hx6.then hx7 fun k hk ⟨a, ha, hab⟩ => by
        have := (hr6.at ha).1
        omega
      have hn : 0 + i + 1 + (A.length - i) = A.length + 1 := by omega
      rw [hn] at hr7 ⊢
      refine hd_i (h5.no hx57).ld2 (hd_i (h5.no hx57).ld2 (hJ _ _ ⟨p2, c2, rfl, hx5.trans hx57, ?_⟩))
      rw [hI] at hr7
      exact hr7.mono hsz
    refine dr_i (ld_mk h5.ld2 (asS_i rfl (bn2_mk (by omega) (by omega) ?_)))
    refine hS.ld0 0 rfl rfl (asI_i rfl (hS.ld 0 rfl rfl (asI_i rfl (hS.ld 0 rfl rfl (asI_i rfl ?_)))))
    refine dr_i (ld_mk h5.ld2 (asS_i rfl (bn2_mk (by omega) (by omega) ⟨?_, ?_⟩)))
    · refine sB.app (RowN.nil w5 w5.heap.size _ _) (Nat.le_refl _) hsrc lt hq0 bcs_one (le_maxLen (by omega)) (by omega) fun p1 c1 w6 hr6 hx6 _ _ => asS_i rfl ?_
      have hx56 : Ext no w5 w6 := hx6.mono fun k _ ⟨a, ha, _⟩ => by cases ha
      have hS6 := hS.to hx56
      refine hd_i (h5.no hx56).ld2 (hS6.hd0 0 rfl rfl (hS6.hd 0 rfl rfl (hS6.hd 0 rfl rfl (hd_i (h5.no hx56).ld2 ?_))))
      refine (St.start w6).nw (cs := b.cells) fun r50 w7 hZ => ?_
      have hx57 := hx56.trans hZ.ext
      refine hd_i (h5.no hx57).ld2 (hd_i (h5.no hx57).ld2 ?_)
      have hr50 : Reads w7 (some ⟨r50, 0, none⟩) b.cells := .inr ⟨r50, 0, rfl, fun k v hv => by
        rw [blk_cell (hZ.kn _ List.mem_cons_self).1, Nat.zero_add]
        simpa using hv⟩
      refine sB.app (hr6.ext hZ.ext fun _ _ h => h) hx57.size hr50 rfl (fun h => by cases h) b1 (le_maxLen (by omega)) (by omega) fun p2 c2 w8 hr8 hx8 _ _ => asS_i rfl ?_
      have hx58 : Ext no w5 w8 := hx57.then hx8 fun k hk ⟨a, ha, hab⟩ => by
        have := (hr6.at ha).1
        omega
      exact hd_i (h5.no hx58).ld2 (hd_i (h5.no hx58).ld2 (fin w8 p2 c2 hx58 hr8))
    · refine (St.start w5).nw (cs := b.cells) fun r50 w6 hZ => ?_
      have hx56 := hZ.ext
      refine hd_i (h5.no hx56).ld2 (hd_i (h5.no hx56).ld2 ?_)
      refine sB.app (RowN.nil w6 w5.heap.size _ _) hx56.size (hsrc.ext hx56 fun _ _ h => h) lt hq0 bcs_one (le_maxLen (by omega)) (by omega) fun p1 c1 w7 hr7 hx7 _ _ => asS_i rfl ?_
      have hx67 : Ext no w6 w7 := hx7.mono fun k _ ⟨a, ha, _⟩ => by cases ha
      have hx57 := hx56.trans hx67
      replace hZ := hZ.to hx67
      refine hd_i (h5.no hx57).ld2 (hd_i (h5.no hx57).ld2 ?_)
      have hr50 : Reads w7 (some ⟨r50, 0, none⟩) b.cells := .inr ⟨r50, 0, rfl, fun k v hv => by
        rw [blk_cell (hZ.kn _ List.mem_cons_self).1, Nat.zero_add]
        simpa using hv⟩
      refine sB.app hr7 hx57.size hr50 rfl (fun h => by cases h) b1 (le_maxLen (by omega)) (by omega) fun p2 c2 w8 hr8 hx8 _ _ => asS_i rfl ?_
      have hx58 : Ext no w5 w8 := hx57.then hx8 fun k hk ⟨a, ha, hab⟩ => by
        have := (hr7.at ha).1
        omega
      exact hd_i (h5.no hx58).ld2 (hd_i (h5.no hx58).ld2 (fin w8 p2 c2 hx58 hr8))
  rintro _ w5 ⟨q1, c2, rfl, hx5, hr2⟩
  replace hS := hS.to hx5
  have h5 := h.no hS.ext
  refine asS_i rfl ?_
  have hxx := h.lt x h.fp.1
  have z3 : w.heap.size ≤ w3.heap.size := by
    have := hS.ext.size
    have a1 := hx4.size
    have a2 := hx5.size
    have a3 := hX3.size
    exact a3
  have z4 := hx4.size
  have z5 := hx5.size
  refine stx h5.hd (k := 1) (by simp) rfl fun w6 hd6 hx6 hz6 => ?_
  refine stx hd6 (k := 2) (by simp) rfl fun w7 hd7 hx7 hz7 => lv_i ?_
  have b1 : ∀ a, p1 = some a → w3.heap.size ≤ a.block ∧ a.block < w4.heap.size := fun a ha => hr1.at ha
  have b2 : ∀ a, q1 = some a → w4.heap.size ≤ a.block ∧ a.block < w5.heap.size := fun a ha => hr2.at ha
  have hF57 : Ext F w w7 := ((Ext.of_no hS.ext).then hx6 fun k _ hk => by
    have : k = x := hk
    rw [this]; exact h.fp.1).then hx7 fun k _ hk => by
    have : k = x := hk
    rw [this]; exact h.fp.1
  refine hK w7 (fun k => k = x ∨ blocks p1 k ∨ blocks q1 k) p1 c1 q1 c2 ⟨?_, ?_, ?_, ?_, ?_, ?_, ?_, ?_⟩ hF57 ?_
  · rw [hlen]
    simpa using hd7
  · refine (((hr1.ext hx5 fun _ _ h => h).ext hx6 fun a ha e => ?_).ext hx7 fun a ha e => ?_).mono (Nat.zero_le _)
    · have e' : a.block = x := e
      have := (b1 a ha).1
      omega
    · have e' : a.block = x := e
      have := (b1 a ha).1
      omega
  · rw [hlen]
    refine ((hr2.ext hx6 fun a ha e => ?_).ext hx7 fun a ha e => ?_).mono (Nat.zero_le _)
    · have e' : a.block = x := e
      have := (b2 a ha).1
      omega
    · have e' : a.block = x := e
      have := (b2 a ha).1
      omega
  · intro a1 a2 h1 h2 e
    have := (b1 a1 h1).2
    have := (b2 a2 h2).1
    omega
  · intro a ha e
    have := (b1 a ha).1
    omega
  · intro a ha e
    have := (b2 a ha).1
    omega
  · exact ⟨.inl rfl, fun a ha => .inr (.inl ⟨a, ha, rfl⟩), fun a ha => .inr (.inr ⟨a, ha, rfl⟩)⟩
  · rintro k (rfl | ⟨a, ha, rfl⟩ | ⟨a, ha, rfl⟩)
    · omega
    · have := (b1 a ha).2
      omega
    · have := (b2 a ha).2
      omega
  · rintro k (rfl | ⟨a, ha, rfl⟩ | ⟨a, ha, rfl⟩)
    · exact .inl h.fp.1
    · have := (b1 a ha).1
      exact .inr (by omega)
    · have := (b2 a ha).1
      exact .inr (by omega)
end Go.Proofs.Ytamobmjfdiecbaa
