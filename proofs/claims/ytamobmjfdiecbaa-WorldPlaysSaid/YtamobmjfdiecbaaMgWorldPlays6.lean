/- GrQ: the document's own grid: Put. Conditions: those of each theorem, on its arguments. -/
import Derived.Test.YtamobmjfdiecbaaMgWorldPlays5
import Derived.Test.YtamobmjfdiecbaaMgWorldPlays4
namespace Go.Proofs.Ytamobmjfdiecbaa
open Go Go.Sx Go.Fp
attribute [local irreducible] jn lv ld st nw asI asB asP asS asY asM asF asA asT lp rn ru rq cl dw dr bnd bn2 nz nn hd hr so eqW
attribute [local irreducible] callOk

theorem iv_one {l : List Int} : ∀ u ∈ iv .i64 l, Sx.one u = true := by
  intro u hu
  obtain ⟨z, _, rfl⟩ := List.mem_map.1 hu
  rfl
theorem bcs_one {A : List (Int × Bx)} : ∀ u ∈ bcs A, Sx.one u = true := by
  intro u hu
  unfold bcs at hu
  obtain ⟨y, _, hu⟩ := List.mem_flatMap.1 hu
  simp only [Bx.cells, List.mem_cons, List.not_mem_nil, or_false] at hu
  rcases hu with rfl | rfl | rfl <;> rfl
theorem bcs_length (A : List (Int × Bx)) : (bcs A).length = A.length * 3 := fl_lenN (f := fun y : Int × Bx => y.2.cells) (fun _ => rfl) A
theorem ids_split (A : List (Int × Bx)) (i : Nat) : ids (A.take i) ++ ids (A.drop i) = ids A := by
  unfold ids iv
  rw [← List.map_append, ← List.map_append, List.take_append_drop]
theorem bcs_split (A : List (Int × Bx)) (i : Nat) : bcs (A.take i) ++ bcs (A.drop i) = bcs A := by
  unfold bcs
  rw [← List.flatMap_append, List.take_append_drop]
theorem ids_drop (A : List (Int × Bx)) (i : Nat) : (ids A).drop i = ids (A.drop i) := by simp [ids, iv]
theorem bcs_drop (A : List (Int × Bx)) {i : Nat} (hi : i ≤ A.length) : (bcs A).drop (i * 3) = bcs (A.drop i) := by
  have h := bcs_split A i
  have hl : (bcs (A.take i)).length = i * 3 := by rw [bcs_length, List.length_take]; congr 1; omega
  rw [← h, ← hl, List.drop_left]
set_option maxRecDepth 100000 in
theorem sB : SlN Try.prog 82 25 3 24 := ⟨rfl, ⟨_, _, rfl, rfl, rfl, rfl, rfl⟩, by decide⟩

theorem _root_.Go.Sx.Reads.dropN {w : World} {p : Option Addr} {c n s : Nat} {xs : List Value} (h : Reads w p xs) (hc : xs.length ≤ c * s) : Reads w (slp p c n s) (xs.drop (n * s)) := by
  by_cases h0 : xs.drop (n * s) = []
  · exact .inl h0
  · have hn : n * s < xs.length := by
      by_cases hh : n * s < xs.length
      · exact hh
      · exact absurd (List.drop_eq_nil_of_le (by omega)) h0
    rcases h with h | ⟨b, o, rfl, hx⟩
    · subst h; simp at hn
    · have hcn : c ≠ n := fun e => by subst e; omega
      have : slp (some ⟨b, o, Option.none⟩) c n s = some ⟨b, o + n * s, Option.none⟩ := by
        unfold slp
        rw [if_neg hcn]
        simp [add_mk]
      rw [this]
      refine .inr ⟨b, o + n * s, rfl, fun i v hv => ?_⟩
      rw [List.getElem?_drop] at hv
      have := hx _ _ hv
      rw [← this]
      congr 2
      omega
theorem slp_none {p : Option Addr} {c n s : Nat} (h : slp p c n s = none) : p = none := by
  unfold slp at h
  split at h
  · exact h
  · cases p with
    | none => rfl
    | some b => simp at h

/-- a list with one more, at a place -/
def insA (A : List (Int × Bx)) (i : Nat) (id : Int) (b : Bx) : List (Int × Bx) := A.take i ++ (id, b) :: A.drop i
theorem insA_length {A : List (Int × Bx)} {i : Nat} {id : Int} {b : Bx} (hi : i ≤ A.length) : (insA A i id b).length = A.length + 1 := by
  unfold insA
  rw [List.length_append, List.length_cons, List.length_take, List.length_drop]
  omega

/-- what Put tells -/
def rputE (s : Int) (A : List (Int × Bx)) (id : Int) (b : Bx) : Int := if id < 0 then 1 else if isAt A id = true then 180 else cellsE s b
def rputA (s : Int) (A : List (Int × Bx)) (id : Int) (b : Bx) : List (Int × Bx) := if rputE s A id b = 0 then insA A (pos A id) id b else A

theorem row_le {w : World} {base : Nat} {e : TypeId} {p : Option Addr} {c : Nat} {xs : List Value} (h : Row w base e p c xs) : xs.length ≤ c := by
  rcases h.cases with ⟨_, rfl, rfl⟩ | ⟨g, cur, _, _, _, h1, _⟩
  · simp
  · exact h1

theorem stx {w : World} {x : Nat} {cs : Array Value} {t : TypeId} (hd : w.heap[x]? = some (.cells cs t (0, 0))) {k : Nat} (hk : k < cs.size) {v : Value} (h1 : Sx.one v = true) {K : World → Prop}
    (hK : ∀ w', w'.heap[x]? = some (.cells (cs.setIfInBounds k v) t (0, 0)) → Ext (onl x) w w' → w'.heap.size = w.heap.size → K w') : dr (some ⟨x, 0, none⟩) fun a => Sx.st w (Addr.add a k) v K := by
  refine dr_i ?_
  rw [add_mk, Nat.zero_add]
  exact st_mk hd hk h1 (hK _ (blk_set hd _ _) (Ext.set w ⟨x, k, none⟩ v) (by simp [World.setCell]))

set_option maxHeartbeats 4000000 in
theorem rPut_k {w : World} {F : Nat → Prop} {x : Nat} {s : Int} {A : List (Int × Bx)} {p : Option Addr} {c : Nat} {q : Option Addr} {c' : Nat} (h : R1 w F x s A p c q c') (hm : A.length ≤ 100000) {id : Int} {b : Bx} {K : Value → World → Prop}
    (hK : ∀ w' F' p' c1 q' c2, R1 w' F' x s (rputA s A id b) p' c1 q' c2 → Ext F w w' → (∀ k, F' k → F k ∨ w.heap.size ≤ k) → K (.int .i64 (rputE s A id b)) w') :
    cl Try.prog 55 #[.pointer (some ⟨x, 0, none⟩), .int .i64 id, b.v] w K := by
  have bad : rputE s A id b ≠ 0 → ∀ e, rputE s A id b = e → ∀ w', Ext no w w' → K (.int .i64 e) w' := by
    intro h0 e he w' hx
    have := hK w' F p c q c' (by unfold rputA; rw [if_neg h0]; exact h.no hx) (Ext.of_no hx) (fun k hk => .inl hk)
    rw [he] at this
    exact this
  apply F55_calls
  unfold F55
  have hS := St.start w
  (refine St.nw hS ?_; clear hS; intro r1 _ hS)
  refine lv_i (cond_split (fun hc => ?_) (fun hc => ?_))
  · have hid : id < 0 := of_decide_eq_true hc
    have hE : rputE s A id b = 1 := by unfold rputE; rw [if_pos hid]
    exact lv_i (bad (by rw [hE]; decide) _ hE _ hS.ext)
  have hid : ¬ id < 0 := of_decide_eq_false hc
  refine place_k (h.no hS.ext) (by omega) fun w1 hx1 => ?_
  replace hS := hS.to hx1
  refine asT_i rfl rfl (asI_i rfl (asB_i rfl (lv_i (cond_split (fun hc => ?_) (fun hc => ?_)))))
  · have hE : rputE s A id b = 180 := by unfold rputE; rw [if_neg hid, if_pos hc]
    exact lv_i (bad (by rw [hE]; decide) _ hE _ hS.ext)
  have hE : rputE s A id b = cellsE s b := by unfold rputE; rw [if_neg hid, if_neg (by rw [hc]; decide)]
  refine hS.dw fun w2 hS _ => ?_
  have h2 := h.no hS.ext
  refine dr_i (ld_mk h2.ld0 (asI_i rfl (hS.ld0 0 rfl rfl (asI_i rfl (hS.ld 0 rfl rfl (asI_i rfl (hS.ld 0 rfl rfl (asI_i rfl ?_))))))))
  refine rcells_k (b := b) fun p0 c0 w3 hx3 _ => asT_i rfl rfl (asS_i rfl (asI_i rfl (lv_i (cond_split (fun hc => ?_) (fun hc => ?_)))))
  · exact lv_i (bad (by rw [hE]; simpa using hc) _ hE _ (hS.ext.trans hx3))
  have hE0 : rputE s A id b = 0 := by rw [hE]; simpa using hc
  have hA' : rputA s A id b = insA A (pos A id) id b := by unfold rputA; rw [if_pos hE0]
  rw [hA', hE0] at hK
  replace hS := hS.to hx3
  have hX3 := hS.ext
  have hpl := pos_le A id
  generalize pos A id = i at *
  have hlen := insA_length (id := id) (b := b) hpl
  rw [Int.toNat_natCast]
  refine jn_of (fun t w' => ∃ p1 c1, t = [.slice p1 (A.length + 1) c1] ∧ Ext no w3 w' ∧ Row w' w3.heap.size 3 p1 c1 (ids (insA A i id b))) ?_ ?_
  rotate_left
  · intro J hJ
    refine hS.dw fun w4 hS hx4 => ?_
    have h4 := h.no hS.ext
    have hcc := row_le h4.ri
    rw [ids_length] at hcc
    have hsz := hx4.size
    have hsrc : Reads w4 p (ids (A.take i)) := by
      have := h4.ri.reads
      rw [← ids_split A i] at this
      exact this.pre
    have hdr : ∀ {w5 : World}, Ext no w4 w5 → Reads w5 (slp p c i 1) (ids (A.drop i)) := fun hx => by
      have := (h4.no hx).ri.reads.drop (c := c) (n := i) (by rw [ids_length]; exact hcc)
      rwa [ids_drop] at this
    have lt : (ids (A.take i)).length = i := by rw [ids_length, List.length_take]; omega
    have ld : (ids (A.drop i)).length = A.length - i := by rw [ids_length, List.length_drop]
    have hI : ids (A.take i) ++ [.int .i64 id] ++ ids (A.drop i) = ids (insA A i id b) := by unfold insA ids iv; simp
    have fin : ∀ (w5 : World) (p1 : Option Addr) (c1 : Nat), Ext no w4 w5 → Row w5 w4.heap.size 3 p1 c1 (ids (A.take i) ++ [.int .i64 id]) → rn Try.prog (Builtin.append_ #[38, 38] 38 #[.slice p1 (0 + i + 1) c1, .slice (slp p c i 1) (A.length - i) (c - i)]) w5 fun v57 w58 => asS v57 fun p59 n60 c61 => hd w58 (Addr.add ⟨x, 0, none⟩ 1) (.slice p A.length c) (hd w58 (Addr.add ⟨x, 0, none⟩ 1) (.slice p A.length c) (J [.slice p59 n60 c61] w58)) := by
      intro w5 p1 c1 hx5 hr5
      refine sI.app hr5 (by simp [lt]) hx5.size (hdr hx5) ld iv_one (le_maxLen (by omega)) (by omega) fun p2 c2 w6 hr6 hx6 _ _ => asS_i rfl ?_
      have hx46 : Ext no w4 w6 := hx5.then hx6 fun k hk ⟨a, ha, hab⟩ => by
        have := (hr5.at ha).1
        omega
      have hn : 0 + i + 1 + (A.length - i) = A.length + 1 := by omega
      rw [hn]
      refine hd_i (h4.no hx46).ld1 (hd_i (h4.no hx46).ld1 (hJ _ _ ⟨p2, c2, rfl, hx4.trans hx46, ?_⟩))
      rw [hI] at hr6
      exact hr6.mono hsz
    refine dr_i (ld_mk h4.ld1 (asS_i rfl (bn2_mk (by omega) (by omega) (dr_i (ld_mk h4.ld1 (asS_i rfl (bn2_mk (by omega) (by omega) ⟨?_, ?_⟩)))))))
    · refine sI.app (n := 0) (m := i) (Row.nil w4 w4.heap.size _) rfl (Nat.le_refl _) hsrc lt iv_one (le_maxLen (by omega)) (by omega) fun p1 c1 w5 hr5 hx5 _ _ => asS_i rfl ?_
      have hx45 : Ext no w4 w5 := hx5.mono fun k _ ⟨a, ha, _⟩ => by cases ha
      refine hd_i (h4.no hx45).ld1 (hd_i (h4.no hx45).ld1 ?_)
      refine (St.start w5).nw (cs := [.int .i64 id]) fun r50 w6 hZ => ?_
      have hx46 := hx45.trans hZ.ext
      refine hd_i (h4.no hx46).ld1 (hd_i (h4.no hx46).ld1 ?_)
      have hr50 : Reads w6 (some ⟨r50, 0, none⟩) [.int .i64 id] := .inr ⟨r50, 0, rfl, fun k v hv => by
        rw [blk_cell (hZ.kn _ List.mem_cons_self).1, Nat.zero_add]
        simpa using hv⟩
      refine sI.app (n := 0 + i) (m := 1) (hr5.ext hZ.ext fun _ _ h => h) (by simp [lt]) hx46.size hr50 rfl (by intro u hu; rw [List.mem_singleton.1 hu]; rfl) (le_maxLen (by omega)) (by omega) fun p2 c2 w7 hr7 hx7 _ _ => asS_i rfl ?_
      have hx47 : Ext no w4 w7 := hx46.then hx7 fun k hk ⟨a, ha, hab⟩ => by
        have := (hr5.at ha).1
        omega
      exact hd_i (h4.no hx47).ld1 (hd_i (h4.no hx47).ld1 (fin w7 p2 c2 hx47 hr7))
    · refine (St.start w4).nw (cs := [.int .i64 id]) fun r50 w5 hZ => ?_
      have hx45 := hZ.ext
      refine hd_i (h4.no hx45).ld1 (hd_i (h4.no hx45).ld1 ?_)
      refine sI.app (n := 0) (m := i) (Row.nil w5 w4.heap.size _) rfl hx45.size (hsrc.ext hx45 fun _ _ h => h) lt iv_one (le_maxLen (by omega)) (by omega) fun p1 c1 w6 hr6 hx6 _ _ => asS_i rfl ?_
      have hx56 : Ext no w5 w6 := hx6.mono fun k _ ⟨a, ha, _⟩ => by cases ha
      have hx46 := hx45.trans hx56
      replace hZ := hZ.to hx56
      refine hd_i (h4.no hx46).ld1 (hd_i (h4.no hx46).ld1 ?_)
      have hr50 : Reads w6 (some ⟨r50, 0, none⟩) [.int .i64 id] := .inr ⟨r50, 0, rfl, fun k v hv => by
        rw [blk_cell (hZ.kn _ List.mem_cons_self).1, Nat.zero_add]
        simpa using hv⟩
      refine sI.app (n := 0 + i) (m := 1) hr6 (by simp [lt]) hx46.size hr50 rfl (by intro u hu; rw [List.mem_singleton.1 hu]; rfl) (le_maxLen (by omega)) (by omega) fun p2 c2 w7 hr7 hx7 _ _ => asS_i rfl ?_
      have hx47 : Ext no w4 w7 := hx46.then hx7 fun k hk ⟨a, ha, hab⟩ => by
        have := (hr6.at ha).1
        omega
      exact hd_i (h4.no hx47).ld1 (hd_i (h4.no hx47).ld1 (fin w7 p2 c2 hx47 hr7))
  rintro _ w4 ⟨p1, c1, rfl, hx4, hr1⟩
  replace hS := hS.to hx4
  refine asS_i rfl ?_
  refine jn_of (fun t w' => ∃ q1 c2, t = [.slice q1 (A.length + 1) c2] ∧ Ext no w4 w' ∧ RowN w' w4.heap.size 25 3 q1 c2 (A.length + 1) (bcs (insA A i id b))) ?_ ?_
  rotate_left
  · intro J hJ
    refine hS.dw fun w5 hS hx5 => ?_
    have h5 := h.no hS.ext
    have hsz := hx5.size
    have hcc := h5.rb.le_max
    have hsrc : Reads w5 q (bcs (A.take i)) := by
      have := h5.rb.reads
      rw [← bcs_split A i] at this
      exact this.pre
    have hdr : ∀ {w6 : World}, Ext no w5 w6 → Reads w6 (slp q c' i 3) (bcs (A.drop i)) := fun hx => by
      have := (h5.no hx).rb.reads.dropN (c := c') (n := i) (s := 3) (by rw [bcs_length]; omega)
      rwa [bcs_drop A hpl] at this
    have lt : (bcs (A.take i)).length = i * 3 := by rw [bcs_length, List.length_take]; congr 1; omega
    have ld : (bcs (A.drop i)).length = (A.length - i) * 3 := by rw [bcs_length, List.length_drop]
    have hq0 : q = none → i = 0 := fun hq => by
      have := (h5.rb.none hq).1
      omega
    have hq1 : slp q c' i 3 = none → A.length - i = 0 := fun hq => by
      have := (h5.rb.none (slp_none hq)).1
      omega
    have hI : bcs (A.take i) ++ b.cells ++ bcs (A.drop i) = bcs (insA A i id b) := by unfold insA bcs; simp
    have b1 : ∀ u ∈ b.cells, Sx.one u = true := fun u hu => by
      simp only [Bx.cells, List.mem_cons, List.not_mem_nil, or_false] at hu
      rcases hu with rfl | rfl | rfl <;> rfl
    have fin : ∀ (w6 : World) (p1 : Option Addr) (c1 : Nat), Ext no w5 w6 → RowN w6 w5.heap.size 25 3 p1 c1 (0 + i + 1) (bcs (A.take i) ++ b.cells) → rn Try.prog (Builtin.append_ #[82, 82] 82 #[.slice p1 (0 + i + 1) c1, .slice (slp q c' i 3) (A.length - i) (c' - i)]) w6 fun v57 w58 => asS v57 fun p59 n60 c61 => hd w58 (Addr.add ⟨x, 0, none⟩ 2) (.slice q A.length c') (hd w58 (Addr.add ⟨x, 0, none⟩ 2) (.slice q A.length c') (J [.slice p59 n60 c61] w58)) := by
      intro w6 p1 c1 hx6 hr6
      refine sB.app hr6 hx6.size (hdr hx6) ld hq1 bcs_one (le_maxLen (by omega)) (by omega) fun p2 c2 w7 hr7 hx7 _ _ => asS_i rfl ?_
      have hx57 : Ext no w5 w7 := hx6.then hx7 fun k hk ⟨a, ha, hab⟩ => by
        have := (hr6.at ha).1
        omega
      have hn : 0 + i + 1 + (A.length - i) = A.length + 1 := by omega
      rw [hn] at hr7 ⊢
      refine hd_i (h5.no hx57).ld2 (hd_i (h5.no hx57).ld2 (hJ _ _ ⟨p2, c2, rfl, hx5.trans hx57, ?_⟩))
      rw [hI] at hr7
      exact hr7.mono hsz
    refine dr_i (ld_mk h5.ld2 (asS_i rfl (bn2_mk (by omega) (by omega) ?_)))
    refine hS.ld0 0 rfl rfl (asI_i rfl (hS.ld 0 rfl rfl (asI_i rfl (hS.ld 0 rfl rfl (asI_i rfl ?_)))))
    refine dr_i (ld_mk h5.ld2 (asS_i rfl (bn2_mk (by omega) (by omega) ⟨?_, ?_⟩)))
    · refine sB.app (RowN.nil w5 w5.heap.size _ _) (Nat.le_refl _) hsrc lt hq0 bcs_one (le_maxLen (by omega)) (by omega) fun p1 c1 w6 hr6 hx6 _ _ => asS_i rfl ?_
      have hx56 : Ext no w5 w6 := hx6.mono fun k _ ⟨a, ha, _⟩ => by cases ha
      have hS6 := hS.to hx56
      refine hd_i (h5.no hx56).ld2 (hS6.hd0 0 rfl rfl (hS6.hd 0 rfl rfl (hS6.hd 0 rfl rfl (hd_i (h5.no hx56).ld2 ?_))))
      refine (St.start w6).nw (cs := b.cells) fun r50 w7 hZ => ?_
      have hx57 := hx56.trans hZ.ext
      refine hd_i (h5.no hx57).ld2 (hd_i (h5.no hx57).ld2 ?_)
      have hr50 : Reads w7 (some ⟨r50, 0, none⟩) b.cells := .inr ⟨r50, 0, rfl, fun k v hv => by
        rw [blk_cell (hZ.kn _ List.mem_cons_self).1, Nat.zero_add]
        simpa using hv⟩
      refine sB.app (hr6.ext hZ.ext fun _ _ h => h) hx57.size hr50 rfl (fun h => by cases h) b1 (le_maxLen (by omega)) (by omega) fun p2 c2 w8 hr8 hx8 _ _ => asS_i rfl ?_
      have hx58 : Ext no w5 w8 := hx57.then hx8 fun k hk ⟨a, ha, hab⟩ => by
        have := (hr6.at ha).1
        omega
      exact hd_i (h5.no hx58).ld2 (hd_i (h5.no hx58).ld2 (fin w8 p2 c2 hx58 hr8))
    · refine (St.start w5).nw (cs := b.cells) fun r50 w6 hZ => ?_
      have hx56 := hZ.ext
      refine hd_i (h5.no hx56).ld2 (hd_i (h5.no hx56).ld2 ?_)
      refine sB.app (RowN.nil w6 w5.heap.size _ _) hx56.size (hsrc.ext hx56 fun _ _ h => h) lt hq0 bcs_one (le_maxLen (by omega)) (by omega) fun p1 c1 w7 hr7 hx7 _ _ => asS_i rfl ?_
      have hx67 : Ext no w6 w7 := hx7.mono fun k _ ⟨a, ha, _⟩ => by cases ha
      have hx57 := hx56.trans hx67
      replace hZ := hZ.to hx67
      refine hd_i (h5.no hx57).ld2 (hd_i (h5.no hx57).ld2 ?_)
      have hr50 : Reads w7 (some ⟨r50, 0, none⟩) b.cells := .inr ⟨r50, 0, rfl, fun k v hv => by
        rw [blk_cell (hZ.kn _ List.mem_cons_self).1, Nat.zero_add]
        simpa using hv⟩
      refine sB.app hr7 hx57.size hr50 rfl (fun h => by cases h) b1 (le_maxLen (by omega)) (by omega) fun p2 c2 w8 hr8 hx8 _ _ => asS_i rfl ?_
      have hx58 : Ext no w5 w8 := hx57.then hx8 fun k hk ⟨a, ha, hab⟩ => by
        have := (hr7.at ha).1
        omega
      exact hd_i (h5.no hx58).ld2 (hd_i (h5.no hx58).ld2 (fin w8 p2 c2 hx58 hr8))
  rintro _ w5 ⟨q1, c2, rfl, hx5, hr2⟩
  replace hS := hS.to hx5
  have h5 := h.no hS.ext
  refine asS_i rfl ?_
  have hxx := h.lt x h.fp.1
  have z3 : w.heap.size ≤ w3.heap.size := by
    have := hS.ext.size
    have a1 := hx4.size
    have a2 := hx5.size
    have a3 := hX3.size
    exact a3
  have z4 := hx4.size
  have z5 := hx5.size
  refine stx h5.hd (k := 1) (by simp) rfl fun w6 hd6 hx6 hz6 => ?_
  refine stx hd6 (k := 2) (by simp) rfl fun w7 hd7 hx7 hz7 => lv_i ?_
  have b1 : ∀ a, p1 = some a → w3.heap.size ≤ a.block ∧ a.block < w4.heap.size := fun a ha => hr1.at ha
  have b2 : ∀ a, q1 = some a → w4.heap.size ≤ a.block ∧ a.block < w5.heap.size := fun a ha => hr2.at ha
  have hF57 : Ext F w w7 := ((Ext.of_no hS.ext).then hx6 fun k _ hk => by
    have : k = x := hk
    rw [this]; exact h.fp.1).then hx7 fun k _ hk => by
    have : k = x := hk
    rw [this]; exact h.fp.1
  refine hK w7 (fun k => k = x ∨ blocks p1 k ∨ blocks q1 k) p1 c1 q1 c2 ⟨?_, ?_, ?_, ?_, ?_, ?_, ?_, ?_⟩ hF57 ?_
  · rw [hlen]
    simpa using hd7
  · refine (((hr1.ext hx5 fun _ _ h => h).ext hx6 fun a ha e => ?_).ext hx7 fun a ha e => ?_).mono (Nat.zero_le _)
    · have e' : a.block = x := e
      have := (b1 a ha).1
      omega
    · have e' : a.block = x := e
      have := (b1 a ha).1
      omega
  · rw [hlen]
    refine ((hr2.ext hx6 fun a ha e => ?_).ext hx7 fun a ha e => ?_).mono (Nat.zero_le _)
    · have e' : a.block = x := e
      have := (b2 a ha).1
      omega
    · have e' : a.block = x := e
      have := (b2 a ha).1
      omega
  · intro a1 a2 h1 h2 e
    have := (b1 a1 h1).2
    have := (b2 a2 h2).1
    omega
  · intro a ha e
    have := (b1 a ha).1
    omega
  · intro a ha e
    have := (b2 a ha).1
    omega
  · exact ⟨.inl rfl, fun a ha => .inr (.inl ⟨a, ha, rfl⟩), fun a ha => .inr (.inr ⟨a, ha, rfl⟩)⟩
  · rintro k (rfl | ⟨a, ha, rfl⟩ | ⟨a, ha, rfl⟩)
    · omega
    · have := (b1 a ha).2
      omega
    · have := (b2 a ha).2
      omega
  · rintro k (rfl | ⟨a, ha, rfl⟩ | ⟨a, ha, rfl⟩)
    · exact .inl h.fp.1
    · have := (b1 a ha).1
      exact .inr (by omega)
    · have := (b2 a ha).1
      exact .inr (by omega)
end Go.Proofs.Ytamobmjfdiecbaa

/- GrU: the document's own grid: Move and Drop. Conditions: those of each theorem, on its arguments. -/
namespace Go.Proofs.Ytamobmjfdiecbaa
open Go Go.Sx Go.Fp
attribute [local irreducible] jn lv ld st nw asI asB asP asS asY asM asF asA asT lp rn ru rq cl dw dr bnd bn2 nz nn hd hr so eqW
attribute [local irreducible] callOk

theorem add_add (a : Addr) (m n : Nat) : Addr.add (Addr.add a m) n = Addr.add a (m + n) := by
  by_cases hm : m = 0 <;> by_cases hn : n = 0 <;> simp [Addr.add, hm, hn, Nat.add_assoc]

theorem isAt_get {A : List (Int × Bx)} {id : Int} (h : isAt A id = true) : ∃ b, A[pos A id]? = some (id, b) := by
  unfold isAt at h
  split at h
  · rename_i y hy
    have : y.1 = id := by simpa using h
    exact ⟨y.2, by rw [hy, ← this]⟩
  · cases h

def rmoveE (s : Int) (A : List (Int × Bx)) (id : Int) (b : Bx) : Int := if isAt A id = true then cellsE s b else 181
def rmoveA (s : Int) (A : List (Int × Bx)) (id : Int) (b : Bx) : List (Int × Bx) := if rmoveE s A id b = 0 then A.set (pos A id) (id, b) else A

set_option maxHeartbeats 2000000 in
theorem rMove_k {w : World} {F : Nat → Prop} {x : Nat} {s : Int} {A : List (Int × Bx)} {p : Option Addr} {c : Nat} {q : Option Addr} {c' : Nat} (h : R1 w F x s A p c q c') (hm : A.length ≤ 100000) {id : Int} {b : Bx} {K : Value → World → Prop}
    (hK : ∀ w', R1 w' F x s (rmoveA s A id b) p c q c' → Ext F w w' → K (.int .i64 (rmoveE s A id b)) w') :
    cl Try.prog 56 #[.pointer (some ⟨x, 0, none⟩), .int .i64 id, b.v] w K := by
  have bad : rmoveE s A id b ≠ 0 → ∀ e, rmoveE s A id b = e → ∀ w', Ext no w w' → K (.int .i64 e) w' := by
    intro h0 e he w' hx
    have := hK w' (by unfold rmoveA; rw [if_neg h0]; exact h.no hx) (Ext.of_no hx)
    rw [he] at this
    exact this
  apply F56_calls
  unfold F56
  have hS := St.start w
  (refine St.nw hS ?_; clear hS; intro r1 _ hS)
  refine lv_i (place_k (h.no hS.ext) (by omega) fun w1 hx1 => ?_)
  replace hS := hS.to hx1
  refine asT_i rfl rfl (asI_i rfl (asB_i rfl (lv_i (cond_split (fun hc => ?_) (fun hc => ?_)))))
  · have hE : rmoveE s A id b = 181 := by unfold rmoveE; rw [if_neg (by simpa using hc)]
    exact lv_i (bad (by rw [hE]; decide) _ hE _ hS.ext)
  have hat : isAt A id = true := by simpa using hc
  have hE : rmoveE s A id b = cellsE s b := by unfold rmoveE; rw [if_pos hat]
  refine hS.dw fun w2 hS _ => ?_
  have h2 := h.no hS.ext
  refine dr_i (ld_mk h2.ld0 (asI_i rfl (hS.ld0 0 rfl rfl (asI_i rfl (hS.ld 0 rfl rfl (asI_i rfl (hS.ld 0 rfl rfl (asI_i rfl ?_))))))))
  refine rcells_k (b := b) fun p0 c0 w3 hx3 _ => asT_i rfl rfl (asS_i rfl (asI_i rfl (lv_i ?_)))
  replace hS := hS.to hx3
  refine jn_of (fun _ w' => R1 w' F x s (rmoveA s A id b) p c q c' ∧ Ext F w w') ?_ ?_
  · rintro _ w4 ⟨h4, hx4⟩
    rw [← hE]
    exact lv_i (hK w4 h4 hx4)
  · intro J hJ
    refine cond_split (fun hc => ?_) (fun hc => ?_)
    · have h0 : rmoveE s A id b = 0 := by rw [hE]; simpa using hc
      refine hS.dw fun w4 hS _ => ?_
      have h4 := h.no hS.ext
      obtain ⟨b0, hb0⟩ := isAt_get hat
      have hi := (List.getElem?_eq_some_iff.1 hb0).1
      have hA' : rmoveA s A id b = A.set (pos A id) (id, b) := by unfold rmoveA; rw [if_pos h0]
      rw [hA'] at hJ
      generalize pos A id = i at *
      refine dr_i (ld_mk h4.ld2 (asS_i rfl (hS.ld0 0 rfl rfl (asI_i rfl (hS.ld 0 rfl rfl (asI_i rfl (hS.ld 0 rfl rfl (asI_i rfl ?_))))))))
      rw [Int.toNat_natCast]
      rcases h4.rb.cases with ⟨_, _, hl0, _⟩ | ⟨g, cur, rfl, _⟩
      · omega
      refine dr_i (bnd_mk (by omega) (by omega) ?_)
      have hlen := bcs_length A
      have l1 : ∀ (y : Int × Bx), y.2.cells.length = 3 := fun _ => rfl
      refine h4.rb.st (j := i * 3) (by omega) rfl (fun w5 hr5 hx5 _ => ?_) rfl
      have e5 : (bcs A).set (i * 3) (.int .i64 b.x) = bcs (A.set i (id, ⟨b.x, b0.y, b0.r⟩)) := fl_setN (f := fun y : Int × Bx => y.2.cells) (n := 3) l1 (k := 0) hb0 (by decide) rfl
      rw [e5] at hr5
      rw [add_add]
      have hl5 := bcs_length (A.set i (id, ⟨b.x, b0.y, b0.r⟩))
      rw [List.length_set] at hl5
      refine hr5.st (j := i * 3 + 1) (by omega) rfl (fun w6 hr6 hx6 _ => ?_) rfl
      have hb1 : (A.set i (id, ⟨b.x, b0.y, b0.r⟩))[i]? = some (id, ⟨b.x, b0.y, b0.r⟩) := List.getElem?_set_self hi
      have e6 : (bcs (A.set i (id, ⟨b.x, b0.y, b0.r⟩))).set (i * 3 + 1) (.int .i64 b.y) = bcs ((A.set i (id, ⟨b.x, b0.y, b0.r⟩)).set i (id, ⟨b.x, b.y, b0.r⟩)) := fl_setN (f := fun y : Int × Bx => y.2.cells) (n := 3) l1 (k := 1) hb1 (by decide) rfl
      rw [e6, List.set_set] at hr6
      rw [add_add]
      have hl6 := bcs_length (A.set i (id, ⟨b.x, b.y, b0.r⟩))
      rw [List.length_set] at hl6
      refine hr6.st (j := i * 3 + 2) (by omega) rfl (fun w7 hr7 hx7 _ => hJ _ _ ?_) rfl
      have hb2 : (A.set i (id, ⟨b.x, b.y, b0.r⟩))[i]? = some (id, ⟨b.x, b.y, b0.r⟩) := List.getElem?_set_self hi
      have e7 : (bcs (A.set i (id, ⟨b.x, b.y, b0.r⟩))).set (i * 3 + 2) (.int .i64 b.r) = bcs ((A.set i (id, ⟨b.x, b.y, b0.r⟩)).set i (id, b)) := fl_setN (f := fun y : Int × Bx => y.2.cells) (n := 3) l1 (k := 2) hb2 (by decide) rfl
      rw [e7, List.set_set] at hr7
      have hX : Ext (blocks (some ⟨g, 0, none⟩)) w4 w7 := (hx5.trans hx6).trans hx7
      have hids : ids (A.set i (id, b)) = ids A := by
        unfold ids
        congr 1
        apply List.ext_getElem?
        intro k
        simp only [List.getElem?_map]
        by_cases hk : i = k
        · subst hk
          rw [List.getElem?_set_self hi, hb0]
          rfl
        · rw [List.getElem?_set_ne hk]
      refine ⟨⟨?_, ?_, ?_, h4.ap, h4.xp, h4.xq, h4.fp, fun k hk => Nat.lt_of_lt_of_le (h4.lt k hk) hX.size⟩, (Ext.of_no hS.ext).then hX fun k _ ⟨a, ha, hab⟩ => hab ▸ h.fp.2.2 a ha⟩
      · rw [List.length_set]
        exact hX.blk h4.hd fun ⟨a, ha, hab⟩ => h4.xq a ha hab
      · rw [hids]
        exact h4.ri.keep hX h4.ap
      · rw [List.length_set]
        exact hr7
    · have h0 : rmoveE s A id b ≠ 0 := by rw [hE]; simpa using hc
      have hA' : rmoveA s A id b = A := by unfold rmoveA; rw [if_neg h0]
      rw [hA'] at hJ
      exact hJ _ _ ⟨h.no hS.ext, Ext.of_no hS.ext⟩

/-! ### Drop -/
def remA (A : List (Int × Bx)) (i : Nat) : List (Int × Bx) := A.take i ++ A.drop (i + 1)
def rdropE (A : List (Int × Bx)) (id : Int) : Int := if isAt A id = true then 0 else 181
def rdropA (A : List (Int × Bx)) (id : Int) : List (Int × Bx) := if rdropE A id = 0 then remA A (pos A id) else A

set_option maxHeartbeats 2000000 in
theorem rDrop_k {w : World} {F : Nat → Prop} {x : Nat} {s : Int} {A : List (Int × Bx)} {p : Option Addr} {c : Nat} {q : Option Addr} {c' : Nat} (h : R1 w F x s A p c q c') (hm : A.length ≤ 100000) {id : Int} {K : Value → World → Prop}
    (hK : ∀ w' F' p' c1 q' c2, R1 w' F' x s (rdropA A id) p' c1 q' c2 → Ext F w w' → (∀ k, F' k → F k ∨ w.heap.size ≤ k) → K (.int .i64 (rdropE A id)) w') :
    cl Try.prog 57 #[.pointer (some ⟨x, 0, none⟩), .int .i64 id] w K := by
  apply F57_calls
  unfold F57
  refine lv_i (place_k h (by omega) fun w1 hx1 => ?_)
  refine asT_i rfl rfl (asI_i rfl (asB_i rfl (lv_i (cond_split (fun hc => ?_) (fun hc => ?_)))))
  · have hE : rdropE A id = 181 := by unfold rdropE; rw [if_neg (by simpa using hc)]
    have := hK w1 F p c q c' (by unfold rdropA; rw [hE, if_neg (by decide)]; exact h.no hx1) (Ext.of_no hx1) (fun k hk => .inl hk)
    rw [hE] at this
    exact lv_i this
  have hat : isAt A id = true := by simpa using hc
  have hE : rdropE A id = 0 := by unfold rdropE; rw [if_pos hat]
  obtain ⟨b0, hb0⟩ := isAt_get hat
  have hi := (List.getElem?_eq_some_iff.1 hb0).1
  have hA' : rdropA A id = remA A (pos A id) := by unfold rdropA; rw [if_pos hE]
  rw [hA', hE] at hK
  generalize pos A id = i at *
  have hlen : (remA A i).length = A.length - 1 := by
    unfold remA
    rw [List.length_append, List.length_take, List.length_drop]
    omega
  have ei : IntKind.wrap .i64 ((i : Int) + 1) = ((i + 1 : Nat) : Int) := by rw [wr64 (by omega) (by omega)]; omega
  rw [ei, Int.toNat_natCast, Int.toNat_natCast]
  refine dw_mk ?_
  have hx2 := hx1.trans (Ext.drew w1)
  generalize w1.drew = w2 at *
  have h2 := h.no hx2
  have hcc := row_le h2.ri
  rw [ids_length] at hcc
  have hsrc : ∀ {w5 : World}, Ext no w2 w5 → Reads w5 p (ids (A.take i)) := fun hx => by
    have := (h2.no hx).ri.reads
    rw [← ids_split A i] at this
    exact this.pre
  have hdr : ∀ {w5 : World}, Ext no w2 w5 → Reads w5 (slp p c (i + 1) 1) (ids (A.drop (i + 1))) := fun hx => by
    have := (h2.no hx).ri.reads.drop (c := c) (n := i + 1) (by rw [ids_length]; exact hcc)
    rwa [ids_drop] at this
  have lt : (ids (A.take i)).length = i := by rw [ids_length, List.length_take]; omega
  have ld : (ids (A.drop (i + 1))).length = A.length - (i + 1) := by rw [ids_length, List.length_drop]
  have hI : ids (A.take i) ++ ids (A.drop (i + 1)) = ids (remA A i) := by unfold remA ids iv; simp
  refine dr_i (ld_mk h2.ld1 (asS_i rfl (bn2_mk (by omega) (by omega) (dr_i (ld_mk h2.ld1 (asS_i rfl (bn2_mk (by omega) (by omega) ?_)))))))
  refine sI.app (n := 0) (m := i) (Row.nil w2 w2.heap.size _) rfl (Nat.le_refl _) (hsrc (Ext.refl _ _)) lt iv_one (le_maxLen (by omega)) (by omega) fun p1 c1 w3 hr3 hx3 _ _ => asS_i rfl ?_
  have hx23 : Ext no w2 w3 := hx3.mono fun k _ ⟨a, ha, _⟩ => by cases ha
  refine hd_i (h2.no hx23).ld1 (hd_i (h2.no hx23).ld1 ?_)
  refine sI.app (n := 0 + i) (m := A.length - (i + 1)) hr3 (by simp [lt]) hx23.size (hdr hx23) ld iv_one (le_maxLen (by omega)) (by omega) fun p2 c2 w4 hr4 hx4 _ _ => asS_i rfl ?_
  have hx24 : Ext no w2 w4 := hx23.then hx4 fun k hk ⟨a, ha, hab⟩ => by
    have := (hr3.at ha).1
    omega
  refine hd_i (h2.no hx24).ld1 (hd_i (h2.no hx24).ld1 ?_)
  have hn : 0 + i + (A.length - (i + 1)) = A.length - 1 := by omega
  rw [hn]
  rw [List.nil_append, hI] at hr4
  refine dw_mk ?_
  have hx5 := hx24.trans (Ext.drew w4)
  replace hr4 := hr4.ext (Ext.drew w4) fun _ _ h => h
  generalize w4.drew = w5 at *
  have h5 := h2.no hx5
  have z25 := hx5.size
  have hcq := h5.rb.le_max
  have hsrq : ∀ {w6 : World}, Ext no w5 w6 → Reads w6 q (bcs (A.take i)) := fun hx => by
    have := (h5.no hx).rb.reads
    rw [← bcs_split A i] at this
    exact this.pre
  have hdrq : ∀ {w6 : World}, Ext no w5 w6 → Reads w6 (slp q c' (i + 1) 3) (bcs (A.drop (i + 1))) := fun hx => by
    have := (h5.no hx).rb.reads.dropN (c := c') (n := i + 1) (s := 3) (by rw [bcs_length]; omega)
    rwa [bcs_drop A (by omega)] at this
  have ltq : (bcs (A.take i)).length = i * 3 := by rw [bcs_length, List.length_take]; congr 1; omega
  have ldq : (bcs (A.drop (i + 1))).length = (A.length - (i + 1)) * 3 := by rw [bcs_length, List.length_drop]
  have hq0 : q = none → i = 0 := fun hq => by
    have := (h5.rb.none hq).1
    omega
  have hq1 : slp q c' (i + 1) 3 = none → A.length - (i + 1) = 0 := fun hq => by
    have := (h5.rb.none (slp_none hq)).1
    omega
  have hIq : bcs (A.take i) ++ bcs (A.drop (i + 1)) = bcs (remA A i) := by unfold remA bcs; simp
  refine dr_i (ld_mk h5.ld2 (asS_i rfl (bn2_mk (by omega) (by omega) (dr_i (ld_mk h5.ld2 (asS_i rfl (bn2_mk (by omega) (by omega) ?_)))))))
  refine sB.app (RowN.nil w5 w5.heap.size _ _) (Nat.le_refl _) (hsrq (Ext.refl _ _)) ltq hq0 bcs_one (le_maxLen (by omega)) (by omega) fun q1 d1 w6 hr6 hx6 _ _ => asS_i rfl ?_
  have hx56 : Ext no w5 w6 := hx6.mono fun k _ ⟨a, ha, _⟩ => by cases ha
  refine hd_i (h5.no hx56).ld2 (hd_i (h5.no hx56).ld2 ?_)
  refine sB.app hr6 hx56.size (hdrq hx56) ldq hq1 bcs_one (le_maxLen (by omega)) (by omega) fun q2 d2 w7 hr7 hx7 _ _ => asS_i rfl ?_
  have hx57 : Ext no w5 w7 := hx56.then hx7 fun k hk ⟨a, ha, hab⟩ => by
    have := (hr6.at ha).1
    omega
  have h7 := h5.no hx57
  refine hd_i h7.ld2 (hd_i h7.ld2 ?_)
  rw [hn] at hr7 ⊢
  rw [List.nil_append, hIq] at hr7
  have hX7 : Ext no w w7 := (hx2.trans hx5).trans hx57
  have hxx := h.lt x h.fp.1
  have z2 := hx2.size
  have z57 := hx57.size
  refine stx h7.hd (k := 1) (by simp) rfl fun w8 hd8 hx8 hz8 => ?_
  refine stx hd8 (k := 2) (by simp) rfl fun w9 hd9 hx9 hz9 => lv_i ?_
  have b1 : ∀ a, p2 = some a → w2.heap.size ≤ a.block ∧ a.block < w5.heap.size := fun a ha => hr4.at ha
  have b2 : ∀ a, q2 = some a → w5.heap.size ≤ a.block ∧ a.block < w7.heap.size := fun a ha => hr7.at ha
  have hF : Ext F w w9 := ((Ext.of_no hX7).then hx8 fun k _ hk => by
    have : k = x := hk
    rw [this]; exact h.fp.1).then hx9 fun k _ hk => by
    have : k = x := hk
    rw [this]; exact h.fp.1
  refine hK w9 (fun k => k = x ∨ blocks p2 k ∨ blocks q2 k) p2 c2 q2 d2 ⟨?_, ?_, ?_, ?_, ?_, ?_, ?_, ?_⟩ hF ?_
  · rw [hlen]
    simpa using hd9
  · refine (((hr4.ext hx57 fun _ _ h => h).ext hx8 fun a ha e => ?_).ext hx9 fun a ha e => ?_).mono (Nat.zero_le _)
    · have e' : a.block = x := e
      have := (b1 a ha).1
      omega
    · have e' : a.block = x := e
      have := (b1 a ha).1
      omega
  · rw [hlen]
    refine ((hr7.ext hx8 fun a ha e => ?_).ext hx9 fun a ha e => ?_).mono (Nat.zero_le _)
    · have e' : a.block = x := e
      have := (b2 a ha).1
      omega
    · have e' : a.block = x := e
      have := (b2 a ha).1
      omega
  · intro a1 a2 h1 h2 e
    have := (b1 a1 h1).2
    have := (b2 a2 h2).1
    omega
  · intro a ha e
    have := (b1 a ha).1
    omega
  · intro a ha e
    have := (b2 a ha).1
    omega
  · exact ⟨.inl rfl, fun a ha => .inr (.inl ⟨a, ha, rfl⟩), fun a ha => .inr (.inr ⟨a, ha, rfl⟩)⟩
  · rintro k (rfl | ⟨a, ha, rfl⟩ | ⟨a, ha, rfl⟩)
    · omega
    · have := (b1 a ha).2
      omega
    · have := (b2 a ha).2
      omega
  · rintro k (rfl | ⟨a, ha, rfl⟩ | ⟨a, ha, rfl⟩)
    · exact .inl h.fp.1
    · have := (b1 a ha).1
      exact .inr (by omega)
    · have := (b2 a ha).1
      exact .inr (by omega)
end Go.Proofs.Ytamobmjfdiecbaa

/- WoS: the document's own world: place, Kill, Get. Conditions: those of each theorem, on its arguments. -/
namespace Go.Proofs.Ytamobmjfdiecbaa
open Go Go.Sx Go.Fp
attribute [local irreducible] jn lv ld st nw asI asB asP asS asY asM asF asA asT lp rn ru rq cl dw dr bnd bn2 nz nn hd hr so eqW
attribute [local irreducible] callOk

def plc (S : List Spot) (h : Int) : Int := match atI S h with
  | some i => (i : Int)
  | none => -1

theorem XW.addT {w : World} {x : Nat} {S : List Spot} (h : XW w x S) {i : Nat} {s : Spot} (hi : S[i]? = some s) : w.cell? (Addr.add (Addr.add ⟨x, 0, none⟩ 64) (i * 1)) = some (.bool s.there) := by
  rw [add_mk, add_mk, ← h.there hi]
  congr 2
  omega
theorem XW.addE {w : World} {x : Nat} {S : List Spot} (h : XW w x S) {i : Nat} {s : Spot} (hi : S[i]? = some s) {k : Nat} (hk : k < 8) : w.cell? (Addr.add (Addr.add (Addr.add ⟨x, 0, none⟩ 128) (i * 8)) k) = s.e.cells[k]? := by
  rw [add_mk, add_mk, add_mk, ← h.ent hi hk]
  congr 2
  omega

theorem place19_k {w : World} {x : Nat} {S : List Spot} {n : Nat} (hX : XW w x S) (hG : Good n S) {h : Int} {K : Value → World → Prop} (hK : K (.int .i64 (plc S h)) w) : cl Try.prog 80 #[.pointer (some ⟨x, 0, none⟩), .int .i64 h] w K := by
  have h64 := hX.len
  apply F80_calls
  unfold F80
  refine lv_i (lv_i ?_)
  refine lp_mk (fun i : Nat => [.int .i64 (i : Int)]) (fun m i w' => m = 64 - i ∧ i ≤ 64 ∧ w' = w ∧ ∀ j s, j < i → S[j]? = some s → ¬ (s.there = true ∧ s.e.h = h)) 64 0 rfl ⟨rfl, Nat.zero_le _, rfl, fun j s hj => absurd hj (by omega)⟩ ?_
  rintro _ i w ⟨rfl, hi, rfl, hno⟩ J hJ
  refine asI_i rfl (cond_split (fun hc => ?_) (fun hc => ?_))
  · have hil : i < 64 := by
      have := of_decide_eq_true hc
      omega
    have ei : IntKind.wrap .i64 ((i : Int) + 1) = ((i + 1 : Nat) : Int) := by rw [wr64 (by omega) (by omega)]; omega
    have hs : S[i]? = some S[i] := List.getElem?_eq_getElem (by omega)
    generalize S[i] = s at hs
    rw [ei, Int.toNat_natCast]
    refine jn_of (fun t w' => t = [.bool (s.there && (s.e.h == h))] ∧ w' = w) ?_ ?_
    · rintro _ w ⟨rfl, rfl⟩
      refine asB_i rfl (cond_split (fun hm => lv_i ?_) (fun hm => lv_i (hJ (64 - (i + 1)) (i + 1) w (by omega) ⟨rfl, by omega, rfl, fun j t hj ht => ?_⟩)))
      · simp only [Bool.and_eq_true, beq_iff_eq] at hm
        have hat := hG.at hs hm.1
        rw [hm.2] at hat
        have : plc S h = (i : Int) := by unfold plc; rw [hat]
        rw [this] at hK
        exact hK
      · by_cases hj' : j = i
        · subst hj'
          rw [hs] at ht
          cases ht
          rintro ⟨h1, h2⟩
          rw [h1, h2] at hm
          simp at hm
        · exact hno j t (by omega) ht
    · intro J2 hJ2
      refine dr_i (bnd_mk (by omega) (by omega) (ld_mk (hX.addT hs) (asB_i rfl (cond_split (fun ht => ?_) (fun ht => hJ2 _ _ ⟨?_, rfl⟩)))))
      · have h0 := hX.addE hs (k := 0) (by decide)
        rw [Sx.add_zero'] at h0
        refine dr_i (bnd_mk (by omega) (by omega) (ld_mk h0 (asI_i rfl (hJ2 _ _ ⟨?_, rfl⟩))))
        rw [ht]
        rfl
      · rw [ht]
        rfl
  · have hil : i = 64 := by
      have := of_decide_eq_false hc
      omega
    have hat : atI S h = none := none_atI fun s hs => hno _ s (by have := (List.getElem?_eq_some_iff.1 hs).1; omega) hs
    have : plc S h = -1 := by unfold plc; rw [hat]
    rw [this] at hK
    exact lv_i hK

/-- a cell of the document's world is written -/
theorem XW.st {w : World} {x : Nat} {S : List Spot} (h : XW w x S) {j : Nat} {v : Value} (h1 : Sx.one v = true) (hj : j < 640) (S' : List Spot) (hS : (xw S).set j v = xw S') (hl : S'.length = 64) {K : World → Prop} {A : Addr} (hA : A = ⟨x, j, none⟩)
    (hK : ∀ w', XW w' x S' → Ext (onl x) w w' → w'.heap.size = w.heap.size → K w') : Sx.st w A v K := by
  subst hA
  have hlen : (xw S).length = 640 := by
    unfold xw
    have := fl_lenN (f := fun s : Spot => s.e.cells) (s := 8) (fun _ => rfl) S
    rw [List.length_append, List.length_append, List.length_map, List.length_map, this, h.len]
  refine st_mk h.blk (by simp [hlen]; exact hj) h1 (hK _ ⟨?_, hl⟩ (Ext.set w ⟨x, j, none⟩ v) (by simp [World.setCell]))
  have := blk_set h.blk j v
  rw [this, ← hS]
  simp

theorem xw_there {S : List Spot} (hl : S.length = 64) {i : Nat} {s : Spot} (hi : S[i]? = some s) (t : Bool) : (xw S).set (64 + i) (.bool t) = xw (S.set i ⟨s.gen, t, s.e⟩) := by
  have hil := (List.getElem?_eq_some_iff.1 hi).1
  have e1 : (S.set i ⟨s.gen, t, s.e⟩).map (fun s => Value.int .i64 s.gen) = S.map fun s => Value.int .i64 s.gen := by
    apply List.ext_getElem?
    intro k
    simp only [List.getElem?_map]
    by_cases hk : i = k
    · subst hk; rw [List.getElem?_set_self hil, hi]; rfl
    · rw [List.getElem?_set_ne hk]
  have e2 : (S.set i ⟨s.gen, t, s.e⟩).map (fun s => Value.bool s.there) = (S.map fun s => Value.bool s.there).set i (.bool t) := by rw [List.map_set]
  have e3 : (S.set i ⟨s.gen, t, s.e⟩).flatMap (fun s => s.e.cells) = S.flatMap fun s => s.e.cells := by
    rw [List.flatMap_def, List.flatMap_def]
    congr 1
    apply List.ext_getElem?
    intro k
    simp only [List.getElem?_map]
    by_cases hk : i = k
    · subst hk; rw [List.getElem?_set_self hil, hi]; rfl
    · rw [List.getElem?_set_ne hk]
  unfold xw
  rw [e1, e2, e3, List.set_append_right _ _ (by simp [hl]), List.set_append_left _ _ (by simp [hl]; omega)]
  simp [hl]

theorem kill19_k {w : World} {x : Nat} {S : List Spot} {n : Nat} (hX : XW w x S) (hG : Good n S) {h : Int} {K : Value → World → Prop}
    (hnone : atI S h = none → K (.int .i64 190) w)
    (hok : ∀ w' i s, atI S h = some i → S[i]? = some s → XW w' x (S.set i ⟨s.gen, false, s.e⟩) → Ext (onl x) w w' → K (.int .i64 0) w') :
    cl Try.prog 63 #[.pointer (some ⟨x, 0, none⟩), .int .i64 h] w K := by
  apply F63_calls
  unfold F63
  refine lv_i (place19_k hX hG (asI_i rfl (lv_i ?_)))
  unfold plc
  cases hat : atI S h with
  | none => exact cond_t rfl (lv_i (hnone hat))
  | some i =>
    have hS : ∃ s, S[i]? = some s := by
      unfold atI at hat
      split at hat
      · cases hat
      · split at hat
        · rename_i s hs
          split at hat
          · cases hat
            exact ⟨s, hs⟩
          · cases hat
        · cases hat
    obtain ⟨s, hs⟩ := hS
    have hil := (List.getElem?_eq_some_iff.1 hs).1
    have h64 := hX.len
    refine cond_f (by first | (simp; done) | (simp; omega)) (dr_i (bnd_mk (by simp) (by first | (simp; done) | (simp; omega)) ?_))
    simp only [Int.toNat_natCast]
    refine hX.st (j := 64 + i) rfl (by omega) (S.set i ⟨s.gen, false, s.e⟩) (xw_there h64 hs false) (by rw [List.length_set]; exact h64) (by rw [add_mk, add_mk]; congr 1; omega) fun w' hX' hx _ => lv_i (hok w' i s hat hs hX' hx)
end Go.Proofs.Ytamobmjfdiecbaa

/- WoT: the document's own world: Get, Set, Spawn. Conditions: those of each theorem, on its arguments. -/
namespace Go.Proofs.Ytamobmjfdiecbaa
open Go Go.Sx Go.Fp
attribute [local irreducible] jn lv ld st nw asI asB asP asS asY asM asF asA asT lp rn ru rq cl dw dr bnd bn2 nz nn hd hr so eqW
attribute [local irreducible] callOk

theorem map_same {β : Type} {f : Spot → β} {S : List Spot} {i : Nat} {s t : Spot} (hi : S[i]? = some s) (h : f t = f s) : (S.set i t).map f = S.map f := by
  apply List.ext_getElem?
  intro k
  simp only [List.getElem?_map]
  by_cases hk : i = k
  · subst hk; rw [List.getElem?_set_self (List.getElem?_eq_some_iff.1 hi).1, hi]; simp [h]
  · rw [List.getElem?_set_ne hk]
theorem fl_same {S : List Spot} {i : Nat} {s t : Spot} (hi : S[i]? = some s) (h : t.e = s.e) : (S.set i t).flatMap (fun s => s.e.cells) = S.flatMap fun s => s.e.cells := by
  rw [List.flatMap_def, List.flatMap_def, map_same (f := fun s : Spot => s.e.cells) hi (by simp only [h])]
theorem xw_gen {S : List Spot} (_hl : S.length = 64) {i : Nat} {s : Spot} (hi : S[i]? = some s) (g : Int) : (xw S).set i (.int .i64 g) = xw (S.set i ⟨g, s.there, s.e⟩) := by
  have hil := (List.getElem?_eq_some_iff.1 hi).1
  unfold xw
  rw [map_same (f := fun s : Spot => Value.bool s.there) (t := ⟨g, s.there, s.e⟩) hi rfl, fl_same (t := ⟨g, s.there, s.e⟩) hi rfl, List.set_append_left _ _ (by simp; exact hil), List.map_set]
theorem xw_ent {S : List Spot} (hl : S.length = 64) {i : Nat} {s : Spot} (hi : S[i]? = some s) {k : Nat} (hk : k < 8) {v : Value} {e' : Ent} (he : s.e.cells.set k v = e'.cells) : (xw S).set (128 + (i * 8 + k)) v = xw (S.set i ⟨s.gen, s.there, e'⟩) := by
  unfold xw
  have h3 := fl_setN (f := fun s : Spot => s.e.cells) (n := 8) (fun _ => rfl) (y := ⟨s.gen, s.there, e'⟩) hi hk he
  rw [map_same (f := fun s : Spot => Value.int .i64 s.gen) (t := ⟨s.gen, s.there, e'⟩) hi rfl, map_same (f := fun s : Spot => Value.bool s.there) (t := ⟨s.gen, s.there, e'⟩) hi rfl, ← h3]
  rw [List.set_append_right _ _ (by simp [hl]; omega), List.set_append_right _ _ (by simp [hl]; omega), List.length_map, List.length_map, hl, show 128 + (i * 8 + k) - 64 - 64 = i * 8 + k from by omega]

theorem XW.st8 {w : World} {x : Nat} {S : List Spot} (h : XW w x S) {i : Nat} {s : Spot} (hi : S[i]? = some s) (e : Ent) {A : Addr} (hA : A = ⟨x, 128 + i * 8, none⟩) {K : World → Prop}
    (hK : ∀ w', XW w' x (S.set i ⟨s.gen, s.there, e⟩) → Ext (onl x) w w' → K w') :
    Sx.st w A (.int .i64 e.h) fun w1 => Sx.st w1 (Addr.add A 1) (.int .i64 e.x) fun w2 => Sx.st w2 (Addr.add A 2) (.int .i64 e.y) fun w3 => Sx.st w3 (Addr.add A 3) (.int .i64 e.r) fun w4 =>
      Sx.st w4 (Addr.add A 4) (.int .i64 e.vx) fun w5 => Sx.st w5 (Addr.add A 5) (.int .i64 e.vy) fun w6 => Sx.st w6 (Addr.add A 6) (.int .i64 e.o) fun w7 => Sx.st w7 (Addr.add A 7) (.int .i64 e.t) fun w8 => K w8 := by
  subst hA
  have hil := (List.getElem?_eq_some_iff.1 hi).1
  have h64 := h.len
  have ea : ∀ k, Addr.add ⟨x, 128 + i * 8, none⟩ k = ⟨x, 128 + (i * 8 + k), none⟩ := fun k => by rw [add_mk]; congr 1; omega
  have one : ∀ {w : World} {S : List Spot} {s : Spot} {k : Nat} {v : Value} {e' : Ent} {K : World → Prop}, XW w x S → S[i]? = some s → S.length = 64 → k < 8 → Sx.one v = true → s.e.cells.set k v = e'.cells → (∀ w', XW w' x (S.set i ⟨s.gen, s.there, e'⟩) → Ext (onl x) w w' → K w') → Sx.st w ⟨x, 128 + (i * 8 + k), none⟩ v K := by
    intro w S s k v e' K hX hi hl hk h1 he hK
    exact hX.st h1 (by have := (List.getElem?_eq_some_iff.1 hi).1; omega) _ (xw_ent hl hi hk he) (by rw [List.length_set]; exact hl) rfl fun w' h1 h2 _ => hK w' h1 h2
  simp only [ea]
  have g1 : ∀ q : Spot, (S.set i q)[i]? = some q := fun q => List.getElem?_set_self hil
  have l1 : ∀ q : Spot, (S.set i q).length = 64 := fun q => by rw [List.length_set]; exact h64
  refine one (k := 0) (e' := { s.e with h := e.h }) h hi h64 (by decide) rfl rfl fun w1 h1 x1 => ?_
  refine one (k := 1) (e' := { s.e with h := e.h, x := e.x }) h1 (g1 _) (l1 _) (by decide) rfl rfl fun w2 h2 x2 => ?_
  rw [List.set_set] at h2
  refine one (k := 2) (e' := { s.e with h := e.h, x := e.x, y := e.y }) h2 (g1 _) (l1 _) (by decide) rfl rfl fun w3 h3 x3 => ?_
  rw [List.set_set] at h3
  refine one (k := 3) (e' := { s.e with h := e.h, x := e.x, y := e.y, r := e.r }) h3 (g1 _) (l1 _) (by decide) rfl rfl fun w4 h4 x4 => ?_
  rw [List.set_set] at h4
  refine one (k := 4) (e' := { s.e with h := e.h, x := e.x, y := e.y, r := e.r, vx := e.vx }) h4 (g1 _) (l1 _) (by decide) rfl rfl fun w5 h5 x5 => ?_
  rw [List.set_set] at h5
  refine one (k := 5) (e' := { s.e with h := e.h, x := e.x, y := e.y, r := e.r, vx := e.vx, vy := e.vy }) h5 (g1 _) (l1 _) (by decide) rfl rfl fun w6 h6 x6 => ?_
  rw [List.set_set] at h6
  refine one (k := 6) (e' := { s.e with h := e.h, x := e.x, y := e.y, r := e.r, vx := e.vx, vy := e.vy, o := e.o }) h6 (g1 _) (l1 _) (by decide) rfl rfl fun w7 h7 x7 => ?_
  rw [List.set_set] at h7
  refine one (k := 7) (e' := e) h7 (g1 _) (l1 _) (by decide) rfl rfl fun w8 h8 x8 => ?_
  rw [List.set_set] at h8
  exact hK w8 h8 (((((((x1.trans x2).trans x3).trans x4).trans x5).trans x6).trans x7).trans x8)

theorem atI_some {S : List Spot} {h : Int} {i : Nat} (hat : atI S h = some i) : ∃ s, S[i]? = some s ∧ s.there = true ∧ s.e.h = h := by
  unfold atI at hat
  split at hat
  · cases hat
  · split at hat
    · rename_i s hs
      split at hat
      · rename_i hh
        cases hat
        exact ⟨s, hs, hh⟩
      · cases hat
    · cases hat

set_option maxHeartbeats 1000000 in
theorem get19_k {w : World} {x : Nat} {S : List Spot} {n : Nat} (hX : XW w x S) (hG : Good n S) {h : Int} {K : Value → World → Prop} (hK : ∀ w', Ext no w w' → K (.tuple #[(getE S h).v, .int .i64 (getC S h)]) w') :
    cl Try.prog 64 #[.pointer (some ⟨x, 0, none⟩), .int .i64 h] w K := by
  apply F64_calls
  unfold F64
  refine (St.start w).nw (cs := Ent.zero.cells) fun r1 w1 hS => lv_i ?_
  have hX1 := hX.ext hS.ext fun h => h
  refine place19_k hX1 hG (asI_i rfl (lv_i ?_))
  unfold plc
  have rd : ∀ {w' : World} {e : Ent}, St w w' [(r1, e.cells, 27)] → ∀ k, k < 8 → w'.cell? (Addr.add ⟨r1, 0, none⟩ k) = e.cells[k]? := fun hS k hk => by
    rw [add_mk, blk_cell (hS.kn _ List.mem_cons_self).1]
    simp
  cases hat : atI S h with
  | none =>
    have eE : getE S h = Ent.zero := by unfold getE; rw [hat]
    have eC : getC S h = 190 := by unfold getC; rw [hat]; rfl
    rw [eE, eC] at hK
    refine cond_t rfl ?_
    refine hS.st8 0 rfl rfl Ent.zero fun w2 hS2 => ?_
    replace hS2 : St w w2 [(r1, Ent.zero.cells, 27)] := hS2
    exact lv_i (ld8c (e := Ent.zero) (rd hS2) (hK w2 hS2.ext))
  | some i =>
    obtain ⟨s, hs, _, _⟩ := atI_some hat
    have hil := (List.getElem?_eq_some_iff.1 hs).1
    have h64 := hX.len
    have eE : getE S h = s.e := by unfold getE; rw [hat]; simp only; rw [hs]; try rfl
    have eC : getC S h = 0 := by unfold getC; rw [hat]; rfl
    rw [eE, eC] at hK
    refine cond_f (by simp) (dr_i (bnd_mk (by simp) (by simp; omega) ?_))
    simp only [Int.toNat_natCast]
    refine ld8c (e := s.e) (fun k hk => hX1.addE hs hk) ?_
    refine hS.st8 0 rfl rfl s.e fun w2 hS2 => ?_
    replace hS2 : St w w2 [(r1, s.e.cells, 27)] := hS2
    exact lv_i (ld8c (e := s.e) (rd hS2) (hK w2 hS2.ext))
end Go.Proofs.Ytamobmjfdiecbaa

/- WoU: the document's own world: Set and Spawn. Conditions: those of each theorem, on its arguments. -/
namespace Go.Proofs.Ytamobmjfdiecbaa
open Go Go.Sx Go.Fp
attribute [local irreducible] jn lv ld st nw asI asB asP asS asY asM asF asA asT lp rn ru rq cl dw dr bnd bn2 nz nn hd hr so eqW
attribute [local irreducible] callOk

theorem st_blk {w : World} {r : Nat} {cs : Array Value} {t : TypeId} (hb : w.heap[r]? = some (.cells cs t (0, 0))) {k : Nat} (hk : k < cs.size) {v : Value} (h1 : Sx.one v = true) {K : World → Prop}
    (hK : ∀ w', w'.heap[r]? = some (.cells (cs.setIfInBounds k v) t (0, 0)) → Ext (onl r) w w' → w'.heap.size = w.heap.size → K w') : Sx.st w ⟨r, k, none⟩ v K :=
  st_mk hb hk h1 (hK _ (blk_set hb _ _) (Ext.set w ⟨r, k, none⟩ v) (by simp [World.setCell]))

/-- the entity of a block -/
theorem rd8 {w : World} {r : Nat} {e : Ent} {t : TypeId} (hb : w.heap[r]? = some (.cells e.cells.toArray t (0, 0))) : ∀ k, k < 8 → w.cell? (Addr.add ⟨r, 0, none⟩ k) = e.cells[k]? := fun k _ => by
  rw [add_mk, blk_cell hb]
  simp

set_option maxHeartbeats 1000000 in
theorem set19_k {w : World} {x : Nat} {S : List Spot} {n : Nat} (hX : XW w x S) (hG : Good n S) {hh : Int} {e : Ent} {K : Value → World → Prop}
    (hbad : ∀ w', Ext no w w' → setE S hh e ≠ 0 → K (.int .i64 (setE S hh e)) w')
    (hok : ∀ w' i s, setE S hh e = 0 → atI S hh = some i → S[i]? = some s → XW w' x (S.set i ⟨s.gen, s.there, { e with h := hh }⟩) → Ext (onl x) w w' → K (.int .i64 0) w') :
    cl Try.prog 65 #[.pointer (some ⟨x, 0, none⟩), .int .i64 hh, e.v] w K := by
  apply F65_calls
  unfold F65
  refine (St.start w).nw (cs := e.cells) fun r1 w1 hS => lv_i ?_
  have hX1 := hX.ext hS.ext fun h => h
  refine place19_k hX1 hG (asI_i rfl (lv_i ?_))
  unfold plc
  cases hat : atI S hh with
  | none =>
    have hE : setE S hh e = 190 := by unfold setE; rw [hat]; rfl
    have := hbad w1 hS.ext (by rw [hE]; decide)
    rw [hE] at this
    exact cond_t rfl (lv_i this)
  | some i =>
    obtain ⟨s, hs, _, _⟩ := atI_some hat
    have hil := (List.getElem?_eq_some_iff.1 hs).1
    have h64 := hX.len
    have hE : setE S hh e = e.rightE := by unfold setE; rw [hat]; rfl
    rw [hE] at hbad hok
    refine cond_f (by simp) ?_
    refine ld8c (e := e) (rd8 (hS.kn _ List.mem_cons_self).1) ?_
    refine rright19_k (e := e) fun w2 hx2 => asI_i rfl (lv_i (cond_split (fun hc => ?_) (fun hc => ?_)))
    · exact lv_i (hbad w2 (hS.ext.trans hx2) (by simpa using hc))
    have h0 : e.rightE = 0 := by simpa using hc
    replace hS := hS.to hx2
    refine hS.st0 0 rfl rfl rfl fun w3 hS => ?_
    replace hS : St w w3 [(r1, Ent.cells { e with h := hh }, 27)] := hS
    refine hS.dw fun w4 hS _ => ?_
    have hX4 := hX.ext hS.ext fun h => h
    refine ld8c (e := { e with h := hh }) (rd8 (hS.kn _ List.mem_cons_self).1) ?_
    refine dr_i (bnd_mk (by simp) (by simp; omega) ?_)
    simp only [Int.toNat_natCast]
    refine hX4.st8 hs { e with h := hh } (by rw [add_mk, add_mk] <;> (congr 1; omega)) fun w5 hX5 hx5 => lv_i (hok w5 i s h0 hat hs hX5 ?_)
    exact (Ext.of_no hS.ext).trans hx5

set_option maxHeartbeats 2000000 in
theorem spawn19_k {w : World} {x : Nat} {S : List Spot} {n : Nat} (hX : XW w x S) (hG : Good n S) (hn : n ≤ 1000000) {e : Ent} {K : Value → World → Prop}
    (hbad : ∀ w', Ext no w w' → e.rightE ≠ 0 → K (.tuple #[.int .i64 0, .int .i64 e.rightE]) w')
    (hfull : ∀ w', Ext no w w' → e.rightE = 0 → (∀ (j : Nat) s, S[j]? = some s → free s = false) → K (.tuple #[.int .i64 0, .int .i64 2]) w')
    (hok : ∀ w' i s, e.rightE = 0 → IsFree S i s → XW w' x (S.set i (spn s i e)) → Ext (onl x) w w' → K (.tuple #[.int .i64 ((s.gen + 1) * 64 + (i : Int)), .int .i64 0]) w') :
    cl Try.prog 62 #[.pointer (some ⟨x, 0, none⟩), e.v] w K := by
  have h64 := hX.len
  apply F62_calls
  unfold F62
  refine (St.start w).nw (cs := e.cells) fun r1 w1 hS => lv_i (lv_i ?_)
  refine ld8c (e := e) (rd8 (hS.kn _ List.mem_cons_self).1) ?_
  refine rright19_k (e := e) fun w2 hx2 => asI_i rfl (lv_i (cond_split (fun hc => lv_i (lv_i ?_)) (fun hc => ?_)))
  · exact hbad w2 (hS.ext.trans hx2) (by simpa using hc)
  have h0 : e.rightE = 0 := by simpa using hc
  replace hS := hS.to hx2
  have hfr : ∀ (j : Nat) s, S[j]? = some s → free s = !s.there := fun j s hs => by
    obtain ⟨_, _, h2, _⟩ := hG j s hs
    unfold free
    have : (s.gen == 1099511627776) = false := by simp; omega
    rw [this]
    simp
  refine lv_i (lp_mk (fun i : Nat => [.int .i64 (i : Int)]) (fun m i w' => m = 64 - i ∧ i ≤ 64 ∧ w' = w2 ∧ ∀ j s, j < i → S[j]? = some s → free s = false) 64 0 rfl ⟨rfl, Nat.zero_le _, rfl, fun j s hj => absurd hj (by omega)⟩ ?_)
  rintro _ i w3 ⟨rfl, hi, rfl, hno⟩ J hJ
  have hX3 := hX.ext hS.ext fun h => h
  refine asI_i rfl (cond_split (fun hc => ?_) (fun hc => lv_i (lv_i (hfull w3 hS.ext h0 fun j s hs => hno j s (by
    have := of_decide_eq_false hc
    have := (List.getElem?_eq_some_iff.1 hs).1
    omega) hs))))
  have hil : i < 64 := by
    have := of_decide_eq_true hc
    omega
  have ei : IntKind.wrap .i64 ((i : Int) + 1) = ((i + 1 : Nat) : Int) := by rw [wr64 (by omega) (by omega)]; omega
  have hs : S[i]? = some S[i] := List.getElem?_eq_getElem (by omega)
  generalize S[i] = s at hs
  obtain ⟨_, hg0, hg1, _⟩ := hG i s hs
  have hfs := hfr i s hs
  rw [ei, Int.toNat_natCast]
  have hgen : ∀ {w' : World} {S' : List Spot} {s' : Spot}, XW w' x S' → S'[i]? = some s' → w'.cell? (Addr.add ⟨x, 0, none⟩ (i * 1)) = some (.int .i64 s'.gen) := fun hX hs => by
    rw [add_mk, ← hX.gen hs]
    congr 2
    omega
  refine jn_of (fun t w' => t = [.bool (free s)] ∧ w' = w3) ?_ ?_
  rotate_left
  · intro J2 hJ2
    refine dr_i (bnd_mk (by omega) (by omega) (ld_mk (hX3.addT hs) (asB_i rfl (cond_split (fun ht => ?_) (fun ht => hJ2 _ _ ⟨?_, rfl⟩)))))
    · refine dr_i (bnd_mk (by omega) (by omega) (ld_mk (hgen hX3 hs) (asI_i rfl (hJ2 _ _ ⟨?_, rfl⟩))))
      rw [hfs, ht, decide_eq_true (by omega)]
    · rw [hfs, ht]
  rintro _ w3 ⟨rfl, rfl⟩
  refine asB_i rfl (cond_split (fun hf => ?_) (fun hf => lv_i (hJ (64 - (i + 1)) (i + 1) w3 (by omega) ⟨rfl, by omega, rfl, fun j t hj ht => ?_⟩)))
  rotate_left
  · by_cases hj' : j = i
    · subst hj'
      rw [hs] at ht
      cases ht
      exact hf
    · exact hno j t (by omega) ht
  have hfree : IsFree S i s := ⟨hs, hf, fun j t hj ht => hno j t hj ht⟩
  have hrx : r1 ≠ x := by
    have h1 := (hS.kn _ List.mem_cons_self).2
    have h2 := blk_lt hX.blk
    simp only at h1
    omega
  refine dw_mk ?_
  replace hS := hS.to (Ext.drew w3)
  generalize w3.drew = w4 at *
  have hX4 := hX.ext hS.ext fun h => h
  refine dr_i (bnd_mk (by omega) (by omega) (ld_mk (hgen hX4 hs) (asI_i rfl (dr_i (bnd_mk (by omega) (by omega) ?_)))))
  rw [wr64 (n := s.gen + 1) (by omega) (by omega)]
  refine hX4.st (j := i) rfl (by omega) _ (xw_gen h64 hs (s.gen + 1)) (by rw [List.length_set]; exact h64) (by rw [add_mk]; congr 1; omega) fun w5 hX5 hx5 _ => ?_
  have hb5 := hx5.blk (hS.kn _ List.mem_cons_self).1 hrx
  simp only at hb5
  have g1 : ∀ q : Spot, (S.set i q)[i]? = some q := fun q => List.getElem?_set_self (by omega)
  refine dr_i (bnd_mk (by omega) (by omega) (ld_mk (hgen hX5 (g1 _)) (asI_i rfl ?_)))
  rw [wr64 (n := (s.gen + 1) * 64) (by omega) (by omega), wr64 (n := (s.gen + 1) * 64 + (i : Int)) (by omega) (by omega)]
  refine st_blk hb5 (k := 0) (by simp [Ent.cells]) rfl fun w6 hb6 hx6 _ => ?_
  have hX6 := hX5.ext hx6 fun h => hrx (show x = r1 from h).symm
  replace hb6 : w6.heap[r1]? = some (.cells (Ent.cells { e with h := (s.gen + 1) * 64 + (i : Int) }).toArray 27 (0, 0)) := hb6
  refine dr_i (bnd_mk (by omega) (by omega) ?_)
  refine hX6.st (j := 64 + i) rfl (by omega) _ (xw_there hX6.len (g1 _) true) (by rw [List.length_set]; exact hX6.len) (by rw [add_mk, add_mk]; congr 1; omega) fun w7 hX7 hx7 _ => ?_
  rw [List.set_set] at hX7
  have hb7 := hx7.blk hb6 hrx
  refine dw_mk ?_
  replace hX7 := hX7.ext (Ext.drew w7) fun h => h
  replace hb7 := (Ext.drew w7).blk hb7 fun h => h
  have hx7' := hx7.then (Ext.drew w7) fun k _ hk => hk.elim
  generalize w7.drew = w8 at *
  refine ld8c (e := { e with h := (s.gen + 1) * 64 + (i : Int) }) (rd8 hb7) ?_
  refine dr_i (bnd_mk (by omega) (by omega) ?_)
  refine hX7.st8 (g1 _) { e with h := (s.gen + 1) * 64 + (i : Int) } (by rw [add_mk, add_mk] <;> (congr 1; omega)) fun w9 hX9 hx9 => ?_
  rw [List.set_set] at hX9
  have hb9 := hx9.blk hb7 hrx
  have h09 := rd8 (e := { e with h := (s.gen + 1) * 64 + (i : Int) }) hb9 0 (by decide)
  rw [Sx.add_zero'] at h09
  refine ld_mk h09 (asI_i rfl (lv_i (lv_i (hok w9 i s h0 hfree hX9 ?_))))
  have e1 : Ext (onl x) w w5 := (Ext.of_no hS.ext).trans hx5
  have e2 : Ext (onl x) w w6 := e1.then hx6 fun k hk hkr => by
    have : k = r1 := hkr
    have h1 := (hS.kn _ List.mem_cons_self).2
    simp only at h1
    omega
  exact (e2.trans hx7').trans hx9
end Go.Proofs.Ytamobmjfdiecbaa

/- WoV: the document's own world: List and Near. Conditions: those of each theorem, on its arguments. -/
namespace Go.Proofs.Ytamobmjfdiecbaa
open Go Go.Sx Go.Fp
attribute [local irreducible] jn lv ld st nw asI asB asP asS asY asM asF asA asT lp rn ru rq cl dw dr bnd bn2 nz nn hd hr so eqW
attribute [local irreducible] callOk

set_option maxHeartbeats 1000000 in
theorem list19_k {w : World} {x : Nat} {S : List Spot} (hX : XW w x S) {K : Value → World → Prop}
    (hK : ∀ p c w', Ext no w w' → RowN w' w.heap.size 27 8 p c (listS S).length ((listS S).flatMap Ent.cells) → K (.slice p (listS S).length c) w') :
    cl Try.prog 40 #[.pointer (some ⟨x, 0, none⟩)] w K := by
  have h64 := hX.len
  apply F40_calls
  unfold F40
  refine lv_i ?_
  refine lp_mk (fun t : (Option Addr × Nat × Nat) × Nat => [.slice t.1.1 t.1.2.1 t.1.2.2, .int .i64 (t.2 : Int)])
    (fun m t w' => m = 64 - t.2 ∧ t.2 ≤ 64 ∧ Ext no w w' ∧ t.1.2.1 = (listS (S.take t.2)).length ∧ RowN w' w.heap.size 27 8 t.1.1 t.1.2.2 t.1.2.1 ((listS (S.take t.2)).flatMap Ent.cells)) 64 ((none, 0, 0), 0) rfl
    ⟨rfl, Nat.zero_le _, Ext.refl _ _, rfl, RowN.nil _ _ _ _⟩ ?_
  rintro _ ⟨⟨p, n, c⟩, i⟩ w1 ⟨rfl, hi, hx1, hn, hr1⟩ J hJ
  simp only at hi hn hr1 hJ ⊢
  refine asS_i rfl (asI_i rfl (cond_split (fun hc => ?_) (fun hc => ?_)))
  · have hil : i < 64 := by
      have := of_decide_eq_true hc
      omega
    have hs : S[i]? = some S[i] := List.getElem?_eq_getElem (by omega)
    generalize S[i] = s at hs
    have ei : IntKind.wrap .i64 ((i : Int) + 1) = ((i + 1 : Nat) : Int) := by rw [wr64 (by omega) (by omega)]; omega
    have hX1 := hX.ext hx1 fun h => h
    rw [ei, Int.toNat_natCast]
    refine jn_of (fun t w' => ∃ p' c', t = [.slice p' (listS (S.take (i + 1))).length c'] ∧ Ext no w w' ∧ RowN w' w.heap.size 27 8 p' c' (listS (S.take (i + 1))).length ((listS (S.take (i + 1))).flatMap Ent.cells)) ?_ ?_
    · rintro _ w2 ⟨p', c', rfl, hx2, hr2⟩
      exact asS_i rfl (lv_i (hJ (64 - (i + 1)) ((p', _, c'), i + 1) w2 (by omega) ⟨rfl, by simp only; omega, hx2, rfl, hr2⟩))
    · intro J2 hJ2
      refine dr_i (bnd_mk (by omega) (by omega) (ld_mk (hX1.addT hs) (asB_i rfl (cond_split (fun ht => ?_) (fun ht => hJ2 _ _ ⟨p, c, ?_, hx1, ?_⟩)))))
      · refine dr_i (bnd_mk (by omega) (by omega) (ld8c (e := s.e) (fun k hk => hX1.addE hs hk) ?_))
        have hlen := listS_len (S.take i)
        rw [List.length_take] at hlen
        refine sE.app1 (vs := s.e.cells) hr1 hx1.size rfl s.e.one (le_maxLen (by omega)) (by omega) ?_
        intro p' c' w12 hr12 hE12 hM12
        have hx12 : Ext no w w12 := hx1.then hE12 fun k hk ⟨a, ha, hab⟩ => by
          have := (hr1.at ha).1
          omega
        have el : listS (S.take (i + 1)) = listS (S.take i) ++ [s.e] := by rw [listS_take S i hs, if_pos ht]
        have el2 : n + 1 = (listS (S.take (i + 1))).length := by rw [el, List.length_append, ← hn]; rfl
        refine asS_i rfl (hJ2 _ _ ⟨p', c', by rw [el2], hx12, ?_⟩)
        rw [← el2, el, List.flatMap_append]
        simpa using hr12
      · have el : listS (S.take (i + 1)) = listS (S.take i) := by rw [listS_take S i hs, if_neg (by rw [ht]; decide)]; simp
        rw [el, ← hn]
      · have el : listS (S.take (i + 1)) = listS (S.take i) := by rw [listS_take S i hs, if_neg (by rw [ht]; decide)]; simp
        rw [el, ← hn]
        exact hr1
  · have hi64 : i = 64 := by
      have := of_decide_eq_false hc
      omega
    subst hi64
    have et : S.take 64 = S := List.take_of_length_le (by omega)
    rw [et] at hn hr1
    subst hn
    exact hK p c w1 hx1 hr1

set_option maxHeartbeats 2000000 in
theorem near19_k {w : World} {x : Nat} {S : List Spot} (hX : XW w x S) {b : Bx} {K : Value → World → Prop}
    (hK : ∀ p c w', Ext no w w' → Row w' w.heap.size 3 p c (iv .i64 (outW S b)) → K (.tuple #[.slice p (outW S b).length c, .int .i64 b.rightE]) w') :
    cl Try.prog 66 #[.pointer (some ⟨x, 0, none⟩), b.v] w K := by
  have h64 := hX.len
  apply F66_calls
  unfold F66
  have hS := St.start w
  (refine St.nw hS ?_; clear hS; intro r1 _ hS)
  refine lv_i (hS.ld0 0 rfl rfl (asI_i rfl (hS.ld 0 rfl rfl (asI_i rfl (hS.ld 0 rfl rfl (asI_i rfl ?_))))))
  refine rright_k (b := b) fun w1 hx1 => asB_i rfl (cond_split (fun hc => lv_i ?_) (fun hc => ?_))
  · have hnr : ¬ b.right = true := by simpa using hc
    have h60 : b.rightE = 60 := by unfold Bx.rightE; rw [if_neg hnr]
    have e1 : outW S b = [] := by unfold outW; rw [if_neg hnr]
    have := hK none 0 w1 (hS.ext.trans hx1) (by rw [e1]; exact Row.nil _ _ _)
    rw [e1, h60] at this
    exact this
  have hr : b.right = true := by simpa using hc
  have hrE : b.rightE = 0 := by unfold Bx.rightE; rw [if_pos hr]
  have eO := outW_eq h64 hr
  rw [hrE, eO] at hK
  replace hS := hS.to hx1
  refine list19_k (hX.ext hS.ext fun h => h) fun q c' w2 hx2 hrl => asS_i rfl (lv_i ?_)
  have hlen := listS_len S
  generalize listS S = L at *
  replace hS := hS.to hx2
  have add2 : ∀ (A : Addr) (n : Nat), Addr.add (Addr.add A 1) n = Addr.add A (1 + n) := fun A n => by simp [Addr.add, Nat.add_assoc]
  refine lp_mk (fun t : (Option Addr × Nat × Nat) × Nat => [.slice t.1.1 t.1.2.1 t.1.2.2, .int .i64 (t.2 : Int)])
    (fun m t w' => m = L.length - t.2 ∧ t.2 ≤ L.length ∧ Ext no w2 w' ∧ t.1.2.1 = (((L.take t.2).filter (qM b)).map (·.h)).length ∧ Row w' w2.heap.size 3 t.1.1 t.1.2.2 (iv .i64 (((L.take t.2).filter (qM b)).map (·.h)))) L.length ((none, 0, 0), 0) rfl
    ⟨rfl, Nat.zero_le _, Ext.refl _ _, rfl, Row.nil _ _ _⟩ ?_
  rintro _ ⟨⟨p5, n5, c5⟩, i⟩ w5 ⟨rfl, hi, hx5, hn5, hr5⟩ J hJ
  simp only at hi hn5 hr5 hJ ⊢
  have hS5 := hS.to hx5
  refine asS_i rfl (asI_i rfl (cond_split (fun hc => ?_) (fun hc => ?_)))
  · have hil : i < L.length := by
      have := of_decide_eq_true hc
      omega
    have ei : IntKind.wrap .i64 ((i : Int) + 1) = ((i + 1 : Nat) : Int) := by rw [wr64 (by omega) (by omega)]; omega
    have hLi : L[i]? = some L[i] := List.getElem?_eq_getElem hil
    have htk : L.take (i + 1) = L.take i ++ [L[i]] := by rw [List.take_add_one, List.getElem?_eq_getElem hil]; rfl
    generalize L[i] = e at *
    have hfl : (((L.take i).filter (qM b)).map (·.h)).length ≤ 64 := by
      rw [List.length_map]
      have h1 := List.length_filter_le (qM b) (L.take i)
      rw [List.length_take] at h1
      omega
    rw [ei]
    refine jn_of (fun t w' => ∃ p' n' c', t = [.slice p' n' c'] ∧ Ext no w2 w' ∧ n' = (((L.take (i + 1)).filter (qM b)).map (·.h)).length ∧ Row w' w2.heap.size 3 p' c' (iv .i64 (((L.take (i + 1)).filter (qM b)).map (·.h)))) ?_ ?_
    · rintro _ w6 ⟨p', n', c6, rfl, hx6, hn6, hr6⟩
      exact asS_i rfl (lv_i (hJ (L.length - (i + 1)) ((p', n', c6), i + 1) w6 (by omega) ⟨rfl, by simp only; omega, hx6, hn6, hr6⟩))
    · intro J2 hJ2
      refine hS5.dw fun w6 hS6 hx6 => ?_
      have hx26 := hx5.trans hx6
      refine Reads.atN (f := Ent.cells) Ent.cells_length (hrl.reads.ext hx26 fun _ _ h => h) rfl hLi (by decide) fun a1 ha1 hca => ?_
      rw [Int.toNat_natCast]
      refine ld_mk (hca 1 (by decide)) (asI_i rfl (ld_mk (by rw [add2]; exact hca 2 (by decide)) (asI_i rfl (ld_mk (by rw [add2]; exact hca 3 (by decide)) (asI_i rfl ?_)))))
      refine hS6.ld0 0 rfl rfl (asI_i rfl (hS6.ld 0 rfl rfl (asI_i rfl (hS6.ld 0 rfl rfl (asI_i rfl ?_)))))
      refine rmeet_k (a := e.box) (b := b) fun w7 hx7 => asT_i rfl rfl (asB_i rfl (asI_i rfl (lv_i ?_)))
      have hx27 := hx26.trans hx7
      have hr7 := (hr5.ext hx6 fun _ _ h => h).ext hx7 fun _ _ h => h
      refine cond_split (fun hm => ?_) (fun hm => ?_)
      · have hq : qM b e = true := hm
        refine Reads.atN (f := Ent.cells) Ent.cells_length (hrl.reads.ext hx27 fun _ _ h => h) rfl hLi (by decide) fun a2 _ hca2 => ?_
        have h0 := hca2 0 (by decide)
        rw [Sx.add_zero'] at h0
        refine ld_mk h0 (asI_i rfl ?_)
        refine sI.app1 hr7 (by rw [iv_length, hn5]) hx27.size rfl (le_maxLen (by omega)) (by omega) fun p' c6 w8 hr8 hx8 _ => asS_i rfl (hJ2 _ _ ⟨p', n5 + 1, c6, rfl, ?_, ?_, ?_⟩)
        · exact hx27.then hx8 fun k hk ⟨a, ha, hab⟩ => by
            have := (hr7.at ha).1
            omega
        · rw [htk, List.filter_append, List.map_append, List.length_append, ← hn5, List.filter_cons, if_pos hq]
          rfl
        · rw [htk, List.filter_append, List.map_append, List.filter_cons, if_pos hq]
          have e1 : iv .i64 (((L.take i).filter (qM b)).map (·.h) ++ (e :: List.filter (qM b) []).map (·.h)) = iv .i64 (((L.take i).filter (qM b)).map (·.h)) ++ [.int .i64 e.h] := by simp [iv]
          rw [e1]
          exact hr8
      · have hq : ¬ qM b e = true := by rw [show qM b e = false from hm]; decide
        refine hJ2 _ _ ⟨p5, n5, c5, rfl, hx27, ?_, ?_⟩
        · rw [htk, List.filter_append, List.filter_cons, if_neg hq]
          simpa using hn5
        · rw [htk, List.filter_append, List.filter_cons, if_neg hq]
          simpa using hr7
  · have hil : i = L.length := by
      have := of_decide_eq_false hc
      omega
    subst hil
    rw [List.take_length] at hr5 hn5
    subst hn5
    exact lv_i (hK p5 c5 w5 hS5.ext (hr5.mono hS.ext.size))
end Go.Proofs.Ytamobmjfdiecbaa

/- WoW: who is there, on: kills and moves keep the grid and the places together. Conditions: those of each theorem, on its arguments. -/
namespace Go.Proofs.Ytamobmjfdiecbaa
open Go Go.Sx Go.Fp

theorem Lies.kill {S : List Spot} {B : List (Int × Bx)} {D : List ((Int × Int) × List Int)} (h : Lies S B D) (hB : (B.map (·.1)).Nodup) (hD : (D.map (·.1)).Nodup) {i : Nat} {s : Spot} (hs : S[i]? = some s) : Lies (S.set i ⟨s.gen, false, s.e⟩) (gdropB B (i : Int)) (gdropD wside B D (i : Int)) := by
  have hil := (List.getElem?_eq_some_iff.1 hs).1
  refine ⟨h.cons.drop hB hD _, fun j t ht hth => ?_, fun x b hx => ?_⟩
  · rw [get_drop hB]
    by_cases hj : j = i
    · subst hj
      rw [List.getElem?_set_self hil] at ht
      cases ht
      cases hth
    · rw [List.getElem?_set_ne (fun e => hj e.symm)] at ht
      rw [if_neg (by omega)]
      exact h.to j t ht hth
  · rw [get_drop hB] at hx
    split at hx
    · cases hx
    · rename_i hne
      obtain ⟨j, t, h1, h2, h3, h4⟩ := h.of x b hx
      have hj : ¬ i = j := fun e => hne (by omega)
      exact ⟨j, t, h1, by rw [List.getElem?_set_ne hj]; exact h2, h3, h4⟩

theorem Lies.move {S : List Spot} {B : List (Int × Bx)} {D : List ((Int × Int) × List Int)} (h : Lies S B D) (hB : (B.map (·.1)).Nodup) (hD : (D.map (·.1)).Nodup) {i : Nat} {s : Spot} (hs : S[i]? = some s) (hth : s.there = true) {e : Ent} (he : e.rightE = 0) (hh : Int) :
    Lies (S.set i ⟨s.gen, s.there, { e with h := hh }⟩) (gmoveB wside B (i : Int) e.box) (gmoveD wside B D (i : Int) e.box) := by
  have hil := (List.getElem?_eq_some_iff.1 hs).1
  have hE : gmoveE wside B (i : Int) e.box = 0 := by
    unfold gmoveE
    rw [h.to i s hs hth]
    exact box_cells he
  refine ⟨h.cons.move hB hD _ _, fun j t ht htt => ?_, fun x b hx => ?_⟩
  · rw [get_move hB]
    by_cases hj : j = i
    · subst hj
      rw [List.getElem?_set_self hil] at ht
      cases ht
      rw [if_pos ⟨hE, rfl⟩]
      rfl
    · rw [List.getElem?_set_ne (fun e => hj e.symm)] at ht
      rw [if_neg (fun hh => hj (by have := hh.2; omega))]
      exact h.to j t ht htt
  · rw [get_move hB] at hx
    split at hx
    · rename_i hc
      cases hx
      exact ⟨i, _, hc.2, List.getElem?_set_self hil, hth, rfl⟩
    · rename_i hne
      obtain ⟨j, t, h1, h2, h3, h4⟩ := h.of x b hx
      have hj : ¬ i = j := fun e => hne ⟨hE, by omega⟩
      exact ⟨j, t, h1, by rw [List.getElem?_set_ne hj]; exact h2, h3, h4⟩

theorem Good.kill {n : Nat} {S : List Spot} (h : Good n S) {i : Nat} {s : Spot} (hs : S[i]? = some s) : Good n (S.set i ⟨s.gen, false, s.e⟩) := fun j t ht => by
  rcases set_cases (t := ⟨s.gen, false, s.e⟩) hs j with ⟨rfl, e⟩ | ⟨_, e⟩
  · rw [e] at ht
    cases ht
    obtain ⟨h0, h1, h2, _⟩ := h j s hs
    exact ⟨h0, h1, h2, fun h => by cases h⟩
  · rw [e] at ht
    exact h j t ht
theorem Good.setE {n : Nat} {S : List Spot} (h : Good n S) {i : Nat} {s : Spot} (hs : S[i]? = some s) (hth : s.there = true) {e : Ent} (he : e.rightE = 0) (hI : e.I) {hh : Int} (hx : s.e.h = hh) : Good n (S.set i ⟨s.gen, s.there, { e with h := hh }⟩) := fun j t ht => by
  rcases set_cases (t := ⟨s.gen, s.there, { e with h := hh }⟩) hs j with ⟨rfl, e1⟩ | ⟨_, e1⟩
  · rw [e1] at ht
    cases ht
    obtain ⟨h0, h1, h2, h3⟩ := h j s hs
    obtain ⟨_, h5, h6, h7⟩ := h3 hth
    refine ⟨h0, h1, h2, fun _ => ⟨he, ?_, h6, ?_⟩⟩
    · show hh = _
      rw [← hx]
      exact h5
    · refine ⟨?_, hI.2⟩
      rw [← hx]
      exact h7.1
  · rw [e1] at ht
    exact h j t ht
end Go.Proofs.Ytamobmjfdiecbaa

/- WoX: a world's clone. Conditions: those of each theorem, on its arguments. -/
namespace Go.Proofs.Ytamobmjfdiecbaa
open Go Go.Sx Go.Fp
attribute [local irreducible] jn lv ld st nw asI asB asP asS asY asM asF asA asT lp rn ru rq cl dw dr bnd bn2 nz nn hd hr so eqW
attribute [local irreducible] callOk

theorem stC {r : Nat} {t : TypeId} {A : Addr} : ∀ {vs old pre : List Value} {i : Nat} {w : World} {K : World → Prop}, (∀ k, Addr.add A (i + k) = ⟨r, pre.length + k, none⟩) → w.heap[r]? = some (.cells (pre ++ old).toArray t (0, 0)) → vs.length = old.length → (∀ u ∈ vs, Sx.one u = true) →
    (∀ w', w'.heap[r]? = some (.cells (pre ++ vs).toArray t (0, 0)) → Ext (onl r) w w' → w'.heap.size = w.heap.size → K w') → stCells A vs i w K
  | [], old, pre, i, w, K, _, hb, hl, _, hK => by
    have : old = [] := List.eq_nil_of_length_eq_zero hl.symm
    subst this
    exact hK w hb (Ext.refl _ _) rfl
  | v :: vs, [], pre, i, w, K, _, _, hl, _, _ => by simp at hl
  | v :: vs, o :: old, pre, i, w, K, hA, hb, hl, h1, hK => by
    have h0 := hA 0
    simp only [Nat.add_zero] at h0
    unfold stCells
    rw [h0]
    refine st_blk hb (k := pre.length) (by simp) (h1 v List.mem_cons_self) fun w1 hb1 hx1 hz1 => ?_
    have e : (pre ++ o :: old).toArray.setIfInBounds pre.length v = ((pre ++ [v]) ++ old).toArray := by simp
    rw [e] at hb1
    refine stC (pre := pre ++ [v]) (fun k => ?_) hb1 (by simpa using hl) (fun u hu => h1 u (List.mem_cons_of_mem _ hu)) fun w2 hb2 hx2 hz2 => hK w2 ?_ (hx1.trans hx2) (by omega)
    · rw [Nat.add_assoc, hA (1 + k)]
      congr 1
      simp
      omega
    · rw [hb2]
      simp

/-- the boxes of those below a place -/
structure LiesU (S : List Spot) (n : Nat) (B : List (Int × Bx)) (D : List ((Int × Int) × List Int)) : Prop where
  cons : Cons wside B D
  to : ∀ (j : Nat) s, j < n → S[j]? = some s → s.there = true → aget B (j : Int) = some s.e.box
  of : ∀ x b, aget B x = some b → ∃ (j : Nat) (s : Spot), x = (j : Int) ∧ j < n ∧ S[j]? = some s ∧ s.there = true ∧ s.e.box = b
  nd : (B.map (·.1)).Nodup

theorem LiesU.zero (S : List Spot) : LiesU S 0 [] [] := ⟨Cons.nil _, fun j s h => absurd h (by omega), fun x b h => by simp [aget, afind] at h, by simp⟩
theorem LiesU.skip {S : List Spot} {i : Nat} {B : List (Int × Bx)} {D : List ((Int × Int) × List Int)} (h : LiesU S i B D) {s : Spot} (hs : S[i]? = some s) (ht : s.there = false) : LiesU S (i + 1) B D := by
  refine ⟨h.cons, fun j t hj hjt htt => ?_, fun x b hx => ?_, h.nd⟩
  · by_cases hji : j = i
    · subst hji
      rw [hs] at hjt
      cases hjt
      rw [ht] at htt
      cases htt
    · exact h.to j t (by omega) hjt htt
  · obtain ⟨j, t, h1, h2, h3⟩ := h.of x b hx
    exact ⟨j, t, h1, by omega, h3⟩
theorem LiesU.put {S : List Spot} {i : Nat} {B : List (Int × Bx)} {D : List ((Int × Int) × List Int)} (h : LiesU S i B D) {s : Spot} (hs : S[i]? = some s) (ht : s.there = true) (he : s.e.rightE = 0) : LiesU S (i + 1) (gputB wside B (i : Int) s.e.box) (gputD wside B D (i : Int) s.e.box) := by
  have hE : gputE wside B (i : Int) s.e.box = 0 := by
    unfold gputE
    rw [if_neg (by omega), if_neg, box_cells he]
    intro hsome
    obtain ⟨b, hb⟩ := Option.isSome_iff_exists.1 hsome
    obtain ⟨j, t, h1, h2, _⟩ := h.of _ b hb
    omega
  refine ⟨h.cons.put _ _, fun j t hj hjt htt => ?_, fun x b hx => ?_, nd_put h.nd⟩
  · rw [get_put]
    by_cases hji : j = i
    · subst hji
      rw [hs] at hjt
      cases hjt
      rw [if_pos ⟨hE, rfl⟩]
    · rw [if_neg (fun hh => hji (by have := hh.2; omega))]
      exact h.to j t (by omega) hjt htt
  · rw [get_put] at hx
    split at hx
    · rename_i hh
      cases hx
      exact ⟨i, s, hh.2, by omega, hs, ht, rfl⟩
    · obtain ⟨j, t, h1, h2, h3⟩ := h.of x b hx
      exact ⟨j, t, h1, by omega, h3⟩
theorem LiesU.all {S : List Spot} (hl : S.length = 64) {B : List (Int × Bx)} {D : List ((Int × Int) × List Int)} (h : LiesU S 64 B D) : Lies S B D := by
  refine ⟨h.cons, fun j s hs ht => h.to j s (by have := (List.getElem?_eq_some_iff.1 hs).1; omega) hs ht, fun x b hx => ?_⟩
  obtain ⟨j, t, h1, _, h3⟩ := h.of x b hx
  exact ⟨j, t, h1, h3⟩
end Go.Proofs.Ytamobmjfdiecbaa

/- WoY: a world's clone: the walk. Conditions: those of each theorem, on its arguments. -/
namespace Go.Proofs.Ytamobmjfdiecbaa
open Go Go.Sx Go.Fp
attribute [local irreducible] jn lv ld st nw asI asB asP asS asY asM asF asA asT lp rn ru rq cl dw dr bnd bn2 nz nn hd hr so eqW
attribute [local irreducible] callOk

theorem flat_one {S : List Spot} : ∀ u ∈ S.flatMap Spot.cells, Sx.one u = true := by
  intro u hu
  obtain ⟨s, _, hu⟩ := List.mem_flatMap.1 hu
  simp only [Spot.cells, Ent.cells, List.cons_append, List.nil_append, List.mem_cons, List.not_mem_nil, or_false] at hu
  rcases hu with rfl | rfl | rfl | rfl | rfl | rfl | rfl | rfl | rfl | rfl <;> rfl

theorem hold_ws {w : World} {r g : Nat} {S : List Spot} (hw : WS w r g S) : Hold Try.prog w (factsOf (Addr.add ⟨r, 0, none⟩ 1) 0 (S.flatMap Spot.cells)) := by
  refine hold_of _ 0 fun j v hj => ?_
  rw [Nat.zero_add, add_mk, add_mk, blk_cell hw.blk]
  unfold wc
  rw [List.getElem?_toArray, Nat.zero_add, Nat.add_comm 1, List.getElem?_cons_succ]
  exact hj

/-- a box into a world's grid, past the world's own call -/
theorem Wd.put {w : World} {F : Nat → Prop} {r g : Nat} {S : List Spot} {B : List (Int × Bx)} {D : List ((Int × Int) × List Int)} {N : Nat} (h : Wd w F r g S B D N) (hN : N ≤ 549755813888) {id : Int} {b : Bx} {K : Value → World → Prop}
    (hK : ∀ w' F', Wd w' F' r g S (gputB wside B id b) (gputD wside B D id b) (N + 1024) → Ext F w w' → (∀ k, F' k → F k ∨ w.heap.size ≤ k) → K (.int .i64 (gputE wside B id b)) w') :
    cl Try.prog 30 #[.pointer (some ⟨g, 0, none⟩), .int .i64 id, b.v] w K := by
  obtain ⟨mb, mc, C, bb, kb, bc, kc, hg, rfl⟩ := h.gr
  have hbd := h.bd
  refine gPut_k hg (fun x => by have := hbd x; omega) fun w' F' C' bb' kb' bc' kc' hg' hp hx hF _ => hK w' F' ?_ hx hF
  refine ⟨h.ws.ext hx h.nr, ⟨mb, mc, C', bb', kb', bc', kc', hg', hp⟩, fun hk => ?_, fun x => Nat.le_trans (gputD_len x) (by have := hbd x; omega), h.gen⟩
  rcases hF r hk with hk | hk
  · exact h.nr hk
  · have := h.r_lt
    omega

set_option maxHeartbeats 4000000 in
theorem clone_k {w : World} {F : Nat → Prop} {r g : Nat} {S : List Spot} {B : List (Int × Bx)} {D : List ((Int × Int) × List Int)} {N n : Nat} (h : Wd w F r g S B D N) (hG : Good n S) {K : Value → World → Prop}
    (hK : ∀ w' F' r' g' B' D', Wd w' F' r' g' S B' D' (1024 * 64) → Lies S B' D' → (B'.map (·.1)).Nodup → Ext no w w' → (∀ k, F' k → w.heap.size ≤ k) → w.heap.size ≤ r' → K (.pointer (some ⟨r', 0, none⟩)) w') :
    cl Try.prog 67 #[.pointer (some ⟨r, 0, none⟩)] w K := by
  have h64 := h.ws.len
  have hl := fl_lenN (f := Spot.cells) Spot.cells_length S
  have hgen := h.gen
  apply F67_calls
  unfold F67
  refine wnew_k fun w1 F1 r1 g1 hw1 hx1 hF1 hr1 => asP_i rfl ?_
  have hs1 := (h.ext hx1 fun _ _ h => h).ws
  refine dr_i ⟨S.flatMap Spot.cells, by rw [hl, h64], hold_ws hs1, ?_⟩
  refine dr_i (cond_t (by rw [hl, h64]; rfl) ?_)
  have hb1 := hw1.ws.blk
  unfold wc at hb1
  have hz : (List.replicate 64 Spot.zero).flatMap Spot.cells = (List.replicate 64 Spot.zero).flatMap Spot.cells := rfl
  have hlz := fl_lenN (f := Spot.cells) Spot.cells_length (List.replicate 64 Spot.zero)
  refine stC (pre := [.pointer (some ⟨g1, 0, none⟩)]) (old := (List.replicate 64 Spot.zero).flatMap Spot.cells) (fun k => ?_) hb1 (by rw [hl, hlz, h64]; simp) flat_one fun w2 hb2 hx2 hz2 => ?_
  · rw [add_mk, add_mk]
    congr 1
    simp
  have hF1r : ∀ k, F1 k → k ≠ r1 := fun k hk e => hw1.nr (e ▸ hk)
  have hW2 : Wd w2 F1 r1 g1 S [] [] 0 := by
    obtain ⟨mb, mc, C, bb, kb, bc, kc, hg, hp⟩ := hw1.gr
    exact ⟨⟨hb2, h64⟩, ⟨mb, mc, C, bb, kb, bc, kc, hg.ext hx2 fun k hk e => hF1r k hk e, hp⟩, hw1.nr, hw1.bd, hgen⟩
  have hx02 : Ext no w w2 := hx1.then hx2 fun k hk e => by
    have : k = r1 := e
    omega
  refine dr_i ⟨S.flatMap Spot.cells, by rw [hl, h64], hold_ws hW2.ws, ?_⟩
  refine lp_mk (fun i : Nat => [.int .i64 (i : Int)]) (fun m i w' => m = 64 - i ∧ i ≤ 64 ∧ Ext no w w' ∧ ∃ F' B' D', Wd w' F' r1 g1 S B' D' (1024 * i) ∧ LiesU S i B' D' ∧ ∀ k, F' k → w.heap.size ≤ k) 64 0 rfl
    ⟨rfl, Nat.zero_le _, hx02, F1, [], [], hW2, LiesU.zero S, hF1⟩ ?_
  rintro _ i w3 ⟨rfl, hi, hx3, F', B', D', hW, hU, hF⟩ J hJ
  refine asI_i rfl (cond_split (fun hc => ?_) (fun hc => ?_))
  · have hil : i < 64 := by
      have := of_decide_eq_true hc
      omega
    have ei : IntKind.wrap .i64 ((i : Int) + 1) = ((i + 1 : Nat) : Int) := by rw [wr64 (by omega) (by omega)]; omega
    have hs : S[i]? = some S[i] := List.getElem?_eq_getElem (by omega)
    generalize S[i] = s at hs
    rw [ei, Int.toNat_natCast, extract_spot hs]
    refine jn_of (fun _ w' => Ext no w w' ∧ ∃ F' B' D', Wd w' F' r1 g1 S B' D' (1024 * (i + 1)) ∧ LiesU S (i + 1) B' D' ∧ ∀ k, F' k → w.heap.size ≤ k) ?_ ?_
    · rintro _ w4 ⟨hx4, h4⟩
      exact hJ (64 - (i + 1)) (i + 1) w4 (by omega) ⟨rfl, by omega, hx4, h4⟩
    · intro J2 hJ2
      refine bnd_mk (by omega) (by omega) (asA_i (l := s.cells) rfl rfl (asI_i rfl (asB_i rfl (asI_i rfl (asI_i rfl (asI_i rfl (asI_i rfl (asI_i rfl (asI_i rfl (asI_i rfl (asI_i rfl ?_)))))))))))
      refine (St.start w3).nw (cs := [.int .i64 0, .bool false, .int .i64 0, .int .i64 0, .int .i64 0, .int .i64 0, .int .i64 0, .int .i64 0, .int .i64 0, .int .i64 0]) fun r28 w4 hZ => lv_i ?_
      refine hZ.st0 0 rfl rfl rfl fun w7 hZ => hZ.st 0 rfl rfl rfl fun w8 hZ => hZ.st 0 rfl rfl rfl fun w9 hZ => hZ.st 0 rfl rfl rfl fun w10 hZ => hZ.st 0 rfl rfl rfl fun w11 hZ => ?_
      refine hZ.st 0 rfl rfl rfl fun w12 hZ => hZ.st 0 rfl rfl rfl fun w13 hZ => hZ.st 0 rfl rfl rfl fun w14 hZ => hZ.st 0 rfl rfl rfl fun w15 hZ => hZ.st 0 rfl rfl rfl fun w16 hZ => ?_
      replace hZ : St w3 w16 [(r28, s.cells, 100)] := hZ
      have rd : ∀ {w' : World}, Ext no w16 w' → ∀ k v, s.cells[k]? = some v → w'.cell? ⟨r28, k, none⟩ = some v := fun hx k v hv => by
        rw [blk_cell ((hZ.to hx).kn _ List.mem_cons_self).1]
        simpa using hv
      have hx16 := hx3.trans hZ.ext
      refine ld_mk (by rw [add_mk]; exact rd (Ext.refl _ _) 1 _ rfl) (asB_i rfl (cond_split (fun ht => ?_) (fun ht => ?_)))
      · refine dw_mk ?_
        have hxd := Ext.drew w16
        have hWd := (hW.ext hZ.ext fun _ _ h => h).ext hxd fun _ _ h => h
        have hxx := hx16.trans hxd
        refine dr_i (ld_mk hWd.ws.cell0 (asP_i rfl ?_))
        refine ld_mk (by rw [add_mk, add_mk]; exact rd hxd 3 _ rfl) (asI_i rfl (ld_mk (by rw [add_mk, add_mk, add_mk]; exact rd hxd 4 _ rfl) (asI_i rfl (ld_mk (by rw [add_mk, add_mk, add_mk]; exact rd hxd 5 _ rfl) (asI_i rfl ?_)))))
        have he := ((hG i s hs).2.2.2 ht).1
        refine hWd.put (by omega) (b := s.e.box) fun w17 F17 hW17 hx17 hF17 => asI_i rfl (hJ2 _ _ ⟨?_, F17, _, _, ?_, hU.put hs ht he, fun k hk => ?_⟩)
        · exact hxx.then hx17 fun k hk hkF => by
            have := hF k hkF
            omega
        · rw [show 1024 * (i + 1) = 1024 * i + 1024 from by omega]
          exact hW17
        · rcases hF17 k hk with hk | hk
          · exact hF k hk
          · have := hxx.size
            omega
      · exact hJ2 _ _ ⟨hx16, F', B', D', (hW.ext hZ.ext fun _ _ h => h).mono (by omega), hU.skip hs ht, hF⟩
  · have hi64 : i = 64 := by
      have := of_decide_eq_false hc
      omega
    subst hi64
    exact hK w3 F' r1 g1 B' D' hW (hU.all h64) hU.nd hx3 hF hr1
end Go.Proofs.Ytamobmjfdiecbaa

/- WoZ: a world and the document's own beside blocks of one's own. Conditions: those of each theorem, on its arguments. -/
namespace Go.Proofs.Ytamobmjfdiecbaa
open Go Go.Sx Go.Fp
attribute [local irreducible] jn lv ld st nw asI asB asP asS asY asM asF asA asT lp rn ru rq cl dw dr bnd bn2 nz nn hd hr so eqW
attribute [local irreducible] callOk

/-- the code's world with places S, the document's with places T -/
structure W2 (W w : World) (L : List (Nat × List Value × TypeId)) (r g : Nat) (S : List Spot) (B : List (Int × Bx)) (D : List ((Int × Int) × List Int)) (N : Nat) (x : Nat) (T : List Spot) : Prop where
  st : St W w L
  gr : ∃ F, Wd w F r g S B D N ∧ XW w x T ∧ ¬ wF F r x ∧ ∀ k, (wF F r k ∨ k = x) → W.heap.size ≤ k ∧ ∀ b ∈ L, b.1 ≠ k

section
variable {W w : World} {L : List (Nat × List Value × TypeId)} {r g x : Nat} {S T : List Spot} {B : List (Int × Bx)} {D : List ((Int × Int) × List Int)} {N : Nat}

theorem W2.to (h : W2 W w L r g S B D N x T) {w' : World} (hx : Ext no w w') : W2 W w' L r g S B D N x T := by
  obtain ⟨F, h1, h2, h3, h4⟩ := h.gr
  exact ⟨h.st.to hx, F, h1.ext hx fun _ _ h => h, h2.ext hx fun h => h, h3, h4⟩
theorem W2.mono (h : W2 W w L r g S B D N x T) {M : Nat} (hM : N ≤ M) : W2 W w L r g S B D M x T := by
  obtain ⟨F, h1, h2, h3, h4⟩ := h.gr
  exact ⟨h.st, F, h1.mono hM, h2, h3, h4⟩
theorem W2.step1 {F : Nat → Prop} (hs : St W w L) (h1 : Wd w F r g S B D N) (h2 : XW w x T) (h3 : ¬ wF F r x) (h4 : ∀ k, (wF F r k ∨ k = x) → W.heap.size ≤ k ∧ ∀ b ∈ L, b.1 ≠ k)
    {w' : World} {F' : Nat → Prop} {S' : List Spot} {B' : List (Int × Bx)} {D' : List ((Int × Int) × List Int)} {N' : Nat} (hw : Wd w' F' r g S' B' D' N') (hx : Ext (wF F r) w w') (hF : ∀ k, F' k → F k ∨ w.heap.size ≤ k) : W2 W w' L r g S' B' D' N' x T := by
  have hxl := blk_lt h2.blk
  refine ⟨hs.toX hx (fun k hk => (h4 k (.inl hk)).1) (fun b hb hk => (h4 _ (.inl hk)).2 b hb rfl), F', hw, h2.ext hx h3, ?_, ?_⟩
  · rintro (hk | hk)
    · rcases hF _ hk with hk | hk
      · exact h3 (.inl hk)
      · omega
    · exact h3 (.inr hk)
  · rintro k ((hk | hk) | hk)
    · rcases hF _ hk with hk | hk
      · exact h4 k (.inl (.inl hk))
      · have := hs.ext.size
        refine ⟨by omega, fun b hb => ?_⟩
        have := blk_lt (hs.kn b hb).1
        omega
    · exact h4 k (.inl (.inr hk))
    · exact h4 k (.inr hk)
theorem W2.step2 {F : Nat → Prop} (hs : St W w L) (h1 : Wd w F r g S B D N) (h3 : ¬ wF F r x) (h4 : ∀ k, (wF F r k ∨ k = x) → W.heap.size ≤ k ∧ ∀ b ∈ L, b.1 ≠ k)
    {w' : World} {T' : List Spot} (hw : XW w' x T') (hx : Ext (onl x) w w') : W2 W w' L r g S B D N x T' := by
  refine ⟨hs.toX hx (fun k hk => (h4 k (.inr hk)).1) (fun b hb hk => (h4 _ (.inr hk)).2 b hb rfl), F, h1.ext hx fun k hk e => ?_, hw, h3, h4⟩
  have e' : k = x := e
  rw [e'] at hk
  exact h3 hk

theorem W2.spawn (h : W2 W w L r g S B D N x T) (hN : N ≤ 549755813888) {e : Ent} {K : Value → World → Prop}
    (hbad : ∀ w', W2 W w' L r g S B D N x T → e.rightE ≠ 0 → K (.tuple #[.int .i64 0, .int .i64 e.rightE]) w')
    (hfull : ∀ w', W2 W w' L r g S B D N x T → e.rightE = 0 → (∀ (j : Nat) s, S[j]? = some s → free s = false) → K (.tuple #[.int .i64 0, .int .i64 2]) w')
    (hok : ∀ w' i s, e.rightE = 0 → IsFree S i s → W2 W w' L r g (S.set i (spn s i e)) (gputB wside B i e.box) (gputD wside B D i e.box) (N + 1024) x T → K (.tuple #[.int .i64 ((s.gen + 1) * 64 + (i : Int)), .int .i64 0]) w') :
    cl Try.prog 16 #[.pointer (some ⟨r, 0, none⟩), e.v] w K := by
  obtain ⟨F, h1, h2, h3, h4⟩ := h.gr
  exact spawn_k h1 hN (fun w' hx he => hbad w' (h.to hx) he) (fun w' hx he hf => hfull w' (h.to hx) he hf) fun w' F' i s he hf hw hx hG _ => hok w' i s he hf (W2.step1 h.st h1 h2 h3 h4 hw hx hG)
theorem W2.kill (h : W2 W w L r g S B D N x T) (hN : N ≤ 549755813888) {hh : Int} {K : Value → World → Prop}
    (hnone : atI S hh = none → K (.int .i64 190) w)
    (hok : ∀ w' i s, atI S hh = some i → S[i]? = some s → s.there = true → s.e.h = hh → W2 W w' L r g (S.set i ⟨s.gen, false, s.e⟩) (gdropB B i) (gdropD wside B D i) N x T → K (.int .i64 0) w') :
    cl Try.prog 17 #[.pointer (some ⟨r, 0, none⟩), .int .i64 hh] w K := by
  obtain ⟨F, h1, h2, h3, h4⟩ := h.gr
  exact kill_k h1 hN hnone fun w' i s a1 a2 a3 a4 a5 a6 hw hx => hok w' i s a1 a4 a5 a6 (W2.step1 h.st h1 h2 h3 h4 hw hx fun k hk => .inl hk)
theorem W2.set (h : W2 W w L r g S B D N x T) (hN : N ≤ 549755813888) {hh : Int} {e : Ent} {K : Value → World → Prop}
    (hbad : ∀ w', W2 W w' L r g S B D N x T → setE S hh e ≠ 0 → K (.int .i64 (setE S hh e)) w')
    (hok : ∀ w' i s, setE S hh e = 0 → e.rightE = 0 → atI S hh = some i → S[i]? = some s → s.there = true → s.e.h = hh → W2 W w' L r g (S.set i ⟨s.gen, s.there, { e with h := hh }⟩) (gmoveB wside B i e.box) (gmoveD wside B D i e.box) (N + 1024) x T → K (.int .i64 0) w') :
    cl Try.prog 20 #[.pointer (some ⟨r, 0, none⟩), .int .i64 hh, e.v] w K := by
  obtain ⟨F, h1, h2, h3, h4⟩ := h.gr
  exact set_k h1 hN (fun w' hx he => hbad w' (h.to hx) he) fun w' F' i s b0 b1 a1 a2 a3 a4 a5 a6 hw hx hG _ => hok w' i s b0 b1 a1 a4 a5 a6 (W2.step1 h.st h1 h2 h3 h4 hw hx hG)
theorem W2.rspawn (h : W2 W w L r g S B D N x T) {n : Nat} (hG : Good n T) (hn : n ≤ 1000000) {e : Ent} {K : Value → World → Prop}
    (hbad : ∀ w', W2 W w' L r g S B D N x T → e.rightE ≠ 0 → K (.tuple #[.int .i64 0, .int .i64 e.rightE]) w')
    (hfull : ∀ w', W2 W w' L r g S B D N x T → e.rightE = 0 → (∀ (j : Nat) s, T[j]? = some s → free s = false) → K (.tuple #[.int .i64 0, .int .i64 2]) w')
    (hok : ∀ w' i s, e.rightE = 0 → IsFree T i s → W2 W w' L r g S B D N x (T.set i (spn s i e)) → K (.tuple #[.int .i64 ((s.gen + 1) * 64 + (i : Int)), .int .i64 0]) w') :
    cl Try.prog 62 #[.pointer (some ⟨x, 0, none⟩), e.v] w K := by
  obtain ⟨F, h1, h2, h3, h4⟩ := h.gr
  exact spawn19_k h2 hG hn (fun w' hx he => hbad w' (h.to hx) he) (fun w' hx he hf => hfull w' (h.to hx) he hf) fun w' i s he hf hw hx => hok w' i s he hf (W2.step2 h.st h1 h3 h4 hw hx)
theorem W2.rkill (h : W2 W w L r g S B D N x T) {n : Nat} (hG : Good n T) {hh : Int} {K : Value → World → Prop}
    (hnone : atI T hh = none → K (.int .i64 190) w)
    (hok : ∀ w' i s, atI T hh = some i → T[i]? = some s → W2 W w' L r g S B D N x (T.set i ⟨s.gen, false, s.e⟩) → K (.int .i64 0) w') :
    cl Try.prog 63 #[.pointer (some ⟨x, 0, none⟩), .int .i64 hh] w K := by
  obtain ⟨F, h1, h2, h3, h4⟩ := h.gr
  exact kill19_k h2 hG hnone fun w' i s a1 a2 hw hx => hok w' i s a1 a2 (W2.step2 h.st h1 h3 h4 hw hx)
theorem W2.rset (h : W2 W w L r g S B D N x T) {n : Nat} (hG : Good n T) {hh : Int} {e : Ent} {K : Value → World → Prop}
    (hbad : ∀ w', W2 W w' L r g S B D N x T → setE T hh e ≠ 0 → K (.int .i64 (setE T hh e)) w')
    (hok : ∀ w' i s, setE T hh e = 0 → atI T hh = some i → T[i]? = some s → W2 W w' L r g S B D N x (T.set i ⟨s.gen, s.there, { e with h := hh }⟩) → K (.int .i64 0) w') :
    cl Try.prog 65 #[.pointer (some ⟨x, 0, none⟩), .int .i64 hh, e.v] w K := by
  obtain ⟨F, h1, h2, h3, h4⟩ := h.gr
  exact set19_k h2 hG (fun w' hx he => hbad w' (h.to hx) he) fun w' i s a0 a1 a2 hw hx => hok w' i s a0 a1 a2 (W2.step2 h.st h1 h3 h4 hw hx)
end
end Go.Proofs.Ytamobmjfdiecbaa

/- WoL3: the law WorldHandles comes out true for every input. Conditions: those of the law's arguments as they are read. -/
namespace Go.Proofs.Ytamobmjfdiecbaa
open Go Go.Sx Go.Fp
attribute [local irreducible] jn lv ld st nw asI asB asP asS asY asM asF asA asT lp rn ru rq cl dw dr bnd bn2 nz nn hd hr so eqW
attribute [local irreducible] callOk

structure Act where
  k : Int
  h : Int
  e : Ent
def Act.cells (a : Act) : List Value := .int .i64 a.k :: .int .i64 a.h :: a.e.cells
theorem Act.cells_length (a : Act) : a.cells.length = 10 := rfl

theorem acts_of : ∀ {R : List (List Value)}, (∀ c ∈ R, FitsAll [.int .i64, .int .i64, .int .i64, .int .i64, .int .i64, .int .i64, .int .i64, .int .i64, .int .i64, .int .i64] c) → ∃ es : List Act, R.flatten = es.flatMap Act.cells ∧ es.length = R.length ∧ ∀ a ∈ es, a.e.I
  | [], _ => ⟨[], rfl, rfl, by simp⟩
  | c :: R, h => by
    have hc := h c List.mem_cons_self
    obtain ⟨_, _, rfl, ⟨k, rfl, _⟩, hc⟩ := hc
    obtain ⟨_, _, rfl, ⟨hh, rfl, _⟩, hc⟩ := hc
    obtain ⟨e, rfl, he⟩ := ent_of hc
    obtain ⟨es, h1, h2, h3⟩ := acts_of (R := R) fun c hc => h c (List.mem_cons_of_mem _ hc)
    refine ⟨⟨k, hh, e⟩ :: es, by rw [List.flatten_cons, h1]; rfl, by simp [h2], fun x hx => ?_⟩
    rcases List.mem_cons.1 hx with rfl | hx
    · exact he
    · exact h3 x hx

theorem ld10c {w : World} {A : Addr} {a : Act} (hc : ∀ k, k < 10 → w.cell? (Addr.add A k) = a.cells[k]?) {K : Int → Int → Int → Int → Int → Int → Int → Int → Int → Int → Prop} (hK : K a.k a.h a.e.h a.e.x a.e.y a.e.r a.e.vx a.e.vy a.e.o a.e.t) :
    ld w A fun v1 => asI .i64 v1 fun x0 => ld w (Addr.add A 1) fun v2 => asI .i64 v2 fun x1 => ld w (Addr.add A 2) fun v3 => asI .i64 v3 fun x2 => ld w (Addr.add A 3) fun v4 => asI .i64 v4 fun x3 =>
      ld w (Addr.add A 4) fun v5 => asI .i64 v5 fun x4 => ld w (Addr.add A 5) fun v6 => asI .i64 v6 fun x5 => ld w (Addr.add A 6) fun v7 => asI .i64 v7 fun x6 => ld w (Addr.add A 7) fun v8 => asI .i64 v8 fun x7 =>
      ld w (Addr.add A 8) fun v9 => asI .i64 v9 fun x8 => ld w (Addr.add A 9) fun v10 => asI .i64 v10 fun x9 => K x0 x1 x2 x3 x4 x5 x6 x7 x8 x9 :=
  ld_mk (by have := hc 0 (by decide); rwa [Sx.add_zero'] at this) (asI_i rfl (ld_mk (hc 1 (by decide)) (asI_i rfl (ld_mk (hc 2 (by decide)) (asI_i rfl (ld_mk (hc 3 (by decide)) (asI_i rfl (ld_mk (hc 4 (by decide)) (asI_i rfl
    (ld_mk (hc 5 (by decide)) (asI_i rfl (ld_mk (hc 6 (by decide)) (asI_i rfl (ld_mk (hc 7 (by decide)) (asI_i rfl (ld_mk (hc 8 (by decide)) (asI_i rfl (ld_mk (hc 9 (by decide)) (asI_i rfl hK)))))))))))))))))))

structure Pq (W w : World) (L : List (Nat × List Value × TypeId)) (F : Nat → Prop) (r g : Nat) (S : List Spot) (B : List (Int × Bx)) (D : List ((Int × Int) × List Int)) (N : Nat) (p : Option Addr) (c : Nat) (G : List Int) (q : Option Addr) (c' : Nat) (Q : List Int) : Prop where
  pw : Pw W w L F r g S B D N
  gv : Pr W w L F r p c G
  dd : Pr W w L F r q c' Q
  ap : Apart p q

section
variable {W w : World} {L : List (Nat × List Value × TypeId)} {F : Nat → Prop} {r g : Nat} {S : List Spot} {B : List (Int × Bx)} {D : List ((Int × Int) × List Int)} {N : Nat} {p q : Option Addr} {c c' : Nat} {G Q : List Int}

theorem Pq.to (h : Pq W w L F r g S B D N p c G q c' Q) {w' : World} (hx : Ext no w w') : Pq W w' L F r g S B D N p c G q c' Q := ⟨h.pw.to hx, h.gv.to hx, h.dd.to hx, h.ap⟩
theorem Pq.tail {x : Nat × List Value × TypeId} (h : Pq W w (x :: L) F r g S B D N p c G q c' Q) : Pq W w L F r g S B D N p c G q c' Q := ⟨h.pw.tail, h.gv.tail, h.dd.tail, h.ap⟩
theorem Pq.mono (h : Pq W w L F r g S B D N p c G q c' Q) {M : Nat} (hM : N ≤ M) : Pq W w L F r g S B D M p c G q c' Q := ⟨⟨h.pw.st, h.pw.wd.mono hM, h.pw.fr⟩, h.gv, h.dd, h.ap⟩

theorem Pq.nw (h : Pq W w L F r g S B D N p c G q c' Q) {cs : List Value} {t : TypeId} {K : Nat → World → Prop} (hK : ∀ b w', Pq W w' ((b, cs, t) :: L) F r g S B D N p c G q c' Q → K b w') : nw w (.cells cs.toArray t) K := by
  have hx := Ext.alloc w (.cells cs.toArray t)
  have key : Pw W (w.alloc (.cells cs.toArray t)) ((w.heap.size, cs, t) :: L) F r g S B D N := by
    have key := h.pw.nw (cs := cs) (t := t) (K := fun b w' => b = w.heap.size → w' = w.alloc (.cells cs.toArray t) → Pw W w' ((b, cs, t) :: L) F r g S B D N) fun b w' hP _ _ => hP
    unfold Sx.nw at key
    exact key rfl rfl
  have hg := h.gv.cons (x := (w.heap.size, cs, t)) (Nat.le_refl _)
  have hd := h.dd.cons (x := (w.heap.size, cs, t)) (Nat.le_refl _)
  exact nw_mk (hK _ _ ⟨key, hg.to hx, hd.to hx, h.ap⟩)

theorem Pq.one {b j : Nat} {cs : List Value} {t : TypeId} (h : Pq W w ((b, cs, t) :: L) F r g S B D N p c G q c' Q) {v u : Value} {K : World → Prop} (hj : cs[j]? = some u) (h1 : Sx.one v = true) (hK : ∀ w', Pq W w' ((b, cs.set j v, t) :: L) F r g S B D N p c G q c' Q → K w') :
    Sx.st w ⟨b, j, none⟩ v K := by
  refine h.pw.st.stj 0 rfl hj h1 fun w' hs hx => hK w' ⟨⟨hs, h.pw.wd.ext hx fun k hk e => ?_, fun k hk => ⟨(h.pw.fr k hk).1, fun x hb => ?_⟩⟩, ?_, ?_, h.ap⟩
  · have e' : k = b := e
    exact (h.pw.fr k hk).2 (b, cs, t) List.mem_cons_self e'.symm
  · rcases List.mem_cons.1 hb with rfl | hb
    · exact (h.pw.fr k hk).2 (b, cs, t) List.mem_cons_self
    · exact (h.pw.fr k hk).2 x (List.mem_cons_of_mem _ hb)
  · exact (h.gv.onl ⟨_, List.mem_cons_self, rfl⟩ hx).cells rfl
  · exact (h.dd.onl ⟨_, List.mem_cons_self, rfl⟩ hx).cells rfl

theorem Pq.st8 {b : Nat} {cs : List Value} {t : TypeId} (h : Pq W w ((b, cs, t) :: L) F r g S B D N p c G q c' Q) (hc : cs.length = 8) (e : Ent) {K : World → Prop} (hK : ∀ w', Pq W w' ((b, e.cells, t) :: L) F r g S B D N p c G q c' Q → K w') :
    Sx.st w ⟨b, 0, none⟩ (.int .i64 e.h) fun w1 => Sx.st w1 (Addr.add ⟨b, 0, none⟩ 1) (.int .i64 e.x) fun w2 => Sx.st w2 (Addr.add ⟨b, 0, none⟩ 2) (.int .i64 e.y) fun w3 => Sx.st w3 (Addr.add ⟨b, 0, none⟩ 3) (.int .i64 e.r) fun w4 =>
      Sx.st w4 (Addr.add ⟨b, 0, none⟩ 4) (.int .i64 e.vx) fun w5 => Sx.st w5 (Addr.add ⟨b, 0, none⟩ 5) (.int .i64 e.vy) fun w6 => Sx.st w6 (Addr.add ⟨b, 0, none⟩ 6) (.int .i64 e.o) fun w7 => Sx.st w7 (Addr.add ⟨b, 0, none⟩ 7) (.int .i64 e.t) fun w8 => K w8 := by
  match cs, hc with
  | [a0, a1, a2, a3, a4, a5, a6, a7], _ =>
    simp only [add_mk, Nat.zero_add]
    exact h.one rfl rfl fun w1 h1 => h1.one rfl rfl fun w2 h2 => h2.one rfl rfl fun w3 h3 => h3.one rfl rfl fun w4 h4 => h4.one rfl rfl fun w5 h5 => h5.one rfl rfl fun w6 h6 => h6.one rfl rfl fun w7 h7 => h7.one rfl rfl fun w8 h8 => hK w8 h8

theorem Pq.st10 {b : Nat} {cs : List Value} {t : TypeId} (h : Pq W w ((b, cs, t) :: L) F r g S B D N p c G q c' Q) (hc : cs.length = 10) (a : Act) {K : World → Prop} (hK : ∀ w', Pq W w' ((b, a.cells, t) :: L) F r g S B D N p c G q c' Q → K w') :
    Sx.st w ⟨b, 0, none⟩ (.int .i64 a.k) fun w1 => Sx.st w1 (Addr.add ⟨b, 0, none⟩ 1) (.int .i64 a.h) fun w2 => Sx.st w2 (Addr.add ⟨b, 0, none⟩ 2) (.int .i64 a.e.h) fun w3 => Sx.st w3 (Addr.add ⟨b, 0, none⟩ 3) (.int .i64 a.e.x) fun w4 =>
      Sx.st w4 (Addr.add ⟨b, 0, none⟩ 4) (.int .i64 a.e.y) fun w5 => Sx.st w5 (Addr.add ⟨b, 0, none⟩ 5) (.int .i64 a.e.r) fun w6 => Sx.st w6 (Addr.add ⟨b, 0, none⟩ 6) (.int .i64 a.e.vx) fun w7 => Sx.st w7 (Addr.add ⟨b, 0, none⟩ 7) (.int .i64 a.e.vy) fun w8 =>
      Sx.st w8 (Addr.add ⟨b, 0, none⟩ 8) (.int .i64 a.e.o) fun w9 => Sx.st w9 (Addr.add ⟨b, 0, none⟩ 9) (.int .i64 a.e.t) fun w10 => K w10 := by
  match cs, hc with
  | [a0, a1, a2, a3, a4, a5, a6, a7, a8, a9], _ =>
    simp only [add_mk, Nat.zero_add]
    exact h.one rfl rfl fun w1 h1 => h1.one rfl rfl fun w2 h2 => h2.one rfl rfl fun w3 h3 => h3.one rfl rfl fun w4 h4 => h4.one rfl rfl fun w5 h5 => h5.one rfl rfl fun w6 h6 => h6.one rfl rfl fun w7 h7 => h7.one rfl rfl fun w8 h8 => h8.one rfl rfl fun w9 h9 => h9.one rfl rfl fun w10 h10 => hK w10 h10

theorem Pq.step (h : Pq W w L F r g S B D N p c G q c' Q) {w' : World} {F' : Nat → Prop} {S' : List Spot} {B' : List (Int × Bx)} {D' : List ((Int × Int) × List Int)} {N' : Nat} (hw : Wd w' F' r g S' B' D' N') (hx : Ext (wF F r) w w') (hG : ∀ k, F' k → F k ∨ w.heap.size ≤ k) : Pq W w' L F' r g S' B' D' N' p c G q c' Q :=
  ⟨h.pw.step hw hx hG, h.gv.step hx hG, h.dd.step hx hG, h.ap⟩

theorem Pq.spawn (h : Pq W w L F r g S B D N p c G q c' Q) (hN : N ≤ 549755813888) {e : Ent} {K : Value → World → Prop}
    (hno : ∀ w' x, Pq W w' L F r g S B D N p c G q c' Q → x ≠ 0 → K (.tuple #[.int .i64 0, .int .i64 x]) w')
    (hok : ∀ w' F' B' D' i s, e.rightE = 0 → IsFree S i s → Pq W w' L F' r g (S.set i (spn s i e)) B' D' (N + 1024) p c G q c' Q → K (.tuple #[.int .i64 ((s.gen + 1) * 64 + (i : Int)), .int .i64 0]) w') :
    cl Try.prog 16 #[.pointer (some ⟨r, 0, none⟩), e.v] w K :=
  spawn_k h.pw.wd hN (fun w' hx he => hno w' _ (h.to hx) he) (fun w' hx he hf => hno w' _ (h.to hx) (by decide)) fun w' F' i s he hf hw hx hG _ => hok w' F' _ _ i s he hf (h.step hw hx hG)

theorem Pq.kill (h : Pq W w L F r g S B D N p c G q c' Q) (hN : N ≤ 549755813888) {hh : Int} {K : Value → World → Prop}
    (hnone : atI S hh = none → K (.int .i64 190) w)
    (hok : ∀ w' B' D' i s, atI S hh = some i → i = hh.toNat % 64 → hh = hh.toNat → S[i]? = some s → s.there = true → s.e.h = hh → Pq W w' L F r g (S.set i ⟨s.gen, false, s.e⟩) B' D' N p c G q c' Q → K (.int .i64 0) w') :
    cl Try.prog 17 #[.pointer (some ⟨r, 0, none⟩), .int .i64 hh] w K :=
  kill_k h.pw.wd hN hnone fun w' i s h1 h2 h3 h4 h5 h6 hw hx => hok w' _ _ i s h1 h2 h3 h4 h5 h6 (h.step hw hx fun k hk => .inl hk)

theorem Pq.get (h : Pq W w L F r g S B D N p c G q c' Q) {hh : Int} {K : Value → World → Prop} (hK : ∀ w', Pq W w' L F r g S B D N p c G q c' Q → K (.tuple #[(getE S hh).v, .int .i64 (getC S hh)]) w') :
    cl Try.prog 18 #[.pointer (some ⟨r, 0, none⟩), .int .i64 hh] w K := get_k h.pw.wd.ws fun w' hx => hK w' (h.to hx)

theorem Pq.list (h : Pq W w L F r g S B D N p c G q c' Q) {K : Value → World → Prop}
    (hK : ∀ p0 c0 w', Pq W w' L F r g S B D N p c G q c' Q → K (.slice p0 (listS S).length c0) w') :
    cl Try.prog 19 #[.pointer (some ⟨r, 0, none⟩)] w K := list_k h.pw.wd.ws fun p0 c0 w' hx _ => hK p0 c0 w' (h.to hx)

/-- a whole number out of a row -/
theorem Pr.at (h : Pr W w L F r p c G) {i n : Nat} (hn : G.length = n) (hi : i < n) {K : Addr → Prop} (hK : ∀ a, w.cell? (Addr.add a (i * 1)) = some (.int .i64 (G.getD i 0)) → K a) : dr p fun a => bnd (i : Int) n (K a) := by
  have e : iv .i64 G = G.flatMap fun x => [.int .i64 x] := by
    clear h hn hK
    induction G with
    | nil => rfl
    | cons x G ih => rw [List.flatMap_cons, ← ih]; rfl
  have hr := h.row.reads
  rw [e] at hr
  have hx : G[i]? = some (G.getD i 0) := by
    rw [List.getD_eq_getElem?_getD, List.getElem?_eq_getElem (by omega)]
    rfl
  refine Reads.atN (f := fun x => [.int .i64 x]) (s := 1) (fun _ => rfl) hr hn hx (by decide) fun a _ hc => hK a ?_
  have := hc 0 (by decide)
  rw [Sx.add_zero'] at this
  exact this
end
end Go.Proofs.Ytamobmjfdiecbaa

/- WoZ2: acts on both worlds: spawn, kill, set. Conditions: those of each theorem, on its arguments. -/
namespace Go.Proofs.Ytamobmjfdiecbaa
open Go Go.Sx Go.Fp
attribute [local irreducible] jn lv ld st nw asI asB asP asS asY asM asF asA asT lp rn ru rq cl dw dr bnd bn2 nz nn hd hr so eqW
attribute [local irreducible] callOk

section
variable {W w : World} {L : List (Nat × List Value × TypeId)} {r g x : Nat} {S T : List Spot} {B : List (Int × Bx)} {D : List ((Int × Int) × List Int)} {N : Nat}
theorem W2.nw (h : W2 W w L r g S B D N x T) {cs : List Value} {t : TypeId} {K : Nat → World → Prop} (hK : ∀ b w', W2 W w' ((b, cs, t) :: L) r g S B D N x T → K b w') : nw w (.cells cs.toArray t) K := by
  obtain ⟨F, h1, h2, h3, h4⟩ := h.gr
  have hx := Ext.alloc w (.cells cs.toArray t)
  have hxl := blk_lt h2.blk
  refine nw_mk (hK _ _ ⟨h.st.alloc cs t, F, h1.ext hx fun _ _ h => h, h2.ext hx fun h => h, h3, fun k hk => ⟨(h4 k hk).1, fun b hb => ?_⟩⟩)
  rcases List.mem_cons.1 hb with rfl | hb
  · have : k < w.heap.size := by
      rcases hk with (hk | hk) | hk
      · exact h1.f_lt k hk
      · have := h1.r_lt
        omega
      · omega
    simp only
    omega
  · exact (h4 k hk).2 b hb
theorem W2.tail {y : Nat × List Value × TypeId} (h : W2 W w (y :: L) r g S B D N x T) : W2 W w L r g S B D N x T := by
  obtain ⟨F, h1, h2, h3, h4⟩ := h.gr
  exact ⟨h.st.tail, F, h1, h2, h3, fun k hk => ⟨(h4 k hk).1, fun b hb => (h4 k hk).2 b (List.mem_cons_of_mem _ hb)⟩⟩
theorem W2.one {b j : Nat} {cs : List Value} {t : TypeId} (h : W2 W w ((b, cs, t) :: L) r g S B D N x T) {v u : Value} {K : World → Prop} (hj : cs[j]? = some u) (h1 : Sx.one v = true) (hK : ∀ w', W2 W w' ((b, cs.set j v, t) :: L) r g S B D N x T → K w') :
    Sx.st w ⟨b, j, none⟩ v K := by
  obtain ⟨F, g1, g2, g3, g4⟩ := h.gr
  refine h.st.stj 0 rfl hj h1 fun w' hs hx => hK w' ⟨hs, F, g1.ext hx fun k hk e => ?_, g2.ext hx fun e => ?_, g3, fun k hk => ⟨(g4 k hk).1, fun y hb => ?_⟩⟩
  · have e' : k = b := e
    exact (g4 k (.inl hk)).2 (b, cs, t) List.mem_cons_self e'.symm
  · have e' : x = b := e
    exact (g4 x (.inr rfl)).2 (b, cs, t) List.mem_cons_self e'.symm
  · rcases List.mem_cons.1 hb with rfl | hb
    · exact (g4 k hk).2 (b, cs, t) List.mem_cons_self
    · exact (g4 k hk).2 y (List.mem_cons_of_mem _ hb)
theorem W2.st8 {b : Nat} {cs : List Value} {t : TypeId} (h : W2 W w ((b, cs, t) :: L) r g S B D N x T) (hc : cs.length = 8) (e : Ent) {K : World → Prop} (hK : ∀ w', W2 W w' ((b, e.cells, t) :: L) r g S B D N x T → K w') :
    Sx.st w ⟨b, 0, none⟩ (.int .i64 e.h) fun w1 => Sx.st w1 (Addr.add ⟨b, 0, none⟩ 1) (.int .i64 e.x) fun w2 => Sx.st w2 (Addr.add ⟨b, 0, none⟩ 2) (.int .i64 e.y) fun w3 => Sx.st w3 (Addr.add ⟨b, 0, none⟩ 3) (.int .i64 e.r) fun w4 =>
      Sx.st w4 (Addr.add ⟨b, 0, none⟩ 4) (.int .i64 e.vx) fun w5 => Sx.st w5 (Addr.add ⟨b, 0, none⟩ 5) (.int .i64 e.vy) fun w6 => Sx.st w6 (Addr.add ⟨b, 0, none⟩ 6) (.int .i64 e.o) fun w7 => Sx.st w7 (Addr.add ⟨b, 0, none⟩ 7) (.int .i64 e.t) fun w8 => K w8 := by
  match cs, hc with
  | [a0, a1, a2, a3, a4, a5, a6, a7], _ =>
    simp only [add_mk, Nat.zero_add]
    exact h.one rfl rfl fun w1 h1 => h1.one rfl rfl fun w2 h2 => h2.one rfl rfl fun w3 h3 => h3.one rfl rfl fun w4 h4 => h4.one rfl rfl fun w5 h5 => h5.one rfl rfl fun w6 h6 => h6.one rfl rfl fun w7 h7 => h7.one rfl rfl fun w8 h8 => hK w8 h8
end

/-- both worlds hold the same, and the pair of them stands in a block -/
structure Bw (W w : World) (bk r g : Nat) (S : List Spot) (B : List (Int × Bx)) (D : List ((Int × Int) × List Int)) (N x n : Nat) : Prop where
  two : W2 W w [(bk, [.pointer (some ⟨r, 0, none⟩), .pointer (some ⟨x, 0, none⟩)], 97)] r g S B D N x S
  good : Good n S
  lies : Lies S B D
  nd : (B.map (·.1)).Nodup

/-- Spawn on both, one after the other: the same answers, the same places -/
theorem both_spawn {W w : World} {r g : Nat} {S : List Spot} {B : List (Int × Bx)} {D : List ((Int × Int) × List Int)} {N x n : Nat} {L : List (Nat × List Value × TypeId)} (h : W2 W w L r g S B D N x S) (hG : Good n S) (hLi : Lies S B D) (hB : (B.map (·.1)).Nodup) (hN : N ≤ 549755813888) (hn : n ≤ 1000000) {e : Ent} (hI : e.I)
    {K : Value → World → Prop}
    (hK : ∀ (a c : Int) w1 S1 B1 D1 N1, W2 W w1 L r g S1 B1 D1 N1 x S → (∀ {w2 : World} {K2 : Value → World → Prop}, W2 W w2 L r g S1 B1 D1 N1 x S → (∀ w3, W2 W w3 L r g S1 B1 D1 N1 x S1 → Good (n + 1) S1 → Lies S1 B1 D1 → (B1.map (·.1)).Nodup → N1 ≤ N + 1024 → K2 (.tuple #[.int .i64 a, .int .i64 c]) w3) → cl Try.prog 62 #[.pointer (some ⟨x, 0, none⟩), e.v] w2 K2) → K (.tuple #[.int .i64 a, .int .i64 c]) w1) :
    cl Try.prog 16 #[.pointer (some ⟨r, 0, none⟩), e.v] w K := by
  refine h.spawn hN (fun w1 h1 he => ?_) (fun w1 h1 he hf => ?_) (fun w1 i s he hf h1 => ?_)
  · refine hK 0 e.rightE w1 S B D N h1 fun {w2} {K2} h2 hK2 => ?_
    exact h2.rspawn hG hn (fun w3 h3 _ => hK2 w3 h3 (hG.mono (by omega)) hLi hB (by omega)) (fun w3 _ h0 => absurd h0 he) (fun w3 i s h0 => absurd h0 he)
  · refine hK 0 2 w1 S B D N h1 fun {w2} {K2} h2 hK2 => ?_
    refine h2.rspawn hG hn (fun w3 _ h0 => absurd he h0) (fun w3 h3 _ _ => hK2 w3 h3 (hG.mono (by omega)) hLi hB (by omega)) (fun w3 i s _ hf' => ?_)
    have := hf _ _ hf'.1
    rw [hf'.2.1] at this
    cases this
  · refine hK _ 0 w1 _ _ _ _ h1 fun {w2} {K2} h2 hK2 => ?_
    refine h2.rspawn hG hn (fun w3 _ h0 => absurd he h0) (fun w3 _ _ hf' => ?_) (fun w3 i' s' _ hf' h3 => ?_)
    · have := hf' _ _ hf.1
      rw [hf.2.1] at this
      cases this
    · obtain ⟨rfl, rfl⟩ := hf'.unique hf
      exact hK2 w3 h3 (hG.spawn hn hf.1 he hI) (hLi.spawn hf he) (nd_put hB) (by omega)

theorem W2.ndB {W w : World} {r g : Nat} {S : List Spot} {B : List (Int × Bx)} {D : List ((Int × Int) × List Int)} {N x : Nat} {T : List Spot} {L : List (Nat × List Value × TypeId)} (h : W2 W w L r g S B D N x T) : (D.map (·.1)).Nodup := by
  obtain ⟨F, h1, _⟩ := h.gr
  exact h1.nd

/-- Kill on both -/
theorem both_kill {W w : World} {r g : Nat} {S : List Spot} {B : List (Int × Bx)} {D : List ((Int × Int) × List Int)} {N x n : Nat} {L : List (Nat × List Value × TypeId)} (h : W2 W w L r g S B D N x S) (hG : Good n S) (hLi : Lies S B D) (hB : (B.map (·.1)).Nodup) (hN : N ≤ 549755813888) {hh : Int}
    {K : Value → World → Prop}
    (hK : ∀ (c : Int) w1 S1 B1 D1, W2 W w1 L r g S1 B1 D1 N x S → (∀ {w2 : World} {K2 : Value → World → Prop}, W2 W w2 L r g S1 B1 D1 N x S → (∀ w3, W2 W w3 L r g S1 B1 D1 N x S1 → Good n S1 → Lies S1 B1 D1 → (B1.map (·.1)).Nodup → K2 (.int .i64 c) w3) → cl Try.prog 63 #[.pointer (some ⟨x, 0, none⟩), .int .i64 hh] w2 K2) → K (.int .i64 c) w1) :
    cl Try.prog 17 #[.pointer (some ⟨r, 0, none⟩), .int .i64 hh] w K := by
  have hD := h.ndB
  refine h.kill hN (fun hat => ?_) (fun w1 i s hat hs ht hx h1 => ?_)
  · refine hK 190 w S B D h fun {w2} {K2} h2 hK2 => ?_
    exact h2.rkill hG (fun _ => hK2 w2 h2 hG hLi hB) (fun w3 i s hat' => by rw [hat] at hat'; cases hat')
  · refine hK 0 w1 _ _ _ h1 fun {w2} {K2} h2 hK2 => ?_
    refine h2.rkill hG (fun hat' => by rw [hat] at hat'; cases hat') (fun w3 i' s' hat' hs' h3 => ?_)
    rw [hat] at hat'
    cases hat'
    rw [hs] at hs'
    cases hs'
    exact hK2 w3 h3 (hG.kill hs) (hLi.kill hB hD hs) (nd_drop hB)

/-- Set on both -/
theorem both_set {W w : World} {r g : Nat} {S : List Spot} {B : List (Int × Bx)} {D : List ((Int × Int) × List Int)} {N x n : Nat} {L : List (Nat × List Value × TypeId)} (h : W2 W w L r g S B D N x S) (hG : Good n S) (hLi : Lies S B D) (hB : (B.map (·.1)).Nodup) (hN : N ≤ 549755813888) {hh : Int} {e : Ent} (hI : e.I)
    {K : Value → World → Prop}
    (hK : ∀ (c : Int) w1 S1 B1 D1 N1, W2 W w1 L r g S1 B1 D1 N1 x S → (∀ {w2 : World} {K2 : Value → World → Prop}, W2 W w2 L r g S1 B1 D1 N1 x S → (∀ w3, W2 W w3 L r g S1 B1 D1 N1 x S1 → Good n S1 → Lies S1 B1 D1 → (B1.map (·.1)).Nodup → N1 ≤ N + 1024 → K2 (.int .i64 c) w3) → cl Try.prog 65 #[.pointer (some ⟨x, 0, none⟩), .int .i64 hh, e.v] w2 K2) → K (.int .i64 c) w1) :
    cl Try.prog 20 #[.pointer (some ⟨r, 0, none⟩), .int .i64 hh, e.v] w K := by
  have hD := h.ndB
  refine h.set hN (fun w1 h1 hne => ?_) (fun w1 i s h0 he hat hs ht hx h1 => ?_)
  · refine hK _ w1 S B D N h1 fun {w2} {K2} h2 hK2 => ?_
    exact h2.rset hG (fun w3 h3 _ => hK2 w3 h3 hG hLi hB (by omega)) (fun w3 i s h0 => absurd h0 hne)
  · refine hK 0 w1 _ _ _ _ h1 fun {w2} {K2} h2 hK2 => ?_
    refine h2.rset hG (fun w3 _ hne => absurd h0 hne) (fun w3 i' s' _ hat' hs' h3 => ?_)
    rw [hat] at hat'
    cases hat'
    rw [hs] at hs'
    cases hs'
    exact hK2 w3 h3 (hG.setE hs ht he hI hx) (hLi.move hB hD hs ht he hh) (nd_move hB) (by omega)
end Go.Proofs.Ytamobmjfdiecbaa

/- WoDo: an act on both worlds. Conditions: those of each theorem, on its arguments. -/
namespace Go.Proofs.Ytamobmjfdiecbaa
open Go Go.Sx Go.Fp
attribute [local irreducible] jn lv ld st nw asI asB asP asS asY asM asF asA asT lp rn ru rq cl dw dr bnd bn2 nz nn hd hr so eqW
attribute [local irreducible] callOk

theorem spawn_any {w : World} {F : Nat → Prop} {r g : Nat} {S : List Spot} {B : List (Int × Bx)} {D : List ((Int × Int) × List Int)} {N : Nat} (h : Wd w F r g S B D N) (hN : N ≤ 549755813888) {e : Ent} {K : Value → World → Prop}
    (hK : ∀ w' F' S' B' D' (x y : Int), Wd w' F' r g S' B' D' (N + 1024) → Ext (wF F r) w w' → (∀ k, F' k → F k ∨ w.heap.size ≤ k) → K (.tuple #[.int .i64 x, .int .i64 y]) w') :
    cl Try.prog 16 #[.pointer (some ⟨r, 0, none⟩), e.v] w K :=
  spawn_k h hN (fun w' hx _ => hK w' F _ _ _ _ _ ((h.ext hx fun _ _ h => h).mono (by omega)) hx.of_no fun k hk => .inl hk) (fun w' hx _ _ => hK w' F _ _ _ _ _ ((h.ext hx fun _ _ h => h).mono (by omega)) hx.of_no fun k hk => .inl hk)
    fun w' F' i s _ _ hw hx hF _ => hK w' F' _ _ _ _ _ hw hx hF
theorem kill_any {w : World} {F : Nat → Prop} {r g : Nat} {S : List Spot} {B : List (Int × Bx)} {D : List ((Int × Int) × List Int)} {N : Nat} (h : Wd w F r g S B D N) (hN : N ≤ 549755813888) {hh : Int} {K : Value → World → Prop}
    (hK : ∀ w' (x : Int), Ext (wF F r) w w' → K (.int .i64 x) w') :
    cl Try.prog 17 #[.pointer (some ⟨r, 0, none⟩), .int .i64 hh] w K :=
  kill_k h hN (fun _ => hK w _ (Ext.refl _ _)) fun w' i s _ _ _ _ _ _ _ hx => hK w' _ hx

set_option maxHeartbeats 4000000 in
theorem wdoes_k {W w : World} {bk r g x n : Nat} {S : List Spot} {B : List (Int × Bx)} {D : List ((Int × Int) × List Int)} {N : Nat} (h : Bw W w bk r g S B D N x n) (hN : N ≤ 1000000000) (hn : n ≤ 1000) {a : Act} (hI : a.e.I) {K : Value → World → Prop}
    (hK : ∀ w' r' g' S' B' D', Bw W w' bk r' g' S' B' D' (N + 70000) x (n + 1) → K (.bool true) w') :
    cl Try.prog 39 #[.pointer (some ⟨bk, 0, none⟩), .agg a.cells.toArray] w K := by
  obtain ⟨h2, hG, hLi, hB⟩ := h
  apply F39_calls
  unfold F39
  refine h2.nw (cs := a.cells) fun r1 w1 h1 => ?_
  have cA : ∀ {w' : World} {S' T' : List Spot} {r' g' : Nat} {B' : List (Int × Bx)} {D' : List ((Int × Int) × List Int)} {N' : Nat} {p0 : Value}, W2 W w' [(r1, a.cells, 40), (bk, [p0, .pointer (some ⟨x, 0, none⟩)], 97)] r' g' S' B' D' N' x T' →
      (∀ k v, a.cells[k]? = some v → w'.cell? ⟨r1, k, none⟩ = some v) ∧ w'.cell? ⟨bk, 0, none⟩ = some p0 ∧ w'.cell? (Addr.add ⟨bk, 0, none⟩ 1) = some (.pointer (some ⟨x, 0, none⟩)) := by
    intro w' S' T' r' g' B' D' N' p0 h
    refine ⟨fun k v hv => ?_, ?_, ?_⟩
    · rw [blk_cell (h.st.kn _ List.mem_cons_self).1]
      simpa using hv
    · rw [blk_cell (h.st.kn _ (List.mem_cons_of_mem _ List.mem_cons_self)).1]
      rfl
    · rw [add_mk, blk_cell (h.st.kn _ (List.mem_cons_of_mem _ List.mem_cons_self)).1]
      rfl
  have cE : ∀ {w' : World}, (∀ k v, a.cells[k]? = some v → w'.cell? ⟨r1, k, none⟩ = some v) → ∀ k, k < 8 → w'.cell? (Addr.add (Addr.add ⟨r1, 0, none⟩ 2) k) = a.e.cells[k]? := by
    intro w' hc k hk
    have e1 : a.e.cells[k]? = some (a.e.cells[k]'hk) := List.getElem?_eq_getElem hk
    rw [add_mk, add_mk, e1]
    refine hc _ _ ?_
    show (Value.int .i64 a.k :: Value.int .i64 a.h :: a.e.cells)[0 + 2 + k]? = _
    rw [show 0 + 2 + k = k + 1 + 1 from by omega, List.getElem?_cons_succ, List.getElem?_cons_succ, e1]
  have cH : ∀ {w' : World}, (∀ k v, a.cells[k]? = some v → w'.cell? ⟨r1, k, none⟩ = some v) → w'.cell? (Addr.add ⟨r1, 0, none⟩ 1) = some (.int .i64 a.h) := fun hc => by rw [add_mk]; exact hc 1 _ rfl
  have fin : ∀ w' S' B' D' N' m, W2 W w' [(r1, a.cells, 40), (bk, [.pointer (some ⟨r, 0, none⟩), .pointer (some ⟨x, 0, none⟩)], 97)] r g S' B' D' N' x S' → Good m S' → m ≤ n + 1 → Lies S' B' D' → (B'.map (·.1)).Nodup → N' ≤ N + 70000 → K (.bool true) w' :=
    fun w' S' B' D' N' m h3 hG3 hm hL3 hB3 hN3 => hK w' r g S' B' D' ⟨h3.tail.mono hN3, hG3.mono hm, hL3, hB3⟩
  refine jn_of (fun t w' => K (.bool true) w') (fun _ _ h => h) fun J5 hJ5 => ?_
  refine ld_mk ((cA h1).1 0 _ rfl) (asI_i rfl (cond_split (fun _ => ?_) (fun _ => cond_split (fun _ => ?_) (fun _ => cond_split (fun _ => ?_) (fun _ => cond_split (fun _ => ?_) (fun _ => ?_))))))
  · refine dw_mk ?_
    replace h1 := h1.to (Ext.drew w1)
    obtain ⟨a1, a2, a3⟩ := cA h1
    refine dr_i (ld_mk a2 (asP_i rfl (ld8c (e := a.e) (cE a1) ?_)))
    refine both_spawn h1 hG hLi hB (by omega) (by omega) hI fun c d w2 S1 B1 D1 N1 h2 hcall => ?_
    refine asT_i (l := [.int .i64 c, .int .i64 d]) rfl rfl (asI_i rfl (asI_i rfl (lv_i (lv_i (dw_mk ?_)))))
    replace h2 := h2.to (Ext.drew w2)
    obtain ⟨a1, a2, a3⟩ := cA h2
    refine dr_i (ld_mk a3 (asP_i rfl (ld8c (e := a.e) (cE a1) ?_)))
    refine hcall h2 fun w3 h3 hG3 hL3 hB3 hN3 => ?_
    refine asT_i (l := [.int .i64 c, .int .i64 d]) rfl rfl (asI_i rfl (asI_i rfl (lv_i (lv_i ?_))))
    refine jn_of (fun t w' => t = [.bool true] ∧ w' = w3) ?_ ?_
    · rintro _ w3 ⟨rfl, rfl⟩
      exact asB_i rfl (fin w3 _ _ _ _ _ h3 hG3 (Nat.le_refl _) hL3 hB3 (by omega))
    · intro J hJ
      refine cond_t (by simp) (hJ _ _ ⟨by simp, rfl⟩)
  · refine dw_mk ?_
    replace h1 := h1.to (Ext.drew w1)
    obtain ⟨a1, a2, a3⟩ := cA h1
    refine dr_i (ld_mk a2 (asP_i rfl (ld_mk (cH a1) (asI_i rfl (dr_i (ld_mk a3 (asP_i rfl (ld_mk (cH a1) (asI_i rfl ?_)))))))))
    refine both_kill h1 hG hLi hB (by omega) fun c w2 S1 B1 D1 h2 hcall => asI_i rfl ?_
    obtain ⟨a1, a2, a3⟩ := cA h2
    refine hd_i (cH a1) (hd_i a3 (hcall h2 fun w3 h3 hG3 hL3 hB3 => asI_i rfl ?_))
    rw [show (c == c) = true from by simp]
    exact fin w3 _ _ _ _ _ h3 hG3 (by omega) hL3 hB3 (by omega)
  · have hEI : (getE S a.h).I := by
      unfold getE
      cases hat : atI S a.h with
      | none => simp only; unfold Ent.I I64 Ent.zero; decide
      | some i =>
        obtain ⟨s, hs, ht, _⟩ := atI_some hat
        simp only [hs]
        exact ((hG i s hs).2.2.2 ht).2.2.2
    generalize hge : getE S a.h = e0 at hEI
    have rdE : ∀ {w' : World} {L' : List (Nat × List Value × TypeId)} {q : Nat}, W2 W w' L' r g S B D N x S → (q, e0.cells, 27) ∈ L' → ∀ k, k < 8 → w'.cell? (Addr.add ⟨q, 0, none⟩ k) = e0.cells[k]? := fun h hm => rd8 (h.st.kn _ hm).1
    have getW : ∀ {w' : World} {L' : List (Nat × List Value × TypeId)} {K2 : Value → World → Prop}, W2 W w' L' r g S B D N x S → (∀ w2, W2 W w2 L' r g S B D N x S → K2 (.tuple #[e0.v, .int .i64 (getC S a.h)]) w2) → cl Try.prog 18 #[.pointer (some ⟨r, 0, none⟩), .int .i64 a.h] w' K2 := fun {w'} {L'} {K2} h hK2 => by
      obtain ⟨F, g1, _⟩ := h.gr
      refine get_k g1.ws fun w2 hx => ?_
      rw [hge]
      exact hK2 w2 (h.to hx)
    have getX : ∀ {w' : World} {L' : List (Nat × List Value × TypeId)} {K2 : Value → World → Prop}, W2 W w' L' r g S B D N x S → (∀ w2, W2 W w2 L' r g S B D N x S → K2 (.tuple #[e0.v, .int .i64 (getC S a.h)]) w2) → cl Try.prog 64 #[.pointer (some ⟨x, 0, none⟩), .int .i64 a.h] w' K2 := fun {w'} {L'} {K2} h hK2 => by
      obtain ⟨F, _, g2, _⟩ := h.gr
      refine get19_k g2 hG fun w2 hx => ?_
      rw [hge]
      exact hK2 w2 (h.to hx)
    generalize getC S a.h = ec at getW getX
    refine jn_of (fun t w' => ∃ q, t = [.pointer (some ⟨q, 0, none⟩), .int .i64 ec] ∧ W2 W w' ((q, e0.cells, 27) :: [(r1, a.cells, 40), (bk, [.pointer (some ⟨r, 0, none⟩), .pointer (some ⟨x, 0, none⟩)], 97)]) r g S B D N x S) ?_ ?_
    rotate_left
    · intro J85 hJ85
      refine dw_mk ?_
      replace h1 := h1.to (Ext.drew w1)
      obtain ⟨a1, a2, a3⟩ := cA h1
      refine dr_i (ld_mk a2 (asP_i rfl (ld_mk (cH a1) (asI_i rfl ⟨?_, ?_⟩))))
      · refine getW h1 fun w2 h2 => asT_i (l := [e0.v, .int .i64 ec]) rfl rfl (asI8 ?_)
        refine asI_i rfl (asI_i rfl (asI_i rfl (asI_i rfl (asI_i rfl (asI_i rfl (asI_i rfl (asI_i rfl (asI_i rfl ?_))))))))
        exact h2.nw (cs := Ent.zero.cells) fun q w3 h3 => h3.st8 rfl e0 fun w4 h4 => lv_i (hJ85 _ _ ⟨q, rfl, h4⟩)
      · refine h1.nw (cs := Ent.zero.cells) fun q w2 h2 => ?_
        obtain ⟨a1, a2, a3⟩ := cA h2.tail
        refine hd_i (cH a1) (hd_i a2 (getW h2 fun w3 h3 => asT_i (l := [e0.v, .int .i64 ec]) rfl rfl (asI8 ?_)))
        refine asI_i rfl (asI_i rfl (asI_i rfl (asI_i rfl (asI_i rfl (asI_i rfl (asI_i rfl (asI_i rfl (asI_i rfl ?_))))))))
        exact h3.st8 rfl e0 fun w4 h4 => lv_i (hJ85 _ _ ⟨q, rfl, h4⟩)
    rintro _ w2 ⟨q, rfl, h2⟩
    refine asP_i rfl (asI_i rfl ?_)
    refine jn_of (fun t w' => ∃ q2, t = [.pointer (some ⟨q2, 0, none⟩), .int .i64 ec] ∧ W2 W w' ((q2, e0.cells, 27) :: (q, e0.cells, 27) :: [(r1, a.cells, 40), (bk, [.pointer (some ⟨r, 0, none⟩), .pointer (some ⟨x, 0, none⟩)], 97)]) r g S B D N x S) ?_ ?_
    rotate_left
    · intro J144 hJ144
      refine dw_mk ?_
      replace h2 := h2.to (Ext.drew w2)
      obtain ⟨a1, a2, a3⟩ := cA h2.tail
      refine dr_i (ld_mk a3 (asP_i rfl (ld_mk (cH a1) (asI_i rfl ⟨?_, ?_⟩))))
      · refine getX h2 fun w3 h3 => asT_i (l := [e0.v, .int .i64 ec]) rfl rfl (asI8 ?_)
        refine asI_i rfl (asI_i rfl (asI_i rfl (asI_i rfl (asI_i rfl (asI_i rfl (asI_i rfl (asI_i rfl (asI_i rfl ?_))))))))
        exact h3.nw (cs := Ent.zero.cells) fun q2 w4 h4 => h4.st8 rfl e0 fun w5 h5 => lv_i (hJ144 _ _ ⟨q2, rfl, h5⟩)
      · refine h2.nw (cs := Ent.zero.cells) fun q2 w3 h3 => ?_
        obtain ⟨a1, a2, a3⟩ := cA h3.tail.tail
        refine hd_i (cH a1) (hd_i a3 (getX h3 fun w4 h4 => asT_i (l := [e0.v, .int .i64 ec]) rfl rfl (asI8 ?_)))
        refine asI_i rfl (asI_i rfl (asI_i rfl (asI_i rfl (asI_i rfl (asI_i rfl (asI_i rfl (asI_i rfl (asI_i rfl ?_))))))))
        exact h4.st8 rfl e0 fun w5 h5 => lv_i (hJ144 _ _ ⟨q2, rfl, h5⟩)
    rintro _ w3 ⟨q2, rfl, h3⟩
    refine asP_i rfl (asI_i rfl ?_)
    refine jn_of (fun t w' => t = [.bool true] ∧ w' = w3) ?_ ?_
    · rintro _ w3 ⟨rfl, rfl⟩
      exact asB_i rfl (fin w3 _ _ _ _ _ h3.tail.tail hG (by omega) hLi hB (by omega))
    · intro J hJ
      refine dr_i (ld8c (e := e0) (rdE h3 (List.mem_cons_of_mem _ List.mem_cons_self)) (dr_i (ld8c (e := e0) (rdE h3 List.mem_cons_self) (eqEnt hEI (cond_t rfl (hJ _ _ ⟨?_, rfl⟩))))))
      simp
  · refine dw_mk ?_
    replace h1 := h1.to (Ext.drew w1)
    obtain ⟨a1, a2, a3⟩ := cA h1
    refine dr_i (ld_mk a2 (asP_i rfl (ld_mk (cH a1) (asI_i rfl (ld8c (e := a.e) (cE a1) ?_)))))
    refine dr_i (ld_mk a3 (asP_i rfl (ld_mk (cH a1) (asI_i rfl (ld8c (e := a.e) (cE a1) ?_)))))
    refine both_set h1 hG hLi hB (by omega) hI fun c w2 S1 B1 D1 N1 h2 hcall => asI_i rfl ?_
    obtain ⟨a1, a2, a3⟩ := cA h2
    refine hd8c (e := a.e) (cE a1) (hd_i (cH a1) (hd_i a3 (hcall h2 fun w3 h3 hG3 hL3 hB3 hN3 => asI_i rfl ?_)))
    rw [show (c == c) = true from by simp]
    exact fin w3 _ _ _ _ _ h3 hG3 (by omega) hL3 hB3 (by omega)
  · refine cond_split (fun _ => ?_) (fun _ => ?_)
    · refine dw_mk ?_
      replace h1 := h1.to (Ext.drew w1)
      obtain ⟨a1, a2, a3⟩ := cA h1
      have bx : ∀ {w' : World}, (∀ k v, a.cells[k]? = some v → w'.cell? ⟨r1, k, none⟩ = some v) → w'.cell? (Addr.add (Addr.add ⟨r1, 0, none⟩ 2) 1) = some (.int .i64 a.e.x) ∧ w'.cell? (Addr.add (Addr.add (Addr.add ⟨r1, 0, none⟩ 2) 1) 1) = some (.int .i64 a.e.y) ∧ w'.cell? (Addr.add (Addr.add (Addr.add ⟨r1, 0, none⟩ 2) 1) 2) = some (.int .i64 a.e.r) := fun hc => by
        refine ⟨?_, ?_, ?_⟩
        · rw [add_mk, add_mk]; exact hc 3 _ rfl
        · rw [add_mk, add_mk, add_mk]; exact hc 4 _ rfl
        · rw [add_mk, add_mk, add_mk]; exact hc 5 _ rfl
      obtain ⟨b1, b2, b3⟩ := bx a1
      refine dr_i (ld_mk a2 (asP_i rfl (ld_mk b1 (asI_i rfl (ld_mk b2 (asI_i rfl (ld_mk b3 (asI_i rfl ?_))))))))
      have h10 := h1
      obtain ⟨F, g1, g2, g3, g4⟩ := h1.gr
      have h64 := g1.ws.len
      have hml := metL_len (B := B) (b := a.e.box) g1.bd (cellsL' wside a.e.box)
      have hcl := cells_len (s := wside) (b := a.e.box)
      have hmul : (cellsL' wside a.e.box).length * N ≤ 1024 * 1000000000 := Nat.mul_le_mul hcl hN
      refine wnear_k g1 hN (b := a.e.box) (hLi.key_lt h64) (fun hb0 => hLi.keys h64 hb0) (by omega) fun p c w2 hx2 hr2 => ?_
      replace h1 := h1.to hx2
      refine asT_i rfl rfl (asS_i rfl (asI_i rfl (lv_i (dw_mk ?_))))
      have hxd := Ext.drew w2
      replace h1 := h1.to hxd
      replace hr2 := hr2.ext hxd fun _ _ h => h
      obtain ⟨a1, a2, a3⟩ := cA h1
      obtain ⟨b1, b2, b3⟩ := bx a1
      obtain ⟨F', g1', g2', g3', g4'⟩ := h1.gr
      refine dr_i (ld_mk a3 (asP_i rfl (ld_mk b1 (asI_i rfl (ld_mk b2 (asI_i rfl (ld_mk b3 (asI_i rfl ?_))))))))
      refine near19_k g2' (b := a.e.box) fun q c' w3 hx3 hr3 => ?_
      refine asT_i rfl rfl (asS_i rfl (asI_i rfl (lv_i ?_)))
      have hl0 := fun b0 hb0 => (hr2.at (a := b0) hb0)
      have hap : Apart q p := fun c1 c2 e1 e2 e => by
        have := (hr3.at e1).1
        have := (hl0 c2 e2).2
        omega
      replace hr2 := hr2.ext hx3 fun _ _ h => h
      have hx03 := (hx2.trans hxd).trans hx3
      have hlo : (outW S a.e.box).length ≤ 64 := by
        unfold outW
        split
        · rw [List.length_map]
          have := List.length_filter_le (pT S a.e.box) (List.range 64)
          simpa using this
        · simp
      generalize outW S a.e.box = l at *
      refine jn_of (fun t w' => t = [.bool false] ∧ w' = w3) ?_ ?_
      rotate_left
      · intro J hJ
        refine cond_f (by simp) (hJ _ _ ⟨by simp, rfl⟩)
      rintro _ w3 ⟨rfl, rfl⟩
      refine asB_i rfl (cond_f rfl (lv_i ?_))
      refine lp_mk (fun i : Nat => [.int .i64 (i : Int)]) (fun m i w' => m = l.length - i ∧ i ≤ l.length ∧ Ext (blocks p) w3 w' ∧ ∃ vs, Row w' w1.drew.heap.size 3 p c vs ∧ vs.length = l.length ∧ ∀ j, i ≤ j → vs[j]? = (iv .i64 l)[j]?) l.length 0 rfl
        ⟨rfl, Nat.zero_le _, Ext.refl _ _, _, hr2, by rw [iv_length], fun _ _ => rfl⟩ ?_
      rintro _ i w4 ⟨rfl, hi, hx4, vs, hr4, hvl, hvs⟩ J hJ
      refine asI_i rfl (cond_split (fun hc => ?_) (fun _ => hJ5 _ _ ?_))
      · have hil : i < l.length := by
          have := of_decide_eq_true hc
          omega
        have ei : IntKind.wrap .i64 ((i : Int) + 1) = ((i + 1 : Nat) : Int) := by rw [wr64 (by omega) (by omega)]; omega
        have hvi : (iv .i64 l)[i]? = some (.int .i64 l[i]) := by simp [iv, hil]
        generalize l[i] = z at *
        have hxe := Ext.drew w4
        have hrd := hr4.ext hxe fun _ _ h => h
        refine dw_mk ?_
        rw [ei]
        refine hrd.reads.at (i := (i : Int)) (v := .int .i64 z) (by omega) (by rw [Int.toNat_natCast, hvs i (Nat.le_refl _)]; exact hvi) (asI_i rfl ?_) (by omega)
        have hb1 : Reads w4.drew q (iv .i64 l) := (hr3.reads.ext hx4 fun b0 hb0 ⟨c2, hc2, e⟩ => hap b0 c2 hb0 hc2 e.symm).ext hxe fun _ _ h => h
        refine hb1.at (i := (i : Int)) (v := .int .i64 z) (by omega) (by rw [Int.toNat_natCast]; exact hvi) (asI_i rfl ?_) (by rw [iv_length]; exact Nat.le_refl _)
        refine cond_f (by simp) ?_
        refine hrd.st (i := (i : Int)) (n := l.length) (u := .int .i64 (-7)) (by omega) (by simp; omega) (by omega) rfl fun w5 hr5 hx5 _ => lv_i ?_
        refine hJ (l.length - (i + 1)) (i + 1) w5 (by omega) ⟨rfl, hil, (hx4.trans (Ext.of_no hxe)).trans hx5, _, hr5, by simpa using hvl, fun j hj => ?_⟩
        rw [List.getElem?_set_ne (by simp; omega)]
        exact hvs j (by omega)
      · have hx04 : Ext no w1.drew w4 := hx03.then hx4 fun k hk ⟨b0, hb0, hab⟩ => by
          have := (hl0 b0 hb0).1
          omega
        exact fin w4 _ _ _ _ _ (h10.to hx04) hG (by omega) hLi hB (by omega)
    · refine jn_of (fun t w' => ∃ b, t = [.bool b] ∧ w' = w1) ?_ ?_
      rotate_left
      · intro J hJ
        exact cond_split (fun _ => hJ _ _ ⟨_, rfl, rfl⟩) (fun _ => hJ _ _ ⟨_, rfl, rfl⟩)
      rintro _ w1 ⟨b5, rfl, rfl⟩
      refine asB_i rfl (cond_split (fun _ => ?_) (fun _ => ?_))
      rotate_left
      · exact hJ5 _ _ (fin _ _ _ _ _ _ h1 hG (by omega) hLi hB (by omega))
      obtain ⟨a1, a2, a3⟩ := cA h1
      refine dr_i (ld_mk a2 (asP_i rfl ?_))
      obtain ⟨F, g1, g2, g3, g4⟩ := h1.gr
      refine clone_k g1 hG fun w2 F2 r2 gg2 B2 D2 hW2 hL2 hB2 hx2 hF2 hr2 => asP_i rfl (cond_f rfl ?_)
      have h2 := h1.to hx2
      obtain ⟨b1, b2, b3⟩ := cA h2
      refine dr_i (ld_mk b2 (asP_i rfl ?_))
      have hsz := h1.st.ext.size
      have hLlt : ∀ b ∈ [(r1, a.cells, 40), (bk, [Value.pointer (some ⟨r, 0, none⟩), .pointer (some ⟨x, 0, none⟩)], 97)], b.1 < w1.heap.size := fun b hb => blk_lt (h1.st.kn b hb).1
      have hr1l : r1 < w1.heap.size := hLlt _ List.mem_cons_self
      have hbkl : bk < w1.heap.size := hLlt _ (List.mem_cons_of_mem _ List.mem_cons_self)
      have hxl := blk_lt g2.blk
      have hold : ∀ k, wF F r k → k < w1.heap.size := fun k hk => by
        rcases hk with hk | hk
        · exact g1.f_lt k hk
        · have := g1.r_lt
          omega
      have hnew : ∀ k, wF F2 r2 k → w1.heap.size ≤ k := fun k hk => by
        rcases hk with hk | hk
        · exact hF2 k hk
        · omega
      refine jn_of (fun t w' => ∃ rk gk Fk Bk Dk ro go Fo So Bo Do, t = [.pointer (some ⟨ro, 0, none⟩)] ∧ Wd w' Fk rk gk S Bk Dk (N + 65536) ∧ Wd w' Fo ro go So Bo Do (N + 65536) ∧ XW w' x S ∧ Lies S Bk Dk ∧ (Bk.map (·.1)).Nodup ∧
        St W w' [(r1, a.cells, 40), (bk, [.pointer (some ⟨rk, 0, none⟩), .pointer (some ⟨x, 0, none⟩)], 97)] ∧ ¬ wF Fk rk x ∧ (∀ k, (wF Fk rk k ∨ k = x) → W.heap.size ≤ k ∧ r1 ≠ k ∧ bk ≠ k) ∧ (∀ k, wF Fo ro k → W.heap.size ≤ k ∧ ¬ wF Fk rk k ∧ k ≠ x ∧ r1 ≠ k ∧ bk ≠ k)) ?_ ?_
      · rintro _ w3 ⟨rk, gk, Fk, Bk, Dk, ro, go, Fo, So, Bo, Do, rfl, c1, c2, c3, c4, c5, c6, c7, c8, c9⟩
        refine asP_i rfl ?_
        refine spawn_any c2 (by omega) (e := ⟨0, 0, 0, 1, 0, 0, 0, 0⟩) fun w4 F4 S4 B4 D4 x4 y4 hW4 hx4 hF4 => ?_
        refine asT_i (l := [.int .i64 x4, .int .i64 y4]) rfl rfl (asI_i rfl (asI_i rfl ?_))
        have hst4 := c6.toX hx4 (fun k hk => (c9 k hk).1) (fun b hb hk => by
          have := c9 _ hk
          rcases List.mem_cons.1 hb with rfl | hb
          · exact this.2.2.2.1 rfl
          · rw [List.mem_singleton.1 hb] at this
            exact this.2.2.2.2 rfl)
        have hr14 : w4.cell? (Addr.add ⟨r1, 0, none⟩ 1) = some (.int .i64 a.h) := by
          rw [add_mk, blk_cell (hst4.kn _ List.mem_cons_self).1]
          rfl
        refine ld_mk hr14 (asI_i rfl ?_)
        refine kill_any hW4 (by omega) fun w5 x5 hx5 => asI_i rfl (hJ5 _ _ ?_)
        have hx35 : Ext (wF Fo ro) w3 w5 := hx4.then hx5 fun k hk hkF => by
          rcases hkF with hkF | hkF
          · rcases hF4 k hkF with h | h
            · exact .inl h
            · omega
          · exact .inr hkF
        have hst5 := c6.toX hx35 (fun k hk => (c9 k hk).1) (fun b hb hk => by
          have := c9 _ hk
          rcases List.mem_cons.1 hb with rfl | hb
          · exact this.2.2.2.1 rfl
          · rw [List.mem_singleton.1 hb] at this
            exact this.2.2.2.2 rfl)
        have hk5 : W2 W w5 [(r1, a.cells, 40), (bk, [.pointer (some ⟨rk, 0, none⟩), .pointer (some ⟨x, 0, none⟩)], 97)] rk gk S Bk Dk (N + 65536) x S := by
          refine ⟨hst5, Fk, c1.ext hx35 (fun k hk hko => (c9 k hko).2.1 hk), c3.ext hx35 (fun hko => (c9 x hko).2.2.1 rfl), c7, fun k hk => ⟨(c8 k hk).1, fun b hb => ?_⟩⟩
          rcases List.mem_cons.1 hb with rfl | hb
          · exact (c8 k hk).2.1
          · rw [List.mem_singleton.1 hb]
            exact (c8 k hk).2.2
        exact hK _ rk gk S Bk Dk ⟨hk5.tail.mono (by omega), hG.mono (by omega), c4, c5⟩
      · intro J hJ
        obtain ⟨F', e1, e2, e3, e4⟩ := h2.gr
        have hWo := g1.ext hx2 fun _ _ h => h
        have hXo := g2.ext hx2 fun h => h
        refine ld_mk (b1 0 _ rfl) (asI_i rfl (cond_split (fun _ => dr_i ?_) (fun _ => ?_)))
        · refine h2.st.stj 1 rfl (j := 0) rfl rfl fun w3 hst3 hx3 => hJ _ _ ?_
          refine ⟨r2, gg2, F2, B2, D2, r, g, F, S, B, D, rfl, ?_, ?_, ?_, hL2, hB2, hst3, fun h => ?_, fun k hk => ?_, fun k hk => ?_⟩
          · refine (hW2.ext hx3 fun k hk e => ?_).mono (by omega)
            have e' : k = bk := e
            have := hnew k hk
            omega
          · refine (hWo.ext hx3 fun k hk e => ?_).mono (by omega)
            have e' : k = bk := e
            exact (g4 k (.inl hk)).2 _ (List.mem_cons_of_mem _ List.mem_cons_self) e'.symm
          · refine hXo.ext hx3 fun e => ?_
            have e' : x = bk := e
            exact (g4 x (.inr rfl)).2 _ (List.mem_cons_of_mem _ List.mem_cons_self) e'.symm
          · have := hnew x h
            omega
          · rcases hk with hk | hk
            · have := hnew k hk
              omega
            · have h4 := g4 k (.inr hk)
              exact ⟨h4.1, h4.2 _ List.mem_cons_self, h4.2 _ (List.mem_cons_of_mem _ List.mem_cons_self)⟩
          · have h4 := g4 k (.inl hk)
            refine ⟨h4.1, fun h => ?_, fun e => g3 (e ▸ hk), h4.2 _ List.mem_cons_self, h4.2 _ (List.mem_cons_of_mem _ List.mem_cons_self)⟩
            have := hnew k h
            have := hold k hk
            omega
        · refine hJ _ _ ⟨r, g, F, B, D, r2, gg2, F2, S, B2, D2, rfl, hWo.mono (by omega), hW2.mono (by omega), hXo, hLi, hB, h2.st, g3, fun k hk => ?_, fun k hk => ?_⟩
          · have h4 := g4 k hk
            exact ⟨h4.1, h4.2 _ List.mem_cons_self, h4.2 _ (List.mem_cons_of_mem _ List.mem_cons_self)⟩
          · have := hnew k hk
            refine ⟨by omega, fun h => ?_, by omega, by omega, by omega⟩
            have := hold k h
            omega
end Go.Proofs.Ytamobmjfdiecbaa

/- WoL6: the law WorldPlays comes out true for every input. Conditions: those of the law's arguments as they are read. -/
namespace Go.Proofs.Ytamobmjfdiecbaa
open Go Go.Sx Go.Fp
attribute [local irreducible] jn lv ld st nw asI asB asP asS asY asM asF asA asT lp rn ru rq cl dw dr bnd bn2 nz nn hd hr so eqW
attribute [local irreducible] callOk

theorem add_add' (A : Addr) (m n : Nat) : Addr.add (Addr.add A m) n = Addr.add A (m + n) := by
  by_cases hm : m = 0 <;> by_cases hn : n = 0 <;> simp [Addr.add, hm, hn, Nat.add_assoc]

/-- eight places of a row are written over -/
theorem _root_.Go.Sx.RowN.st8 {w : World} {base : Nat} {e : TypeId} {p : Option Addr} {c n : Nat} {xs : List Value} (h : RowN w base e 8 p c n xs) {i : Nat} (hi : i < n) (v : Nat → Int) {K : World → Prop}
    (hK : ∀ w' ys, RowN w' base e 8 p c n ys → Ext (blocks p) w w' → K w') {a : Addr} (ha : p = some a) :
    Sx.st w (Addr.add a (i * 8)) (.int .i64 (v 0)) fun w1 => Sx.st w1 (Addr.add (Addr.add a (i * 8)) 1) (.int .i64 (v 1)) fun w2 => Sx.st w2 (Addr.add (Addr.add a (i * 8)) 2) (.int .i64 (v 2)) fun w3 => Sx.st w3 (Addr.add (Addr.add a (i * 8)) 3) (.int .i64 (v 3)) fun w4 =>
      Sx.st w4 (Addr.add (Addr.add a (i * 8)) 4) (.int .i64 (v 4)) fun w5 => Sx.st w5 (Addr.add (Addr.add a (i * 8)) 5) (.int .i64 (v 5)) fun w6 => Sx.st w6 (Addr.add (Addr.add a (i * 8)) 6) (.int .i64 (v 6)) fun w7 => Sx.st w7 (Addr.add (Addr.add a (i * 8)) 7) (.int .i64 (v 7)) fun w8 => K w8 := by
  simp only [add_add']
  have hl := h.len
  refine h.st (by omega) rfl (fun w1 h1 x1 _ => ?_) ha
  refine h1.st (by have := h1.len; omega) rfl (fun w2 h2 x2 _ => ?_) ha
  refine h2.st (by have := h2.len; omega) rfl (fun w3 h3 x3 _ => ?_) ha
  refine h3.st (by have := h3.len; omega) rfl (fun w4 h4 x4 _ => ?_) ha
  refine h4.st (by have := h4.len; omega) rfl (fun w5 h5 x5 _ => ?_) ha
  refine h5.st (by have := h5.len; omega) rfl (fun w6 h6 x6 _ => ?_) ha
  refine h6.st (by have := h6.len; omega) rfl (fun w7 h7 x7 _ => ?_) ha
  refine h7.st (by have := h7.len; omega) rfl (fun w8 h8 x8 _ => hK w8 _ h8 ?_) ha
  exact (((((((x1.trans x2).trans x3).trans x4).trans x5).trans x6).trans x7).trans x8)

theorem _root_.Go.Sx.RowN.to_dr {w : World} {base : Nat} {e : TypeId} {s : Nat} {p : Option Addr} {c n : Nat} {xs : List Value} (h : RowN w base e s p c n xs) (hn : 0 < n) {K : Addr → Prop} (hK : ∀ a, p = some a → K a) : dr p K := by
  cases p with
  | none => have := (h.none rfl).1; omega
  | some a => exact dr_i (hK a rfl)

theorem listS_I {n : Nat} {S : List Spot} (hG : Good n S) : ∀ e ∈ listS S, e.I := fun e he => by
  obtain ⟨m, s, hs, ht, rfl⟩ := listS_mem he
  exact ((hG m s hs).2.2.2 ht).2.2.2

set_option maxHeartbeats 4000000 in
set_option maxRecDepth 100000 in
theorem worldPlays_law (W : World) (p0 : Option Addr) (len cap : Nat) (z : List (List Value)) (R : Reads W p0 z.flatten) (hL : z.length = len)
    (F0 : ∀ c ∈ z, FitsAll [.int .i64, .int .i64, .int .i64, .int .i64, .int .i64, .int .i64, .int .i64, .int .i64, .int .i64, .int .i64] c) (Y : len * 80 ≤ 140737488351232) :
    cl Try.prog 12 #[.slice p0 len cap] W fun v w' => v = .bool true ∧ Ext no W w' := by
  obtain ⟨es, hz, hl, hI⟩ := acts_of F0
  rw [hz] at R
  rw [hL] at hl
  clear hz hL F0
  apply F12_calls
  unfold F12
  refine wawake_k fun w2 hx2 => asB_i rfl ?_
  refine wnew_k fun w5 F r g hw hx5 hF hr => asP_i rfl (nw_mk ?_)
  have hxa := Ext.alloc w5 (.cells (xw (List.replicate 64 Spot.zero)).toArray 95)
  have z2 := hx2.size
  have z5 := hx5.size
  have hW2 : W2 W (w5.alloc (.cells (xw (List.replicate 64 Spot.zero)).toArray 95)) [] r g (List.replicate 64 Spot.zero) [] [] 0 w5.heap.size (List.replicate 64 Spot.zero) := by
    refine ⟨(((St.start W).to hx2).to hx5).to hxa, F, hw.ext hxa fun _ _ h => h, ⟨new_blk w5 _, by simp⟩, fun h => ?_, fun k hk => ⟨?_, by simp⟩⟩
    · rcases h with h | h
      · have := hw.f_lt _ h
        omega
      · have := hw.r_lt
        omega
    · rcases hk with (hk | hk) | hk
      · have := hF k hk
        omega
      · omega
      · omega
  have eX : (xw (List.replicate 64 Spot.zero)) = xw (List.replicate 64 Spot.zero) := rfl
  refine hW2.nw (cs := [.pointer (some ⟨r, 0, none⟩), .pointer (some ⟨w5.heap.size, 0, none⟩)]) fun bk w10 h10 => ?_
  generalize w5.heap.size = x at h10 ⊢
  clear hW2 eX hxa z2 z5 hw hx5 hF hr hx2
  have cB : ∀ {w' : World} {r' g' : Nat} {S' T' : List Spot} {B' : List (Int × Bx)} {D' : List ((Int × Int) × List Int)} {N' : Nat}, W2 W w' [(bk, [.pointer (some ⟨r', 0, none⟩), .pointer (some ⟨x, 0, none⟩)], 97)] r' g' S' B' D' N' x T' →
      w'.cell? ⟨bk, 0, none⟩ = some (.pointer (some ⟨r', 0, none⟩)) ∧ w'.cell? (Addr.add ⟨bk, 0, none⟩ 1) = some (.pointer (some ⟨x, 0, none⟩)) := by
    intro w' r' g' S' T' B' D' N' h
    refine ⟨?_, ?_⟩
    · rw [blk_cell (h.st.kn _ List.mem_cons_self).1]
      rfl
    · rw [add_mk, blk_cell (h.st.kn _ List.mem_cons_self).1]
      rfl
  refine jn_of (fun t w' => t = [.bool false] ∧ w' = w10) ?_ ?_
  rotate_left
  · intro J hJ
    exact cond_f rfl (ld_mk (cB h10).1 (asP_i rfl (hJ _ _ ⟨rfl, rfl⟩)))
  rintro _ w10 ⟨rfl, rfl⟩
  refine asB_i rfl (cond_f rfl (lv_i ?_))
  refine lp_mk (fun i : Nat => [.int .i64 (i : Int)]) (fun m i w' => m = len - i ∧ i ≤ len ∧ i ≤ 300 ∧ ∃ r g S B D, Bw W w' bk r g S B D (70000 * i) x i) len 0 rfl
    ⟨rfl, Nat.zero_le _, Nat.zero_le _, r, g, _, _, _, h10, Good.zero, Lies.zero, by simp⟩ ?_
  clear h10 w10 g r
  rintro _ i w19 ⟨rfl, hi, hi3, r, g, S, B, D, hBw⟩ J hJ
  refine asI_i rfl ?_
  refine jn_of (fun s w' => ∃ b, s = [.bool b] ∧ w' = w19 ∧ (b = true → i < len ∧ i < 300)) ?_ ?_
  rotate_left
  · intro J2 hJ2
    refine cond_split (fun h1 => hJ2 _ _ ⟨_, rfl, rfl, fun h2 => ?_⟩) (fun _ => hJ2 _ _ ⟨_, rfl, rfl, fun h => by cases h⟩)
    have := of_decide_eq_true h1
    have := of_decide_eq_true h2
    omega
  rintro _ w23 ⟨b0, rfl, rfl, hb⟩
  refine asB_i rfl (cond_split (fun h => ?_) (fun _ => ⟨rfl, hBw.two.st.ext⟩))
  obtain ⟨hl1, hl2⟩ := hb h
  clear hb h b0
  have he : es[i]? = some es[i] := List.getElem?_eq_getElem (by omega)
  have hIe := hI _ (List.getElem_mem (by omega : i < es.length))
  generalize es[i] = a at he hIe
  have ei : IntKind.wrap .i64 ((i : Int) + 1) = ((i + 1 : Nat) : Int) := by rw [wr64 (by omega) (by omega)]; omega
  have rd : ∀ {w' : World}, Ext no W w' → ∀ {K : Addr → Prop}, (∀ a', p0 = some a' → (∀ k, k < 10 → w'.cell? (Addr.add (Addr.add a' (i * 10)) k) = a.cells[k]?) → K a') → dr p0 fun a' => bnd (i : Int) len (K a') := fun hx K hK => Reads.atN (f := Act.cells) Act.cells_length (Reads.no hx R) hl he (by decide) hK
  have c8 : ∀ {w' : World} {A : Addr}, (∀ k, k < 10 → w'.cell? (Addr.add A k) = a.cells[k]?) → ∀ k, k < 8 → w'.cell? (Addr.add (Addr.add A 2) k) = a.e.cells[k]? := fun {w' A} hc k hk => by
    rw [add_add', Nat.add_comm 2 k, hc (k + 2) (by omega)]
    show (Value.int .i64 a.k :: Value.int .i64 a.h :: a.e.cells)[k + 1 + 1]? = _
    rw [List.getElem?_cons_succ, List.getElem?_cons_succ]
  rw [ei, Int.toNat_natCast]
  refine rd hBw.two.st.ext fun a1 ha1 hc1 => ?_
  have h0 := hc1 0 (by decide)
  rw [Sx.add_zero'] at h0
  refine ld_mk h0 (asI_i rfl (ld_mk (hc1 1 (by decide)) (asI_i rfl (ld_mk (hc1 2 (by decide)) (asI_i rfl (ld_mk (hc1 3 (by decide)) (asI_i rfl (ld_mk (hc1 4 (by decide)) (asI_i rfl (ld_mk (hc1 5 (by decide)) (asI_i rfl (ld_mk (hc1 6 (by decide)) (asI_i rfl (ld_mk (hc1 7 (by decide)) (asI_i rfl (ld_mk (hc1 8 (by decide)) (asI_i rfl (ld_mk (hc1 9 (by decide)) (asI_i rfl ?_)))))))))))))))))))
  refine wdoes_k hBw (by omega) (by omega) (a := a) hIe fun w48 r' g' S' B' D' hB' => asB_i rfl ?_
  clear hBw h0 hc1 ha1 a1 r g S B D
  have h2 := hB'.two
  have hlI := listS_I hB'.good
  have hll := listS_len S'
  have h64 : (listS S').length ≤ 64 := by
    obtain ⟨F, g1, _⟩ := h2.gr
    have := g1.ws.len
    omega
  refine ld_mk (cB h2).1 (asP_i rfl ?_)
  obtain ⟨F, g1, g2, _⟩ := h2.gr
  refine list_k g1.ws fun p c w53 hx53 hr1 => asS_i rfl ?_
  have h53 := h2.to hx53
  refine ld_mk (cB h53).2 (asP_i rfl ?_)
  refine list19_k (g2.ext hx53 fun h => h) fun q c' w60 hx60 hr2 => asS_i rfl ?_
  have hap : Apart q p := fun c1 c2 e1 e2 e => by
    have := (hr2.at e1).1
    have := (hr1.at e2).2
    omega
  have hr1' := hr1.ext hx60 fun _ _ h => h
  refine rsame_k hlI hr1'.reads hr2.reads rfl rfl (by omega) fun w65 hx65 => asB_i rfl (lv_i ?_)
  have hr1b := hr1'.ext hx65 fun _ _ h => h
  have hr2b := hr2.ext hx65 fun _ _ h => h
  have hx4865 := (hx53.trans hx60).trans hx65
  refine lp_mk (fun j : Nat => [.int .i64 (j : Int)]) (fun m j w' => m = (listS S').length - j ∧ j ≤ (listS S').length ∧ Ext (blocks p) w65 w' ∧ ∃ ys, RowN w' w48.heap.size 27 8 p c (listS S').length ys) (listS S').length 0 rfl
    ⟨rfl, Nat.zero_le _, Ext.refl _ _, _, hr1b⟩ ?_
  rintro _ j w69 ⟨rfl, hj, hx69, ys, hr69⟩ J2 hJ2
  refine asI_i rfl (cond_split (fun hc => ?_) (fun _ => ?_))
  · have hjl : j < (listS S').length := by
      have := of_decide_eq_true hc
      omega
    have ej : IntKind.wrap .i64 ((j : Int) + 1) = ((j + 1 : Nat) : Int) := by rw [wr64 (by omega) (by omega)]; omega
    refine hr69.to_dr (by omega) fun a1 ha1 => bnd_mk (by omega) (by omega) ?_
    rw [Int.toNat_natCast]
    refine hr69.st8 hjl (fun k => if k = 0 then -7 else 0) (fun w80 ys' hr80 hx80 => lv_i ?_) ha1
    rw [ej]
    exact hJ2 ((listS S').length - (j + 1)) (j + 1) w80 (by omega) ⟨rfl, hjl, hx69.trans hx80, ys', hr80⟩
  · have hx4869 : Ext no w48 w69 := hx4865.then hx69 fun k hk ⟨b0, hb0, hab⟩ => by
      have := (hr1.at hb0).1
      omega
    have h69 := h2.to hx4869
    have hq69 : Reads w69 q ((listS S').flatMap Ent.cells) := (hr2b.keep hx69 hap).reads
    refine ld_mk (cB h69).1 (asP_i rfl ?_)
    obtain ⟨F', g1', g2', _⟩ := h69.gr
    refine list_k g1'.ws fun p2 c2 w85 hx85 hr85 => asS_i rfl ?_
    refine rsame_k hlI hr85.reads (Reads.no hx85 hq69) rfl rfl (by omega) fun w90 hx90 => asB_i rfl ?_
    have h90 := (h69.to hx85).to hx90
    refine jn_of (fun t w' => t = [.bool false] ∧ Ext no w90 w') ?_ ?_
    · rintro _ w93 ⟨rfl, hx93⟩
      refine asB_i rfl (cond_f rfl (lv_i ?_))
      refine hJ (len - (i + 1)) (i + 1) w93 (by omega) ⟨rfl, by omega, by omega, r', g', S', B', D', (h90.to hx93).mono (by omega), hB'.good, hB'.lies, hB'.nd⟩
    · intro J3 hJ3
      refine dw_mk ?_
      have hxd := Ext.drew w90
      refine cond_f rfl (cond_f rfl (cond_f rfl ?_))
      have hX := h90.st.ext.trans hxd
      refine rd hX fun a1 ha1 hc1 => ?_
      refine ld8c (c8 hc1) ?_
      refine rd hX fun a2 ha2 hc2 => ?_
      refine ld8c (c8 hc2) ?_
      refine eright_k (e := a.e) fun w131 hx131 => asI_i rfl ?_
      have hc3 : ∀ k, k < 8 → w131.cell? (Addr.add (Addr.add (Addr.add a2 (i * 10)) 2) k) = a.e.cells[k]? := by
        rw [ha1] at ha2
        cases ha2
        rcases R with h0 | ⟨b, o, e, hcr⟩
        · have := fl_lenN (f := Act.cells) Act.cells_length es
          rw [h0] at this
          simp at this
          omega
        · intro k hk
          rw [ha1] at e
          cases e
          have h1 := c8 hc2 k hk
          have h2 : a.e.cells[k]? = some (a.e.cells[k]'hk) := List.getElem?_eq_getElem hk
          rw [h2] at h1 ⊢
          exact hx131.cell h1 fun h => h
      refine hd8c hc3 ?_
      refine rright19_k (e := a.e) fun w134 hx134 => asI_i rfl (hJ3 _ _ ⟨?_, (hxd.trans hx131).trans hx134⟩)
      simp
end Go.Proofs.Ytamobmjfdiecbaa
