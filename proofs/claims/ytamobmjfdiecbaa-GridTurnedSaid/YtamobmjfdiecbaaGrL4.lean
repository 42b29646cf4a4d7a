/- GrL4: the law GridTurned comes out true for every input. Conditions: those of the law's arguments as they are read. -/
import Derived.Test.YtamobmjfdiecbaaGrT
namespace Go.Proofs.Ytamobmjfdiecbaa
open Go Go.Sx Go.Fp
attribute [local irreducible] jn lv ld st nw asI asB asP asS asY asM asF asA asT lp rn ru rq cl dw dr bnd bn2 nz nn hd hr so eqW
attribute [local irreducible] callOk

theorem boxes_of {ls : List Lf} (hl : ls = [.int .i64, .int .i64, .int .i64]) : ∀ {R : List (List Value)}, (∀ c ∈ R, FitsAll ls c) → ∃ es : List Bx, R.flatten = es.flatMap Bx.cells ∧ es.length = R.length
  | [], _ => ⟨[], rfl, rfl⟩
  | c :: R, h => by
    subst hl
    obtain ⟨e, rfl, _⟩ := bx_of' (h c List.mem_cons_self)
    obtain ⟨es, h1, h2⟩ := boxes_of rfl (R := R) fun c hc => h c (List.mem_cons_of_mem _ hc)
    exact ⟨e :: es, by rw [List.flatten_cons, h1]; rfl, by simp [h2]⟩
theorem Bx.cells_length' (b : Bx) : b.cells.length = 3 := rfl

/-- a box out of a list -/
theorem box_at {w : World} {l : Option Addr} {bs : List Bx} {n i : Nat} {b : Bx} (h : Reads w l (bs.flatMap Bx.cells)) (hn : bs.length = n) (hb : bs[i]? = some b) {K : Int → Int → Int → Prop} (hK : K b.x b.y b.r) :
    dr l fun a => bnd (i : Int) n (ld w (Addr.add a (i * 3)) fun v1 => asI .i64 v1 fun x1 => ld w (Addr.add (Addr.add a (i * 3)) 1) fun v2 => asI .i64 v2 fun x2 => ld w (Addr.add (Addr.add a (i * 3)) 2) fun v3 => asI .i64 v3 fun x3 => K x1 x2 x3) := by
  refine Reads.atN (f := Bx.cells) (s := 3) Bx.cells_length' h hn hb (by decide) fun a _ hc => ?_
  have h0 := hc 0 (by decide)
  rw [Sx.add_zero'] at h0
  exact ld_mk h0 (asI_i rfl (ld_mk (hc 1 (by decide)) (asI_i rfl (ld_mk (hc 2 (by decide)) (asI_i rfl hK)))))

/-- which boxes are to be there -/
def want (s : Int) (ls : Nat → Bx) (lo hi : Nat) (x : Int) : Option Bx := if (lo : Int) ≤ x ∧ x < (hi : Int) ∧ cellsE s (ls x.toNat) = 0 then some (ls x.toNat) else none

theorem want_up {s : Int} {ls : Nat → Bx} {i : Nat} {B : List (Int × Bx)} (h : ∀ x, aget B x = want s ls 0 i x) (x : Int) : aget (gputB s B (i : Int) (ls i)) x = want s ls 0 (i + 1) x := by
  have hE : gputE s B (i : Int) (ls i) = cellsE s (ls i) := by
    unfold gputE
    rw [if_neg (by omega), h, if_neg]
    unfold want
    rw [if_neg (by omega)]
    simp
  rw [get_put, hE, h]
  by_cases hx : x = (i : Int)
  · subst hx
    unfold want
    rw [Int.toNat_natCast]
    by_cases h0 : cellsE s (ls i) = 0
    · rw [if_pos ⟨h0, rfl⟩, if_pos ⟨by omega, by omega, h0⟩]
    · rw [if_neg (fun hh => h0 hh.1), if_neg (by omega), if_neg (fun hh => h0 hh.2.2)]
  · rw [if_neg (fun hh => hx hh.2)]
    unfold want
    by_cases h1 : ((0 : Nat) : Int) ≤ x ∧ x < (i : Int) ∧ cellsE s (ls x.toNat) = 0
    · rw [if_pos h1, if_pos ⟨h1.1, by omega, h1.2.2⟩]
    · rw [if_neg h1, if_neg (fun hh => h1 ⟨hh.1, by omega, hh.2.2⟩)]

theorem want_down {s : Int} {ls : Nat → Bx} {k hi : Nat} (hk : k < hi) {B : List (Int × Bx)} (h : ∀ x, aget B x = want s ls (k + 1) hi x) {B' : List (Int × Bx)} (h' : ∀ x, aget B' x = if x = (k : Int) then (if cellsE s (ls k) = 0 then some (ls k) else none) else aget B x) (x : Int) : aget B' x = want s ls k hi x := by
  rw [h', h]
  by_cases hx : x = (k : Int)
  · subst hx
    unfold want
    rw [Int.toNat_natCast, if_pos rfl]
    by_cases h0 : cellsE s (ls k) = 0
    · rw [if_pos h0, if_pos ⟨by omega, by omega, h0⟩]
    · rw [if_neg h0, if_neg (fun hh => h0 hh.2.2)]
  · rw [if_neg hx]
    unfold want
    by_cases h1 : ((k + 1 : Nat) : Int) ≤ x ∧ x < (hi : Int) ∧ cellsE s (ls x.toNat) = 0
    · rw [if_pos h1, if_pos ⟨by omega, h1.2⟩]
    · rw [if_neg h1, if_neg (fun hh => h1 ⟨by omega, hh.2⟩)]

set_option maxHeartbeats 2000000 in
theorem gridTurned_law (W : World) (s : Int) (_hs : (Lit.int .i64 s).wf = true) (l : Option Addr) (len cap : Nat) (z : List (List Value)) (R : Reads W l z.flatten) (hL : z.length = len) (F0 : ∀ c ∈ z, FitsAll [.int .i64, .int .i64, .int .i64] c) (Y : len * 24 ≤ 140737488351232)
    (z2 : List Value) (F2 : FitsAll [.int .i64, .int .i64, .int .i64] z2) :
    cl Try.prog 10 #[.int .i64 s, .slice l len cap, .agg z2.toArray] W fun v w' => v = .bool true ∧ Ext no W w' := by
  obtain ⟨bs, hz, hl⟩ := boxes_of rfl F0
  rw [hz] at R
  rw [hL] at hl
  clear hz hL F0
  obtain ⟨b, rfl, _⟩ := bx_of' F2
  apply F10_calls
  unfold F10
  have hS := St.start W
  (refine St.nw hS ?_; clear hS; intro r1 _ hS)
  refine gawake_k fun w2 hx2 => asB_i rfl ?_
  replace hS := hS.to hx2
  refine gnew_k (fun hbad => ?_) (fun w3 F g mb mc hso hg hx3 hF => ?_)
  · refine asT_i rfl rfl (asP_i rfl (asI_i rfl (lv_i ?_)))
    refine gnew_k (fun _ => ?_) (fun _ _ _ _ _ h => by rw [hbad] at h; cases h)
    refine asT_i rfl rfl (asP_i rfl (asI_i rfl (lv_i ?_)))
    refine jn_of (fun t w' => t = [.bool true] ∧ w' = w2) ?_ ?_
    · rintro _ w2 ⟨rfl, rfl⟩
      exact asB_i rfl (cond_t rfl ⟨rfl, hS.ext⟩)
    · intro J hJ
      exact cond_f rfl (cond_t rfl (hJ _ _ ⟨rfl, rfl⟩))
  refine asT_i rfl rfl (asP_i rfl (asI_i rfl (lv_i ?_)))
  refine gnew_k (fun h => by rw [hso] at h; cases h) (fun w4 F' g' mb' mc' _ hg' hx4 hF' => ?_)
  have hG := G2.start hS hg hx3 hF hg' hx4 hF'
  clear hS hg hx3 hF hg' hx4 hF' hx2
  refine asT_i rfl rfl (asP_i rfl (asI_i rfl (lv_i ?_)))
  refine jn_of (fun t w' => t = [.bool false] ∧ w' = w4) ?_ ?_
  rotate_left
  · intro J hJ
    exact cond_f rfl (cond_f rfl (cond_f rfl (hJ _ _ ⟨rfl, rfl⟩)))
  rintro _ w4 ⟨rfl, rfl⟩
  refine asB_i rfl (cond_f rfl ?_)
  obtain ⟨nn, hnn, hnl, hn30⟩ : ∃ nn : Nat, (if (30 : Int) < (len : Int) then (30 : Int) else (len : Int)) = (nn : Int) ∧ nn ≤ len ∧ nn ≤ 30 := by
    split
    · exact ⟨30, rfl, by omega, by omega⟩
    · exact ⟨len, rfl, by omega, by omega⟩
  rw [hnn]
  refine lv_i (lv_i ?_)
  obtain ⟨ls, hls⟩ : ∃ ls : Nat → Bx, ∀ j, j < nn → bs[j]? = some (ls j) := ⟨fun j => bs.getD j ⟨0, 0, 0⟩, fun j hj => by
    simp only
    rw [List.getD_eq_getElem?_getD, List.getElem?_eq_getElem (by omega)]
    rfl⟩
  refine lp_mk (fun i : Nat => [.int .i64 (i : Int)])
    (fun m i w' => m = nn - i ∧ i ≤ nn ∧ ∃ B D B' D', G2 W w' [(r1, b.cells, 25)] s g B D (2048 * i) g' B' D' (2048 * i) ∧ Cons s B D ∧ Cons s B' D' ∧ (∀ x, aget B x = want s ls 0 i x) ∧ (i = 0 ∨ cellsE s (ls 0) = 0 → ∀ x, aget B' x = want s ls (nn - i) nn x)) nn 0 rfl
    ⟨rfl, Nat.zero_le _, [], [], [], [], hG, Cons.nil s, Cons.nil s, fun x => ?_, fun _ x => ?_⟩ ?_
  · unfold want
    rw [if_neg (by omega)]
    rfl
  · unfold want
    rw [if_neg (by omega)]
    rfl
  clear hG
  rintro _ i w5 ⟨rfl, hi, B, D, B', D', hG, hC, hC', hW, hW'⟩ J hJ
  refine asI_i rfl (cond_split (fun hc => ?_) (fun hc => ?_))
  · have hil : i < nn := by
      have := of_decide_eq_true hc
      omega
    have ei : IntKind.wrap .i64 ((i : Int) + 1) = ((i + 1 : Nat) : Int) := by rw [wr64 (by omega) (by omega)]; omega
    obtain ⟨k, hk⟩ : ∃ k : Nat, k + 1 = nn - i := ⟨nn - i - 1, by omega⟩
    have ek : IntKind.wrap .i64 (IntKind.wrap .i64 ((nn : Int) - 1) - (i : Int)) = (k : Int) := by rw [wr64 (n := (nn : Int) - 1) (by omega) (by omega), wr64 (by omega) (by omega)]; omega
    rw [ei, ek]
    refine jn_of (fun _ w' => ∃ B D B' D', G2 W w' [(r1, b.cells, 25)] s g B D (2048 * (i + 1)) g' B' D' (2048 * (i + 1)) ∧ Cons s B D ∧ Cons s B' D' ∧ (∀ x, aget B x = want s ls 0 (i + 1) x) ∧ (i + 1 = 0 ∨ cellsE s (ls 0) = 0 → ∀ x, aget B' x = want s ls (nn - (i + 1)) nn x)) ?_ ?_
    · rintro _ w6 h
      exact lv_i (hJ (nn - (i + 1)) (i + 1) w6 (by omega) ⟨rfl, by omega, h⟩)
    · intro J2 hJ2
      rw [Int.toNat_natCast]
      refine box_at (Reads.ext hG.st.ext R fun _ _ h => h) hl (hls i hil) ?_
      refine hG.put (by omega) (b := ls i) fun w6 hG => asI_i rfl (lv_i ?_)
      have hCi := hC.put (i : Int) (ls i)
      have hWi := want_up hW
      refine box_at (i := 0) (Reads.ext hG.st.ext R fun _ _ h => h) hl (hls 0 (by omega)) ?_
      refine hG.swap.put (by omega) (b := ls 0) fun w7 hG => asI_i rfl (lv_i ?_)
      have hCk := hC'.put (k : Int) (ls 0)
      refine cond_split (fun h => ?_) (fun h => ?_)
      · have hE : gputE s B' (k : Int) (ls 0) = 0 := by simpa using h
        rw [Int.toNat_natCast]
        refine box_at (Reads.ext hG.st.ext R fun _ _ h => h) hl (hls k (by omega)) ?_
        have hE' : cellsE s (ls 0) = 0 := by
          unfold gputE at hE
          split at hE
          · cases hE
          · split at hE
            · cases hE
            · exact hE
        have hWk := hW' (.inr hE')
        rw [← hk] at hWk
        have hmE : gmoveE s (gputB s B' (k : Int) (ls 0)) (k : Int) (ls k) = cellsE s (ls k) := by
          have hs : aget (gputB s B' (k : Int) (ls 0)) (k : Int) = some (ls 0) := by rw [get_put, if_pos ⟨hE, rfl⟩]
          unfold gmoveE
          rw [hs]
          rfl
        have hnd := hG.nd
        refine hG.move (by omega) (b := ls k) fun w8 hG => asI_i rfl (lv_i ?_)
        have hCm := hCk.move hnd.1 hnd.2.1 (k : Int) (ls k)
        rw [hmE]
        have h1 : ∀ x, aget (gputB s B' (k : Int) (ls 0)) x = if x = (k : Int) then some (ls 0) else aget B' x := fun x => by
          rw [get_put]
          by_cases hx : x = (k : Int)
          · rw [if_pos ⟨hE, hx⟩, if_pos hx]
          · rw [if_neg (fun hh => hx hh.2), if_neg hx]
        refine cond_split (fun h => ?_) (fun h => ?_)
        · have h0 : cellsE s (ls k) ≠ 0 := by simpa using h
          have hnd2 := hG.nd
          refine hG.drop (by omega) fun w9 hG => asI_i rfl (hJ2 _ _ ⟨_, _, _, _, (hG.swap.mono (by omega) (by omega)), hCi, hCm.drop hnd2.1 hnd2.2.1 _, hWi, fun _ => ?_⟩)
          have : nn - (i + 1) = k := by omega
          rw [this]
          refine want_down (by omega) hWk fun x => ?_
          rw [get_drop hnd2.1, get_move hnd.1, hmE, h1, if_neg h0]
          by_cases hx : x = (k : Int)
          · rw [if_pos hx, if_pos hx]
          · rw [if_neg hx, if_neg hx, if_neg (fun hh => hx hh.2), if_neg hx]
        · have h0 : cellsE s (ls k) = 0 := by simpa using h
          refine hJ2 _ _ ⟨_, _, _, _, (hG.swap.mono (by omega) (by omega)), hCi, hCm, hWi, fun _ => ?_⟩
          have : nn - (i + 1) = k := by omega
          rw [this]
          refine want_down (by omega) hWk fun x => ?_
          rw [get_move hnd.1, hmE, h1, if_pos h0]
          by_cases hx : x = (k : Int)
          · rw [if_pos ⟨h0, hx⟩, if_pos hx]
          · rw [if_neg (fun hh => hx hh.2), if_neg hx, if_neg hx]
      · have hE : gputE s B' (k : Int) (ls 0) ≠ 0 := by simpa using h
        refine hJ2 _ _ ⟨_, _, _, _, (hG.swap.mono (by omega) (by omega)), hCi, hCk, hWi, fun h0 => ?_⟩
        have h0' : cellsE s (ls 0) = 0 := by
          rcases h0 with h0 | h0
          · omega
          · exact h0
        exfalso
        apply hE
        unfold gputE
        rw [if_neg (by omega), hW' (.inr h0'), if_neg, h0']
        unfold want
        rw [if_neg (by omega)]
        simp
  · have hin : i = nn := by
      have := of_decide_eq_false hc
      omega
    subst hin
    clear hJ hc hi
    refine jn_of (fun _ w' => ∃ B D B' D', G2 W w' [(r1, b.cells, 25)] s g B D (2048 * i) g' B' D' (2048 * i) ∧ Cons s B D ∧ Cons s B' D' ∧ (∀ x, aget B x = want s ls 0 i x) ∧ (∀ x, aget B' x = want s ls 0 i x)) ?_ ?_
    rotate_left
    · intro J hJ
      refine cond_split (fun h => ?_) (fun h => ?_)
      · have hi0 : 0 < i := by
          have := of_decide_eq_true h
          omega
        have hnd := hG.nd
        have hdE : gdropE B (i : Int) = 181 := by
          unfold gdropE
          rw [hW, if_neg]
          unfold want
          rw [if_neg (by omega)]
          simp
        refine hG.drop (by omega) fun w6 hG => ?_
        rw [hdE]
        refine asI_i rfl (lv_i ?_)
        unfold gdropB gdropD at hG
        rw [hdE, if_neg (by decide), if_neg (by decide)] at hG
        refine box_at (i := 0) (Reads.ext hG.st.ext R fun _ _ h => h) hl (hls 0 hi0) ?_
        refine cells_k (b := ls 0) fun p c w7 hx7 _ => ?_
        replace hG := hG.to hx7
        refine asT_i rfl rfl (asS_i rfl (asI_i rfl (lv_i ?_)))
        refine jn_of (fun t w' => t = [.bool (((cellsL' s (ls 0)).length : Int) == 0)] ∧ w' = w7) ?_ ?_
        · rintro _ w7 ⟨rfl, rfl⟩
          refine asB_i rfl (cond_split (fun _ => ⟨rfl, hG.st.ext⟩) (fun h => hJ _ _ ⟨B, D, B', D', hG, hC, hC', hW, fun x => ?_⟩))
          have h0 : cellsE s (ls 0) = 0 := by
            by_cases h0 : cellsE s (ls 0) = 0
            · exact h0
            · have : cellsL' s (ls 0) = [] := by unfold cellsL'; rw [if_neg h0]
              rw [this] at h
              cases h
          have := hW' (.inr h0) x
          rwa [Nat.sub_self] at this
        · intro J2 hJ2
          exact cond_f rfl (hJ2 _ _ ⟨rfl, rfl⟩)
      · have hi0 : i = 0 := by
          have := of_decide_eq_false h
          omega
        refine hJ _ _ ⟨B, D, B', D', hG, hC, hC', hW, fun x => ?_⟩
        have := hW' (.inl hi0) x
        rwa [Nat.sub_self] at this
    · clear hG hC hC' hW hW' B D B' D'
      rintro _ w6 ⟨B, D, B', D', hG, hC, hC', hW, hW'⟩
      have hkey : ∀ {B : List (Int × Bx)} {D : List ((Int × Int) × List Int)}, Cons s B D → (∀ x, aget B x = want s ls 0 i x) → ∀ x ∈ metL B D b (cellsL' s b), I64 x.1 := by
        intro B D hC hW x hx
        obtain ⟨⟨c, _, h2⟩, _⟩ := mem_metL.1 (List.mem_map.2 ⟨x, hx, rfl⟩)
        obtain ⟨a, h3, _⟩ := (hC.cell c x.1).1 h2
        rw [hW] at h3
        unfold want at h3
        split at h3
        · rename_i hh
          unfold I64
          omega
        · cases h3
      have hsame : ∀ x, aget B x = aget B' x := fun x => by rw [hW, hW']
      have hnear := same_near hC hC' hsame b
      have hnd := hG.nd
      have hcount : B.length = B'.length := by
        have := (same_perm hnd.1 hnd.2.2.1 fun x => by rw [mem_keys, mem_keys, hsame]).length_eq
        simpa using this
      refine hG.st.ld0 0 rfl rfl (asI_i rfl (hG.st.ld 0 rfl rfl (asI_i rfl (hG.st.ld 0 rfl rfl (asI_i rfl ?_)))))
      refine hG.near (by omega) (b := b) (hkey hC hW) fun p c w7 LL hG hH => ?_
      refine asT_i rfl rfl (asS_i rfl (asI_i rfl (lv_i ?_)))
      have hSd := hG.st.drop
      refine hSd.ld0 0 rfl rfl (asI_i rfl (hSd.ld 0 rfl rfl (asI_i rfl (hSd.ld 0 rfl rfl (asI_i rfl ?_)))))
      refine hG.swap.near (by omega) (b := b) (hkey hC' hW') fun q c' w8 LL' hG hH' => ?_
      refine asT_i rfl rfl (asS_i rfl (asI_i rfl (lv_i ?_)))
      rw [← hnear] at hH' ⊢
      have hR := hG.reads hH fun x hx => List.mem_append_right _ (List.mem_append_left _ hx)
      have hR' := hG.reads hH' fun x hx => List.mem_append_left _ hx
      have hX := hG.st.ext
      have hlenN : (gnearV s B D b).length ≤ 1024 * (2048 * 30) := by
        unfold gnearV
        rw [List.length_mergeSort, List.length_map]
        have h1 := metL_len (B := B) (b := b) hG.len.2 (cellsL' s b)
        have h2 : (cellsL' s b).length * (2048 * i) ≤ 1024 * (2048 * 30) := Nat.mul_le_mul cells_len (by omega)
        omega
      generalize gnearV s B D b = nr at *
      refine jn_of (fun t w' => t = [.bool false] ∧ w' = w8) ?_ ?_
      rotate_left
      · intro J hJ
        refine cond_f (by simp) (cond_f (by simp) ?_)
        refine hG.swap.count (asI_i rfl (hG.count (asI_i rfl (hJ _ _ ⟨?_, rfl⟩))))
        rw [hcount]
        simp
      rintro _ w8 ⟨rfl, rfl⟩
      refine asB_i rfl (cond_f rfl (lv_i ?_))
      refine lp_mk (fun j : Nat => [.int .i64 (j : Int)]) (fun m j w' => m = nr.length - j ∧ j ≤ nr.length ∧ Ext no w8 w') nr.length 0 rfl ⟨rfl, Nat.zero_le _, Ext.refl _ _⟩ ?_
      rintro _ j w9 ⟨rfl, hj, hx9⟩ J hJ
      refine asI_i rfl (cond_split (fun hc => ?_) (fun _ => ⟨by first | trivial | rfl, hX.trans hx9⟩))
      have hjl : j < nr.length := by
        have := of_decide_eq_true hc
        omega
      have ej : IntKind.wrap .i64 ((j : Int) + 1) = ((j + 1 : Nat) : Int) := by rw [wr64 (by omega) (by omega)]; omega
      refine dw_mk ?_
      have hx9' : Ext no w8 w9.drew := hx9.trans (Ext.drew w9)
      refine (hR.ext hx9' fun _ _ h => h).at (i := (j : Int)) (v := .int .i64 nr[j]) (by omega) (by simp [iv, hjl]) (asI_i rfl ?_) (by simp [iv])
      refine (hR'.ext hx9' fun _ _ h => h).at (i := (j : Int)) (v := .int .i64 nr[j]) (by omega) (by simp [iv, hjl]) (asI_i rfl ?_) (by simp [iv])
      refine cond_f (by simp) (lv_i ?_)
      rw [ej]
      exact hJ (nr.length - (j + 1)) (j + 1) _ (by omega) ⟨rfl, hjl, hx9'⟩
end Go.Proofs.Ytamobmjfdiecbaa
