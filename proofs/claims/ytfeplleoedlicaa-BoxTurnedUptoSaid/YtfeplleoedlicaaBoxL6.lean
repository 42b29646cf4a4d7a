/- BoxL6: the law BoxTurned comes out true for every input of at most 1048576 boxes: it does not matter in which order boxes stand in the way. Conditions: those of the law's arguments as they are read, and that number. -/
import Derived.Test.YtfeplleoedlicaaBoxL5
namespace Go.Proofs.Ytfeplleoedlicaa
open Go Go.Sx
attribute [local irreducible] jn lv ld st nw asI asB asP asS asY asM asF asA asT lp rn ru rq cl dw dr bnd bn2 nz nn hd hr so eqW

theorem own_readsN {w : World} {base : Nat} {e : TypeId} {size : Nat} {v : Value} {n : Nat} {xs : List Value} (h : w.ownsRow base e size v n xs) :
    ∃ p c, v = .slice p n c ∧ Reads w p xs ∧ (∀ a, p = some a → base ≤ a.block) := by
  rcases h.2 with ⟨rfl, rfl⟩ | ⟨g, cap, cur, rfl, hb, hg, h1, h2, h3, h4⟩
  · exact ⟨none, 0, rfl, .inl (List.eq_nil_of_length_eq_zero (by simpa using h.1)), by simp⟩
  · refine ⟨_, cap, rfl, .inr ⟨g, 0, rfl, fun i v hv => ?_⟩, fun a ha => by cases ha; exact hb⟩
    rw [blk_cell hg, Nat.zero_add]
    rw [← h4, List.getElem?_take] at hv
    split at hv
    · simpa using hv
    · cases hv

theorem pushV_turn {a : Bx} {axis d : Int} {bs ms : List Bx} (h : ∀ b, b ∈ bs ↔ b ∈ ms) :
    (pushV a axis d bs).1 = (pushV a axis d ms).1 ∧ (pushV a axis d bs).2.2 = (pushV a axis d ms).2.2 ∧ ((pushV a axis d bs).2.1 == -1) = ((pushV a axis d ms).2.1 == -1) := by
  have hall : allR bs = allR ms := by
    rw [Bool.eq_iff_iff, allR, allR, List.all_eq_true, List.all_eq_true]
    exact ⟨fun hb b hm => hb b ((h b).2 hm), fun hb b hm => hb b ((h b).1 hm)⟩
  have hw := way_set (s := sgn d) (a := a) (k := axis != 0) (m := mag d) h
  unfold way at hw
  unfold pushV
  rw [hall]
  split
  · split
    · refine ⟨by simp only; rw [hw], rfl, ?_⟩
      simp only
      have w1 := who_is (sgn d) a (axis != 0) bs (mag d)
      have w2 := who_is (sgn d) a (axis != 0) ms (mag d)
      unfold way at w1 w2
      rw [Bool.eq_iff_iff, beq_iff_eq, beq_iff_eq]
      omega
    · exact ⟨rfl, rfl, rfl⟩
  · exact ⟨rfl, rfl, rfl⟩

def twice (bs : List Bx) : List Bx := bs.flatMap fun b => [b, b]
theorem fl_append (a b : List Bx) : fl (a ++ b) = fl a ++ fl b := by simp [fl]
theorem twice_length (bs : List Bx) : (twice bs).length = 2 * bs.length := by
  induction bs with
  | nil => rfl
  | cons b bs ih =>
    have : twice (b :: bs) = b :: b :: twice bs := rfl
    rw [this]
    simp [ih]
    omega

theorem boxTurned_law (W : World) (z0 : List Value) (F0 : FitsAll [.int .i64, .int .i64, .int .i64] z0) (axis : Int) (_w1 : (Lit.int .i64 axis).wf = true) (d : Int) (_w2 : (Lit.int .i64 d).wf = true)
    (l : Option Addr) (n c : Nat) (z3 : List (List Value)) (R3 : Reads W l z3.flatten) (L3 : z3.length = n) (F3 : ∀ c ∈ z3, FitsAll [.int .i64, .int .i64, .int .i64] c) (_Y3 : n * 24 ≤ 140737488351232) (B3 : n ≤ 1048576) :
    cl Try.prog 6 #[.agg z0.toArray, .int .i64 axis, .int .i64 d, .slice l n c] W fun v w' => v = .bool true ∧ Ext no W w' := by
  obtain ⟨a, rfl, _⟩ := box_of F0
  obtain ⟨bs, e3, l3, _⟩ := boxes_of F3
  rw [e3] at R3
  have hn : bs.length = n := l3.trans L3
  subst hn
  apply F6_calls
  unfold F6
  have hS := St.start W
  (refine St.nw hS ?_; clear hS; intro ra _ hS)
  repeat (first | (refine awake_k ?_; intro _ x; replace hS := hS.to x; clear x) | (refine asI_i rfl ?_) | (refine asB_i rfl ?_) | (refine asP_i rfl ?_) | (refine asS_i rfl ?_) | (refine asY_i rfl ?_) | (refine asM_i rfl ?_) | (refine asA_i rfl rfl ?_) | (refine asT_i rfl rfl ?_) | (refine lv_i ?_) | (refine St.nw hS ?_; clear hS; intro _ _ hS) | (refine St.dw hS ?_; clear hS; intro _ hS _) | (refine hS.ld0 0 rfl rfl ?_) | (refine hS.ld 0 rfl rfl ?_) | (refine hS.ld0 1 rfl rfl ?_) | (refine hS.ld 1 rfl rfl ?_) | (refine hS.ld0 2 rfl rfl ?_) | (refine hS.ld 2 rfl rfl ?_) | (refine hS.ld0 3 rfl rfl ?_) | (refine hS.ld 3 rfl rfl ?_) | (refine hS.ld0 4 rfl rfl ?_) | (refine hS.ld 4 rfl rfl ?_) | (refine hS.ld0 5 rfl rfl ?_) | (refine hS.ld 5 rfl rfl ?_) | (refine hS.ld0 6 rfl rfl ?_) | (refine hS.ld 6 rfl rfl ?_) | (refine hS.ld0 7 rfl rfl ?_) | (refine hS.ld 7 rfl rfl ?_) | (refine hS.hd0 0 rfl rfl ?_) | (refine hS.hd 0 rfl rfl ?_) | (refine hS.hd0 1 rfl rfl ?_) | (refine hS.hd 1 rfl rfl ?_) | (refine hS.hd0 2 rfl rfl ?_) | (refine hS.hd 2 rfl rfl ?_) | (refine hS.hd0 3 rfl rfl ?_) | (refine hS.hd 3 rfl rfl ?_) | (refine hS.hd0 4 rfl rfl ?_) | (refine hS.hd 4 rfl rfl ?_) | (refine hS.hd0 5 rfl rfl ?_) | (refine hS.hd 5 rfl rfl ?_) | (refine hS.hd0 6 rfl rfl ?_) | (refine hS.hd 6 rfl rfl ?_) | (refine hS.hd0 7 rfl rfl ?_) | (refine hS.hd 7 rfl rfl ?_) | (refine hS.st0 0 rfl rfl rfl ?_; clear hS; intro _ hS) | (refine hS.st 0 rfl rfl rfl ?_; clear hS; intro _ hS) | (refine hS.st0 1 rfl rfl rfl ?_; clear hS; intro _ hS) | (refine hS.st 1 rfl rfl rfl ?_; clear hS; intro _ hS) | (refine hS.st0 2 rfl rfl rfl ?_; clear hS; intro _ hS) | (refine hS.st 2 rfl rfl rfl ?_; clear hS; intro _ hS) | (refine hS.st0 3 rfl rfl rfl ?_; clear hS; intro _ hS) | (refine hS.st 3 rfl rfl rfl ?_; clear hS; intro _ hS) | (refine hS.st0 4 rfl rfl rfl ?_; clear hS; intro _ hS) | (refine hS.st 4 rfl rfl rfl ?_; clear hS; intro _ hS) | (refine hS.st0 5 rfl rfl rfl ?_; clear hS; intro _ hS) | (refine hS.st 5 rfl rfl rfl ?_; clear hS; intro _ hS) | (refine hS.st0 6 rfl rfl rfl ?_; clear hS; intro _ hS) | (refine hS.st 6 rfl rfl rfl ?_; clear hS; intro _ hS) | (refine hS.st0 7 rfl rfl rfl ?_; clear hS; intro _ hS) | (refine hS.st 7 rfl rfl rfl ?_; clear hS; intro _ hS) | (refine bnd_mk (by decide) (by decide) ?_) | (refine so_i rfl ?_))
  rename_i w0
  have x0 := hS.ext
  refine lp_mk (fun s : Option Addr × Nat × Nat => [.slice s.1 (2 * s.2.2) s.2.1, .int .i64 ((bs.length : Int) - 1 - (s.2.2 : Int))])
    (fun m s w' => m = bs.length - s.2.2 ∧ s.2.2 ≤ bs.length ∧ St W w' [(ra, a.cells, 25)] ∧ w'.ownsRow w0.heap.size 25 3 (.slice s.1 (2 * s.2.2) s.2.1) (2 * s.2.2) (fl (twice ((bs.drop (bs.length - s.2.2)).reverse))) ∧ w0.heap.size ≤ w'.heap.size)
    bs.length (none, 0, 0) ?_ ⟨rfl, Nat.zero_le _, hS, ?_, Nat.le_refl _⟩ ?_
  · rw [wr64 (by omega) (by omega)]
    simp
  · have : bs.drop (bs.length - 0) = [] := by simp
    rw [this]
    exact World.ownsRow_nil w0 w0.heap.size 25 3
  have hra : ra < w0.heap.size := blk_lt (hS.kn _ (List.mem_cons_self ..)).1
  clear hS
  rintro _ ⟨p, cp, j⟩ w1 ⟨rfl, hj, hS, hrow, hsz⟩ J hJ
  simp only at hj hS hrow hJ ⊢
  repeat (first | (refine asI_i rfl ?_) | (refine asB_i rfl ?_) | (refine asP_i rfl ?_) | (refine asS_i rfl ?_) | (refine asY_i rfl ?_) | (refine asM_i rfl ?_) | (refine asA_i rfl rfl ?_) | (refine asT_i rfl rfl ?_) | (refine lv_i ?_))
  refine cond_split (fun hc => ?_) (fun hc => ?_)
  · have hjl : j < bs.length := by
      have := of_decide_eq_true hc
      omega
    have ei : ((bs.length : Int) - 1 - (j : Int)) = ((bs.length - 1 - j : Nat) : Int) := by omega
    rw [ei]
    have hb : bs[bs.length - 1 - j]? = some bs[bs.length - 1 - j] := List.getElem?_eq_getElem (by omega)
    generalize hB : bs[bs.length - 1 - j] = b at hb
    refine St.dw hS ?_
    clear hS
    intro w2 hS x2
    have hrow2 := x2.own hrow fun _ _ h => h
    refine bx_at (Reads.no hS.ext R3) rfl hb ?_
    intro ad c0 c1 c2
    refine ld_mk c0 (asI_i rfl (ld_mk c1 (asI_i rfl (ld_mk c2 (asI_i rfl ?_)))))
    clear c0 c1 c2
    refine bx_at (Reads.no hS.ext R3) rfl hb ?_
    intro ad c0 c1 c2
    refine ld_mk c0 (asI_i rfl (ld_mk c1 (asI_i rfl (ld_mk c2 (asI_i rfl (nw_mk ?_))))))
    have xa : Ext no w2 (w2.alloc (.cells #[.int .i64 b.x, .int .i64 b.y, .int .i64 b.r, .int .i64 b.x, .int .i64 b.y, .int .i64 b.r] 25)) := Ext.alloc _ _
    have hrow3 := xa.own hrow2 fun _ _ h => h
    have hnb := new_blk w2 (.cells #[.int .i64 b.x, .int .i64 b.y, .int .i64 b.r, .int .i64 b.x, .int .i64 b.y, .int .i64 b.r] 25)
    have hsz3 : w0.heap.size ≤ (w2.alloc (.cells #[.int .i64 b.x, .int .i64 b.y, .int .i64 b.r, .int .i64 b.x, .int .i64 b.y, .int .i64 b.r] 25)).heap.size := Nat.le_trans hsz (Nat.le_trans x2.size xa.size)
    obtain ⟨v', w4, hr, hrow4, hg, _⟩ := run_append_own (P := Try.prog) _ w0.heap.size 35 35 25 _ _ 3 24 rfl rfl rfl rfl rfl rfl (by decide) _ _ _ hrow3 ⟨w2.heap.size, 0, none⟩ 2 2 (fl [b, b]) (by rfl)
      (fun i v hv => by
        rw [add_mk, blk_cell hnb, Nat.zero_add]
        have : fl [b, b] = [.int .i64 b.x, .int .i64 b.y, .int .i64 b.r, .int .i64 b.x, .int .i64 b.y, .int .i64 b.r] := rfl
        rw [this] at hv
        simpa using hv)
      (by
        intro u hu
        have : fl [b, b] = [.int .i64 b.x, .int .i64 b.y, .int .i64 b.r, .int .i64 b.x, .int .i64 b.y, .int .i64 b.r] := rfl
        rw [this] at hu
        simp only [List.mem_cons, List.not_mem_nil, or_false] at hu
        rcases hu with h | h | h | h | h | h <;> rw [h] <;> rfl)
      (le_maxLen (by omega)) (by omega) hsz3
    obtain ⟨p4, c4, hv4, _, _⟩ := own_readsN hrow4
    subst hv4
    refine rn_mk hr (asS_i rfl (lv_i ?_))
    have e5 : IntKind.wrap .i64 (((bs.length - 1 - j : Nat) : Int) - 1) = (bs.length : Int) - 1 - ((j + 1 : Nat) : Int) := by rw [wr64 (by omega) (by omega)]; omega
    have e6 : 2 * j + 2 = 2 * (j + 1) := by omega
    rw [e5, e6]
    rw [e6] at hrow4
    have ed : bs.drop (bs.length - (j + 1)) = b :: bs.drop (bs.length - j) := by
      have h1 := drop_cons hb
      have h2 : bs.length - 1 - j = bs.length - (j + 1) := by omega
      have h3 : bs.length - 1 - j + 1 = bs.length - j := by omega
      rw [h3] at h1
      rw [← h2, h1]
    have et : fl (twice (bs.drop (bs.length - j)).reverse) ++ fl [b, b] = fl (twice (bs.drop (bs.length - (j + 1))).reverse) := by
      rw [ed, List.reverse_cons, ← fl_append]
      simp [twice]
    rw [et] at hrow4
    have xg : Ext (fun k => w0.heap.size ≤ k) w2 w4 := (Ext.of_no xa).trans ((Ext.of_grown hg).mono fun k _ hk => by
      rcases hrow3.2 with ⟨hv, _⟩ | ⟨g, _, _, hv, hbg, _⟩
      · rw [hv] at hk; simp [Value.ownBlock] at hk
      · rw [hv] at hk
        simp only [Value.ownBlock, Option.some.injEq] at hk
        omega)
    refine hJ (bs.length - (j + 1)) (p4, c4, j + 1) w4 (by omega) ⟨rfl, by simp only; omega, ⟨hS.ext.then xg fun k hk hgk => ?_, fun bb hbb => ?_, hS.nd⟩, hrow4, Nat.le_trans hsz (Nat.le_trans x2.size xg.size)⟩
    · have := x0.size
      have : w0.heap.size ≤ k := hgk
      omega
    · have hk := hS.kn bb hbb
      simp only [List.mem_cons, List.not_mem_nil, or_false] at hbb
      subst hbb
      exact ⟨xg.blk hk.1 (fun hgk => by have : w0.heap.size ≤ ra := hgk; omega), hk.2⟩
  · have hjl : j = bs.length := by
      have := of_decide_eq_false hc
      omega
    subst hjl
    obtain ⟨p5, c5, hv5, hr5, _⟩ := own_readsN hrow
    simp only [Value.slice.injEq, true_and] at hv5
    obtain ⟨rfl, rfl⟩ := hv5
    rw [Nat.sub_self, List.drop_zero] at hr5
    repeat (first | (refine asI_i rfl ?_) | (refine asB_i rfl ?_) | (refine asP_i rfl ?_) | (refine asS_i rfl ?_) | (refine asY_i rfl ?_) | (refine asM_i rfl ?_) | (refine asA_i rfl rfl ?_) | (refine asT_i rfl rfl ?_) | (refine lv_i ?_) | (refine St.dw hS ?_; clear hS; intro _ hS _) | (refine hS.ld0 0 rfl rfl ?_) | (refine hS.ld 0 rfl rfl ?_) | (refine hS.ld0 1 rfl rfl ?_) | (refine hS.ld 1 rfl rfl ?_) | (refine hS.ld0 2 rfl rfl ?_) | (refine hS.ld 2 rfl rfl ?_) | (refine hS.ld0 3 rfl rfl ?_) | (refine hS.ld 3 rfl rfl ?_) | (refine hS.ld0 4 rfl rfl ?_) | (refine hS.ld 4 rfl rfl ?_) | (refine hS.ld0 5 rfl rfl ?_) | (refine hS.ld 5 rfl rfl ?_) | (refine hS.ld0 6 rfl rfl ?_) | (refine hS.ld 6 rfl rfl ?_) | (refine hS.ld0 7 rfl rfl ?_) | (refine hS.ld 7 rfl rfl ?_) | (refine hS.hd0 0 rfl rfl ?_) | (refine hS.hd 0 rfl rfl ?_) | (refine hS.hd0 1 rfl rfl ?_) | (refine hS.hd 1 rfl rfl ?_) | (refine hS.hd0 2 rfl rfl ?_) | (refine hS.hd 2 rfl rfl ?_) | (refine hS.hd0 3 rfl rfl ?_) | (refine hS.hd 3 rfl rfl ?_) | (refine hS.hd0 4 rfl rfl ?_) | (refine hS.hd 4 rfl rfl ?_) | (refine hS.hd0 5 rfl rfl ?_) | (refine hS.hd 5 rfl rfl ?_) | (refine hS.hd0 6 rfl rfl ?_) | (refine hS.hd 6 rfl rfl ?_) | (refine hS.hd0 7 rfl rfl ?_) | (refine hS.hd 7 rfl rfl ?_) | (refine hS.st0 0 rfl rfl rfl ?_; clear hS; intro _ hS) | (refine hS.st 0 rfl rfl rfl ?_; clear hS; intro _ hS) | (refine hS.st0 1 rfl rfl rfl ?_; clear hS; intro _ hS) | (refine hS.st 1 rfl rfl rfl ?_; clear hS; intro _ hS) | (refine hS.st0 2 rfl rfl rfl ?_; clear hS; intro _ hS) | (refine hS.st 2 rfl rfl rfl ?_; clear hS; intro _ hS) | (refine hS.st0 3 rfl rfl rfl ?_; clear hS; intro _ hS) | (refine hS.st 3 rfl rfl rfl ?_; clear hS; intro _ hS) | (refine hS.st0 4 rfl rfl rfl ?_; clear hS; intro _ hS) | (refine hS.st 4 rfl rfl rfl ?_; clear hS; intro _ hS) | (refine hS.st0 5 rfl rfl rfl ?_; clear hS; intro _ hS) | (refine hS.st 5 rfl rfl rfl ?_; clear hS; intro _ hS) | (refine hS.st0 6 rfl rfl rfl ?_; clear hS; intro _ hS) | (refine hS.st 6 rfl rfl rfl ?_; clear hS; intro _ hS) | (refine hS.st0 7 rfl rfl rfl ?_; clear hS; intro _ hS) | (refine hS.st 7 rfl rfl rfl ?_; clear hS; intro _ hS) | (refine bnd_mk (by decide) (by decide) ?_) | (refine so_i rfl ?_))
    refine push_k (a := a) (axis := axis) (d := d) (Reads.no hS.ext R3) rfl (by omega) ?_
    intro _ x
    replace hS := hS.to x
    replace hr5 := Reads.no x hr5
    clear x
    repeat (first | (refine asI_i rfl ?_) | (refine asB_i rfl ?_) | (refine asP_i rfl ?_) | (refine asS_i rfl ?_) | (refine asY_i rfl ?_) | (refine asM_i rfl ?_) | (refine asA_i rfl rfl ?_) | (refine asT_i rfl rfl ?_) | (refine lv_i ?_) | (refine St.dw hS ?_; clear hS; intro _ hS _) | (refine hS.ld0 0 rfl rfl ?_) | (refine hS.ld 0 rfl rfl ?_) | (refine hS.ld0 1 rfl rfl ?_) | (refine hS.ld 1 rfl rfl ?_) | (refine hS.ld0 2 rfl rfl ?_) | (refine hS.ld 2 rfl rfl ?_) | (refine hS.ld0 3 rfl rfl ?_) | (refine hS.ld 3 rfl rfl ?_) | (refine hS.ld0 4 rfl rfl ?_) | (refine hS.ld 4 rfl rfl ?_) | (refine hS.ld0 5 rfl rfl ?_) | (refine hS.ld 5 rfl rfl ?_) | (refine hS.ld0 6 rfl rfl ?_) | (refine hS.ld 6 rfl rfl ?_) | (refine hS.ld0 7 rfl rfl ?_) | (refine hS.ld 7 rfl rfl ?_) | (refine hS.hd0 0 rfl rfl ?_) | (refine hS.hd 0 rfl rfl ?_) | (refine hS.hd0 1 rfl rfl ?_) | (refine hS.hd 1 rfl rfl ?_) | (refine hS.hd0 2 rfl rfl ?_) | (refine hS.hd 2 rfl rfl ?_) | (refine hS.hd0 3 rfl rfl ?_) | (refine hS.hd 3 rfl rfl ?_) | (refine hS.hd0 4 rfl rfl ?_) | (refine hS.hd 4 rfl rfl ?_) | (refine hS.hd0 5 rfl rfl ?_) | (refine hS.hd 5 rfl rfl ?_) | (refine hS.hd0 6 rfl rfl ?_) | (refine hS.hd 6 rfl rfl ?_) | (refine hS.hd0 7 rfl rfl ?_) | (refine hS.hd 7 rfl rfl ?_) | (refine hS.st0 0 rfl rfl rfl ?_; clear hS; intro _ hS) | (refine hS.st 0 rfl rfl rfl ?_; clear hS; intro _ hS) | (refine hS.st0 1 rfl rfl rfl ?_; clear hS; intro _ hS) | (refine hS.st 1 rfl rfl rfl ?_; clear hS; intro _ hS) | (refine hS.st0 2 rfl rfl rfl ?_; clear hS; intro _ hS) | (refine hS.st 2 rfl rfl rfl ?_; clear hS; intro _ hS) | (refine hS.st0 3 rfl rfl rfl ?_; clear hS; intro _ hS) | (refine hS.st 3 rfl rfl rfl ?_; clear hS; intro _ hS) | (refine hS.st0 4 rfl rfl rfl ?_; clear hS; intro _ hS) | (refine hS.st 4 rfl rfl rfl ?_; clear hS; intro _ hS) | (refine hS.st0 5 rfl rfl rfl ?_; clear hS; intro _ hS) | (refine hS.st 5 rfl rfl rfl ?_; clear hS; intro _ hS) | (refine hS.st0 6 rfl rfl rfl ?_; clear hS; intro _ hS) | (refine hS.st 6 rfl rfl rfl ?_; clear hS; intro _ hS) | (refine hS.st0 7 rfl rfl rfl ?_; clear hS; intro _ hS) | (refine hS.st 7 rfl rfl rfl ?_; clear hS; intro _ hS) | (refine bnd_mk (by decide) (by decide) ?_) | (refine so_i rfl ?_))
    refine push_k (a := a) (axis := axis) (d := d) hr5 (by rw [twice_length, List.length_reverse]) (by omega) ?_
    intro _ x
    replace hS := hS.to x
    clear x
    repeat (first | (refine asI_i rfl ?_) | (refine asB_i rfl ?_) | (refine asP_i rfl ?_) | (refine asS_i rfl ?_) | (refine asY_i rfl ?_) | (refine asM_i rfl ?_) | (refine asA_i rfl rfl ?_) | (refine asT_i rfl rfl ?_) | (refine lv_i ?_) | (refine St.dw hS ?_; clear hS; intro _ hS _) | (refine hS.ld0 0 rfl rfl ?_) | (refine hS.ld 0 rfl rfl ?_) | (refine hS.ld0 1 rfl rfl ?_) | (refine hS.ld 1 rfl rfl ?_) | (refine hS.ld0 2 rfl rfl ?_) | (refine hS.ld 2 rfl rfl ?_) | (refine hS.ld0 3 rfl rfl ?_) | (refine hS.ld 3 rfl rfl ?_) | (refine hS.ld0 4 rfl rfl ?_) | (refine hS.ld 4 rfl rfl ?_) | (refine hS.ld0 5 rfl rfl ?_) | (refine hS.ld 5 rfl rfl ?_) | (refine hS.ld0 6 rfl rfl ?_) | (refine hS.ld 6 rfl rfl ?_) | (refine hS.ld0 7 rfl rfl ?_) | (refine hS.ld 7 rfl rfl ?_) | (refine hS.hd0 0 rfl rfl ?_) | (refine hS.hd 0 rfl rfl ?_) | (refine hS.hd0 1 rfl rfl ?_) | (refine hS.hd 1 rfl rfl ?_) | (refine hS.hd0 2 rfl rfl ?_) | (refine hS.hd 2 rfl rfl ?_) | (refine hS.hd0 3 rfl rfl ?_) | (refine hS.hd 3 rfl rfl ?_) | (refine hS.hd0 4 rfl rfl ?_) | (refine hS.hd 4 rfl rfl ?_) | (refine hS.hd0 5 rfl rfl ?_) | (refine hS.hd 5 rfl rfl ?_) | (refine hS.hd0 6 rfl rfl ?_) | (refine hS.hd 6 rfl rfl ?_) | (refine hS.hd0 7 rfl rfl ?_) | (refine hS.hd 7 rfl rfl ?_) | (refine hS.st0 0 rfl rfl rfl ?_; clear hS; intro _ hS) | (refine hS.st 0 rfl rfl rfl ?_; clear hS; intro _ hS) | (refine hS.st0 1 rfl rfl rfl ?_; clear hS; intro _ hS) | (refine hS.st 1 rfl rfl rfl ?_; clear hS; intro _ hS) | (refine hS.st0 2 rfl rfl rfl ?_; clear hS; intro _ hS) | (refine hS.st 2 rfl rfl rfl ?_; clear hS; intro _ hS) | (refine hS.st0 3 rfl rfl rfl ?_; clear hS; intro _ hS) | (refine hS.st 3 rfl rfl rfl ?_; clear hS; intro _ hS) | (refine hS.st0 4 rfl rfl rfl ?_; clear hS; intro _ hS) | (refine hS.st 4 rfl rfl rfl ?_; clear hS; intro _ hS) | (refine hS.st0 5 rfl rfl rfl ?_; clear hS; intro _ hS) | (refine hS.st 5 rfl rfl rfl ?_; clear hS; intro _ hS) | (refine hS.st0 6 rfl rfl rfl ?_; clear hS; intro _ hS) | (refine hS.st 6 rfl rfl rfl ?_; clear hS; intro _ hS) | (refine hS.st0 7 rfl rfl rfl ?_; clear hS; intro _ hS) | (refine hS.st 7 rfl rfl rfl ?_; clear hS; intro _ hS) | (refine bnd_mk (by decide) (by decide) ?_) | (refine so_i rfl ?_))
    obtain ⟨q1, q2, q3⟩ := pushV_turn (a := a) (axis := axis) (d := d) (bs := bs) (ms := twice bs.reverse) (fun b => by simp [twice])
    rw [q1, q2, q3]
    refine jn_mk (cond_t rfl (cond_t (by simp) (cond_t (by simp) ?_)))
    repeat (first | (refine asI_i rfl ?_) | (refine asB_i rfl ?_) | (refine asP_i rfl ?_) | (refine asS_i rfl ?_) | (refine asY_i rfl ?_) | (refine asM_i rfl ?_) | (refine asA_i rfl rfl ?_) | (refine asT_i rfl rfl ?_) | (refine lv_i ?_))
    exact ⟨by simp, hS.ext⟩
end Go.Proofs.Ytfeplleoedlicaa
