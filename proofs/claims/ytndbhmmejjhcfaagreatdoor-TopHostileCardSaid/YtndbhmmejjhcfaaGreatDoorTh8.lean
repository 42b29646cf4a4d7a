/- Own texts of this claim, joined: walks and plain laws. Conditions: those of each theorem, on its arguments. -/
import Derived.Test.YtndbhmmejjhcfaaGreatDoorTh7
import Derived.Test.YtndbhmmejjhcfaaGreatDoorTh4
import Derived.SizedLaws
import Derived.ChangeSlices
import Derived.Deep.Grids
import Derived.WalkKit
import Derived.ProofKit
import Derived.OpenShut
import Derived.ShutString
import Derived.ChangeOld
import Derived.Below
import Derived.Deep.Slices
import Derived.DataReads
import Derived.Lib.SmallJoins
import Derived.Lib.LaidU8
import Derived.FnData
import Derived.Test.YtndbhmmejjhcfaaGreatDoorRows
import Derived.MakeChecks
import Derived.Lay
import Derived.KernelRfl
namespace Go.Proofs.YtndbhmmejjhcfaaGreatDoor
open Go Go.Sx Go.Vp
theorem _root_.Go.Sx.cl_of_clz {P : Program} {f : FuncId} {args : Array Value} {w : World} {K : Value → World → Prop} (h : clz (fun _ _ => False) P f args w K) : cl P f args w K :=
  Calls.mono h fun _ _ h => by
    rcases h with h | ⟨_, _, h⟩
    · exact h
    · exact h.elim
attribute [local irreducible] jn lv ld st nw asI asB asP asS asY asM asF asA asT lp rn ru rq cl dw dr bnd bn2 nz nn hd hr so eqW
attribute [local irreducible] callOk clz clm
set_option maxRecDepth 100000 in
theorem con3 : Tryz.prog.concrete 3 = true := rfl
theorem _root_.Go.Sx.Hm.cut {w0 w : World} {Rs : List Rw} {m : Nat} {o : Obj} (h : Hm w0 w Rs m o) (p : Option Addr) {i e s c n : Nat} {xs : List Value} {f : Rw → List Rw} [hf : Go.Sx.Fd Rs p i e s c n xs] (k : Nat) [hu : Up Rs i f] (hk : k ≤ n) : Hm w0 w (f ⟨e, s, p, c, k, xs.take (k * s)⟩) m o :=
  ⟨h.hs.cut p k hk, h.blk, h.base, fun b hb a ha => by
    rw [← hu.e] at hb
    rcases List.mem_or_eq_of_mem_set hb with hb | rfl
    · exact h.sep b hb a ha
    · exact h.sep _ (List.mem_of_getElem? hf.g) a ha⟩
section
variable {w0 w : World} {L : Nat} {c0 c1 c2 c3 c4 c5 c6 c7 c8 d0 d1 d2 : Value} {Rs : List Rw} {m : Nat} {o : Obj} {l : List Int} {Z : List PanicEntry → World → Prop} {K : Value → World → Prop}
theorem pop_m {x : Int} (h : Hq w0 L c0 c1 c2 c3 c4 c5 c6 c7 c8 d0 d1 d2 Rs m o (l ++ [x]) w) (hl : l.length ≤ 1000000)
    (hK : ∀ w', Hq w0 L c0 c1 c2 c3 c4 c5 c6 c7 c8 d0 d1 d2 Rs m o l w' → K (.iface 3 (i6 x)) w') : clm Z Tryz.prog "Pop" #[hpv L] w K := by
  obtain ⟨p, c, h⟩ := h
  unfold clm
  refine ⟨_, _, pop_inv, ?_⟩
  refine clz_of_cl ?_
  apply F348_calls
  unfold F348
  have hlen : (l ++ [x]).length = l.length + 1 := by simp
  rw [hlen] at h
  refine of_lvv (sp ?_)
  repeat first|refine sp ?_|refine cond_t rfl ?_|refine cond_f rfl ?_|refine asT_i rfl rfl ?_|refine asA_i rfl rfl ?_|refine h.l rfl ?_|refine h.hd rfl ?_|(refine h.sb rfl rfl ?_;clear h;intro _ h)|(refine h.dw ?_;clear h;intro _ h)
  have en : IntKind.wrap .i64 (((l.length + 1 : Nat) : Int) - 1) = (l.length : Int) := by rw [wr64 (by omega) (by omega)]; omega
  rw [en]
  have hr := h.rd (r := ⟨3, 1, p, c, l.length + 1, iw (l ++ [x])⟩) (by simp)
  refine Reads.ati hr hlen (by omega) ?_
  have ex : (l ++ [x]).getD l.length 0 = x := by simp [List.getD]
  rw [ex]
  repeat first|refine sp ?_|refine cond_t rfl ?_|refine cond_f rfl ?_|refine asT_i rfl rfl ?_|refine asA_i rfl rfl ?_|refine h.l rfl ?_|refine h.hd rfl ?_|(refine h.sb rfl rfl ?_;clear h;intro _ h)|(refine h.dw ?_;clear h;intro _ h)
  have hc : l.length + 1 ≤ c := RowN.le_max (h.hs.row ⟨3, 1, p, c, l.length + 1, iw (l ++ [x])⟩ (by simp))
  refine bn2_mk (by omega) (by omega) ?_
  rw [Int.toNat_natCast]
  repeat first|refine sp ?_|refine cond_t rfl ?_|refine cond_f rfl ?_|refine asT_i rfl rfl ?_|refine asA_i rfl rfl ?_|refine h.l rfl ?_|refine h.hd rfl ?_|(refine h.sb rfl rfl ?_;clear h;intro _ h)|(refine h.dw ?_;clear h;intro _ h)
  refine rn_mk (run_makeInterface _ 3 _ con3) (of_lvv (hK _ ⟨p, c, ?_⟩))
  have := h.cut p l.length (by omega)
  have e2 : (iw (l ++ [x])).take (l.length * 1) = iw l := by simp [iw, iv]
  rw [e2] at this
  exact this
theorem swap_perm {l : List Int} {i j : Nat} (hi : i < l.length) (hj : j < l.length) : ((l.set i (l.getD j 0)).set j (l.getD i 0)).Perm l := by
  have e1 : l.getD j 0 = l[j] := by simp [hj]
  have e2 : l.getD i 0 = l[i] := by simp [hi]
  rw [e1, e2]
  exact List.set_set_perm hi hj
theorem swap_p (h : Hq w0 L c0 c1 c2 c3 c4 c5 c6 c7 c8 d0 d1 d2 Rs m o l w) {i j : Int} (hi : 0 ≤ i ∧ i < l.length) (hj : 0 ≤ j ∧ j < l.length)
    (hK : ∀ l' w', l'.Perm l → Hq w0 L c0 c1 c2 c3 c4 c5 c6 c7 c8 d0 d1 d2 Rs m o l' w' → K (.tuple #[]) w') : clm Z Tryz.prog "Swap" #[hpv L, i6 i, i6 j] w K :=
  swap_m h hi hj fun w' h' => hK _ w' (swap_perm (by omega) (by omega)) h'
theorem up_k (h : Hq w0 L c0 c1 c2 c3 c4 c5 c6 c7 c8 d0 d1 d2 Rs m o l w) (hl : l.length ≤ 1000000) {j : Int} (hj : 0 ≤ j ∧ j < l.length)
    (hK : ∀ l' w', l'.Perm l → Hq w0 L c0 c1 c2 c3 c4 c5 c6 c7 c8 d0 d1 d2 Rs m o l' w' → K (.tuple #[]) w') : clz Z Tryz.prog 206 #[hpv L, i6 j] w K := by
  apply F206_calls
  unfold F206
  refine lp_mk (fun k : Nat => [.int .i64 (k : Int)]) (fun n k w' => n = k ∧ k < l.length ∧ ∃ l', l'.Perm l ∧ Hq w0 L c0 c1 c2 c3 c4 c5 c6 c7 c8 d0 d1 d2 Rs m o l' w') j.toNat j.toNat (by rw [Int.toNat_of_nonneg hj.1]) ⟨rfl, by omega, l, List.Perm.refl _, h⟩ ?_
  clear h
  rintro n k w1 ⟨rfl, hk, l', hp, h⟩ J hJ
  have hlen := hp.length_eq
  have ei : ∃ i : Nat, IntKind.wrap .i64 (Int.tdiv (IntKind.wrap .i64 ((n : Int) - 1)) 2) = (i : Int) ∧ i ≤ n ∧ (i = n → n = 0) := by
    rw [wr64 (n := (n : Int) - 1) (by omega) (by omega)]
    by_cases h0 : n = 0
    · subst h0
      exact ⟨0, by decide, by omega, fun _ => rfl⟩
    · refine ⟨(n - 1) / 2, ?_, by omega, by omega⟩
      have e : ((n : Int) - 1) = ((n - 1 : Nat) : Int) := by omega
      rw [e]
      have e2 : Int.tdiv ((n - 1 : Nat) : Int) 2 = (((n - 1) / 2 : Nat) : Int) := rfl
      rw [e2, wr64 (by omega) (by omega)]
  obtain ⟨i, ei, hin, hi0⟩ := ei
  refine sp ?_
  rw [ei]
  refine sp (jn_of (fun s w' => ∃ b, s = [.bool b] ∧ (b = false → i < n) ∧ Hq w0 L c0 c1 c2 c3 c4 c5 c6 c7 c8 d0 d1 d2 Rs m o l' w') ?_ fun J2 hJ2 => ?_)
  · rintro _ w2 ⟨b, rfl, hb, h⟩
    refine sp (cond_split (fun _ => hK _ _ hp h) fun hbf => ?_)
    have := hb hbf
    refine swap_p h (i := (i : Int)) (j := (n : Int)) (by omega) (by omega) fun l2 w3 hp2 h => sp ?_
    exact hJ i i w3 this ⟨rfl, by omega, l2, hp2.trans hp, h⟩
  · refine cond_split (fun _ => hJ2 _ _ ⟨_, rfl, by simp, h⟩) fun hne => ?_
    have hne : (i : Int) ≠ (n : Int) := by simpa using hne
    refine less_m h (i := (n : Int)) (j := (i : Int)) (by omega) (by omega) fun b w2 h => sp ?_
    exact hJ2 _ _ ⟨_, rfl, fun _ => by omega, h⟩
theorem down_k (h : Hq w0 L c0 c1 c2 c3 c4 c5 c6 c7 c8 d0 d1 d2 Rs m o l w) (hl : l.length ≤ 1000000) {n : Int} (hn : 0 ≤ n ∧ n < l.length)
    (hK : ∀ b l' w', l'.Perm l → Hq w0 L c0 c1 c2 c3 c4 c5 c6 c7 c8 d0 d1 d2 Rs m o l' w' → K (.bool b) w') : clz Z Tryz.prog 159 #[hpv L, i6 0, i6 n] w K := by
  apply F159_calls
  unfold F159
  refine sp (jn_of (fun s w' => ∃ (z : Int) (l' : List Int), s = [i6 z] ∧ l'.Perm l ∧ Hq w0 L c0 c1 c2 c3 c4 c5 c6 c7 c8 d0 d1 d2 Rs m o l' w') ?_ fun J hJ => ?_)
  · rintro _ w2 ⟨z, l', rfl, hp, h⟩
    exact sp (hK _ _ _ hp h)
  refine lp_mk (fun k : Nat => [.int .i64 (k : Int)]) (fun f k w' => f = l.length - k ∧ k < l.length ∧ ∃ l', l'.Perm l ∧ Hq w0 L c0 c1 c2 c3 c4 c5 c6 c7 c8 d0 d1 d2 Rs m o l' w') l.length 0 rfl ⟨rfl, by omega, l, List.Perm.refl _, h⟩ ?_
  clear h
  rintro f k w1 ⟨rfl, hk, l', hp, h⟩ J2 hJ2
  have hlen := hp.length_eq
  have e1 : IntKind.wrap .i64 ((IntKind.wrap .i64 ((2 : Int) * (k : Int))) + (1 : Int)) = ((2 * k + 1 : Nat) : Int) := by
    rw [wr64 (n := (2 : Int) * (k : Int)) (by omega) (by omega), wr64 (by omega) (by omega)]; omega
  refine sp (sp ?_)
  rw [e1]
  refine jn_of (fun s w' => ∃ b, s = [.bool b] ∧ (b = false → ((2 * k + 1 : Nat) : Int) < n) ∧ w' = w1) ?_ fun J3 hJ3 => cond_split (fun hc => hJ3 _ _ ⟨_, rfl, by simp, rfl⟩) fun hc => hJ3 _ _ ⟨_, rfl, fun _ => by have := of_decide_eq_false hc; omega, rfl⟩
  rintro _ _ ⟨b, rfl, hb, rfl⟩
  refine sp (cond_split (fun _ => hJ _ _ ⟨_, l', rfl, hp, h⟩) fun hbf => sp ?_)
  have hb := hb hbf
  refine jn_of (fun s w' => ∃ z : Nat, s = [.int .i64 (z : Int)] ∧ k < z ∧ z < l.length ∧ Hq w0 L c0 c1 c2 c3 c4 c5 c6 c7 c8 d0 d1 d2 Rs m o l' w') ?_ fun J4 hJ4 => ?_
  · rintro _ w2 ⟨z, rfl, hkz, hz, h⟩
    refine sp (less_m h (i := (z : Int)) (j := (k : Int)) (by omega) (by omega) fun b w3 h => sp (cond_split (fun _ => hJ _ _ ⟨_, l', rfl, hp, h⟩) fun _ => ?_))
    refine swap_p h (i := (k : Int)) (j := (z : Int)) (by omega) (by omega) fun l2 w4 hp2 h => sp ?_
    exact hJ2 (l.length - z) z w4 (by omega) ⟨rfl, hz, l2, hp2.trans hp, h⟩
  · have e2 : IntKind.wrap .i64 (((2 * k + 1 : Nat) : Int) + (1 : Int)) = ((2 * k + 2 : Nat) : Int) := by
      rw [wr64 (by omega) (by omega)]; omega
    refine sp ?_
    rw [e2]
    refine jn_of (fun s w' => ∃ b, s = [.bool b] ∧ (b = true → ((2 * k + 2 : Nat) : Int) < n) ∧ Hq w0 L c0 c1 c2 c3 c4 c5 c6 c7 c8 d0 d1 d2 Rs m o l' w') ?_ fun J5 hJ5 => ?_
    · rintro _ w2 ⟨b, rfl, hb2, h⟩
      refine sp (cond_split (fun ht => sp (hJ4 _ _ ⟨2 * k + 2, rfl, by omega, by have := hb2 ht; omega, h⟩)) fun _ => hJ4 _ _ ⟨2 * k + 1, rfl, by omega, by omega, h⟩)
    · refine cond_split (fun hc => ?_) fun hc => hJ5 _ _ ⟨_, rfl, by simp, h⟩
      have hc := of_decide_eq_true hc
      exact less_m h (i := ((2 * k + 2 : Nat) : Int)) (j := ((2 * k + 1 : Nat) : Int)) (by omega) (by omega) fun b w2 h => sp (hJ5 _ _ ⟨_, rfl, fun _ => hc, h⟩)
theorem hpush_k (h : Hq w0 L c0 c1 c2 c3 c4 c5 c6 c7 c8 d0 d1 d2 Rs m o l w) (hl : l.length ≤ 500000) {x : Int}
    (hK : ∀ l' w', l'.Perm (x :: l) → Hq w0 L c0 c1 c2 c3 c4 c5 c6 c7 c8 d0 d1 d2 Rs m o l' w' → K (.tuple #[]) w') : cl Tryz.prog 156 #[hpv L, .iface 3 (i6 x)] w K := by
  refine cl_of_clz ?_
  apply F156_calls
  unfold F156
  refine push_m h (by omega) fun w1 h => ?_
  refine len_m h (sp ?_)
  have e : IntKind.wrap .i64 (((l ++ [x]).length : Int) - 1) = (l.length : Int) := by
    simp only [List.length_append, List.length_singleton]
    rw [wr64 (by omega) (by omega)]; omega
  rw [e]
  have hpx : (l ++ [x]).Perm (x :: l) := List.perm_append_comm (l₁ := l) (l₂ := [x])
  refine up_k h (by simp; omega) (by simp; omega) fun l' w2 hp h => hK _ _ (hp.trans hpx) h
theorem hpop_k (h : Hq w0 L c0 c1 c2 c3 c4 c5 c6 c7 c8 d0 d1 d2 Rs m o l w) (hl : l.length ≤ 500000) (h0 : l ≠ [])
    (hK : ∀ x l' w', (x :: l').Perm l → Hq w0 L c0 c1 c2 c3 c4 c5 c6 c7 c8 d0 d1 d2 Rs m o l' w' → K (.iface 3 (i6 x)) w') : clz Z Tryz.prog 108 #[hpv L] w K := by
  apply F108_calls
  unfold F108
  have hpos : 0 < l.length := List.length_pos_iff.2 h0
  refine of_lvv (len_m h (sp (sp ?_)))
  have e : IntKind.wrap .i64 ((l.length : Int) - 1) = ((l.length - 1 : Nat) : Int) := by rw [wr64 (by omega) (by omega)]; omega
  rw [e]
  refine swap_p h (by omega) (by omega) fun l1 w1 hp1 h => ?_
  have hl1 := hp1.length_eq
  refine down_k h (by omega) (by omega) fun b l2 w2 hp2 h => sp ?_
  have hl2 := hp2.length_eq
  have hne : l2 ≠ [] := List.length_pos_iff.1 (by omega)
  rw [← List.dropLast_concat_getLast hne] at h
  refine pop_m h (by simp; omega) fun w3 h => of_lvv (hK _ _ _ ?_ h)
  refine List.Perm.trans ?_ (hp2.trans hp1)
  conv => rhs; rw [← List.dropLast_concat_getLast hne]
  exact (List.perm_append_comm (l₁ := l2.dropLast) (l₂ := [l2.getLast hne])).symm
end
end Go.Proofs.YtndbhmmejjhcfaaGreatDoor
namespace Go.Proofs.YtndbhmmejjhcfaaGreatDoor
open Go Go.Sx Go.Vp
theorem sum_le {α : Type} {f : α → Nat} {b : Nat} : ∀ {l : List α}, (∀ x ∈ l, f x ≤ b) → (l.map f).sum ≤ l.length * b
  | [], _ => by simp
  | x :: l, h => by
    have h1 := h x List.mem_cons_self
    have h2 := sum_le (l := l) (f := f) (b := b) fun y hy => h y (List.mem_cons_of_mem _ hy)
    simp only [List.map_cons, List.sum_cons, List.length_cons, Nat.add_mul]
    omega
theorem rowLen_le {α : Type} {f : α → Nat} {b : Nat} {l : List α} (h : ∀ x ∈ l, f x ≤ b) : rowLen f l ≤ 10 + l.length * b := by
  have := sum_le h
  have := lenN_le l.length
  unfold rowLen
  omega
theorem typedB_iff {t : Int} : typedB t = true ↔ 1 ≤ t ∧ t ≤ 4 := by unfold typedB; simp
structure OkG (g : Gl) : Prop where
  t : 1 ≤ g.t ∧ g.t ≤ 4
  z : 0 ≤ g.z ∧ g.z ≤ 256
  v : g.t = 3 → g.v = 0 ∨ g.v = 1
structure OkF (x : Fs) : Prop where
  nm : x.nm.size ≤ 24
  par : x.f.par.length ≤ 8
  loc : x.f.loc.length ≤ 32
  code : x.f.code.length ≤ 32768
  lt : ∀ t ∈ x.f.loc, 1 ≤ t ∧ t ≤ 4
  res : 0 ≤ x.f.res ∧ x.f.res ≤ 4
  pre : x.f.par = x.f.loc.take x.f.par.length
  pl : x.f.par.length ≤ x.f.loc.length
  ins : ∀ i ∈ x.f.code, (1 ≤ i.op ∧ i.op ≤ 33) ∧ 0 ≤ i.b ∧ i.b ≤ 4
structure OkI (I : Is) : Prop where
  gn : I.gl.length ≤ 64
  fnn : I.fs.length ≤ 64
  gl : ∀ g ∈ I.gl, OkG g
  fn : ∀ x ∈ I.fs, OkF x
theorem globB_ok {g : Gl} (h : globB g = true) : OkG g := by
  unfold globB at h
  simp only [Bool.and_eq_true, decide_eq_true_eq, typedB_iff] at h
  obtain ⟨h1, h2, h3, h4⟩ := h
  refine ⟨h1, ⟨h2, h3⟩, fun e => ?_⟩
  by_cases hz : g.z > 0 ∨ g.t = 4
  · rw [if_pos hz] at h4
    simp only [Bool.and_eq_true, decide_eq_true_eq] at h4
    omega
  · rw [if_neg hz, if_pos e] at h4
    simp only [Bool.and_eq_true, decide_eq_true_eq] at h4
    omega
theorem fnB_ok {x : Fs} (h : fnB x = true) : OkF x := by
  unfold fnB at h
  simp only [Bool.and_eq_true, decide_eq_true_eq, Bool.or_eq_true, beq_iff_eq, typedB_iff, Bool.not_eq_true', List.any_eq_false] at h
  obtain ⟨⟨h1, h2, h3, h4, h5, h6⟩, h7, h8, h9⟩ := h
  unfold nameB at h1
  simp only [Bool.and_eq_true, decide_eq_true_eq] at h1
  refine ⟨by omega, by omega, by omega, by omega, fun t ht => ?_, by omega, h8, by omega, fun i hi => ?_⟩
  · have := h5 t ht
    simpa [typedB] using this
  · have := h9 i hi
    unfold insB at this
    simp only [Bool.or_eq_true, decide_eq_true_eq] at this
    omega
theorem okB_ok {I : Is} (h : okB I = true) : OkI I := by
  unfold okB at h
  simp only [Bool.and_eq_true, decide_eq_true_eq, Bool.not_eq_true', List.any_eq_false] at h
  obtain ⟨h1, h2, h3, h4⟩ := h
  exact ⟨by omega, by omega, fun g hg => globB_ok (by simpa using h3 g hg), fun x hx => fnB_ok (by simpa using h4 x hx)⟩
section
variable {I : Is}
theorem OkI.ty (h : OkI I) : TyOK I := by
  have hg := h.gn
  have hf := h.fnn
  refine ⟨fun g hg => ?_, fun x hx => ⟨fun t ht => ?_, (h.fn x hx).res, fun t ht => ?_⟩, by omega, by omega, fun x hx => ?_⟩
  · have := (h.gl g hg).t
    exact ⟨by omega, this.2⟩
  · rw [(h.fn x hx).pre] at ht
    have := (h.fn x hx).lt t (List.mem_of_mem_take ht)
    exact ⟨by omega, this.2⟩
  · have := (h.fn x hx).lt t ht
    exact ⟨by omega, this.2⟩
  · have h1 := (h.fn x hx).par
    have h2 := (h.fn x hx).loc
    have h3 := (h.fn x hx).code
    exact ⟨by omega, by omega, by omega⟩
theorem OkI.sized (h : OkI I) : Sized I := by
  refine ⟨h.gn, h.fnn, fun g hg => (h.gl g hg).z.2, fun x hx => ?_⟩
  have h1 := (h.fn x hx).par
  have h2 := (h.fn x hx).loc
  have h3 := (h.fn x hx).code
  exact ⟨by omega, by omega, by omega⟩
theorem OkI.verified (h : OkI I) (hD : DecOK I) {T : Nat → Nat → Option Lt} (hT : ∀ k g, I.im.fn[k]? = some g → Typing I.im g (T k)) : Verified I.im T := by
  refine ⟨hT, fun g hg => ?_, fun g hg i hi => ?_⟩
  · obtain ⟨x, hx, rfl⟩ := List.mem_map.1 hg
    refine ⟨x.f.loc.drop x.f.par.length, ?_⟩
    conv => rhs; rw [(h.fn x hx).pre]
    have := (h.fn x hx).pl
    rw [List.length_take, Nat.min_eq_left this, List.take_append_drop]
  · obtain ⟨x, hx, rfl⟩ := List.mem_map.1 hg
    exact ⟨((hD.fn x hx).i64 i hi).2.1, ((h.fn x hx).ins i hi).1⟩
theorem OkI.insK (h : OkI I) (hD : DecOK I) {x : Fs} (hx : x ∈ I.fs) {i : Ins} (hi : i ∈ x.f.code) : InsK i :=
  ⟨((h.fn x hx).ins i hi).1, ((h.fn x hx).ins i hi).2, ((hD.fn x hx).i64 i hi).2.1⟩
theorem OkI.enc (h : OkI I) {w : World} (hI : IsAt w I) : EncOK w I := by
  have hgn := h.gn
  have hfn := h.fnn
  refine ⟨fun g hg => ?_, fun x hx => ?_, by omega, by omega, ?_⟩
  · have h1 := (h.gl g hg).t
    have h2 := (h.gl g hg).z
    exact ⟨⟨by omega, by omega⟩, by omega, by omega⟩
  · have k := h.fn x hx
    have h1 := k.nm
    have h2 := k.loc
    have h3 := k.code
    refine ⟨hI.each x hx, by omega, k.pl, by omega, by omega, fun v hv => ?_, ?_, fun v hv => ?_, fun i hi => ?_⟩
    · rw [k.pre] at hv
      have := k.lt v (List.mem_of_mem_take hv)
      exact ⟨by omega, by omega⟩
    · have := k.res
      exact ⟨by omega, by omega⟩
    · have := k.lt v hv
      exact ⟨by omega, by omega⟩
    · have := k.ins i hi
      exact ⟨⟨by omega, by omega⟩, by omega, by omega⟩
  · have n1 : ∀ v, natL v ≤ 10 := fun v => lenN_le _
    have a1 : rowLen glE I.gl ≤ 10 + I.gl.length * 30 := rowLen_le fun g _ => by
      have := n1 g.t; have := n1 g.z; have := lenN_le (zigN g.v)
      unfold glE; omega
    have a2 : rowLen fnL I.fs ≤ 10 + I.fs.length * 1000000 := rowLen_le fun x hx => by
      have k := h.fn x hx
      have b1 := k.nm
      have b2 := k.par
      have b3 := k.loc
      have b4 := k.code
      have c1 := lenN_le x.nm.size
      have c2 : rowLen natL x.f.par ≤ 10 + x.f.par.length * 10 := rowLen_le fun v _ => n1 v
      have c3 := n1 x.f.res
      have c4 : rowLen natL (x.f.loc.drop x.f.par.length) ≤ 10 + (x.f.loc.drop x.f.par.length).length * 10 := rowLen_le fun v _ => n1 v
      have c5 : rowLen insL x.f.code ≤ 10 + x.f.code.length * 30 := rowLen_le fun i _ => by
        have := n1 i.op; have := n1 i.b; have := lenN_le (zigN i.a)
        unfold insL; omega
      rw [List.length_drop] at c4
      unfold fnL textLen
      omega
    unfold encL
    omega
theorem OkI.vals (h : OkI I) (hD : DecOK I) : ∀ g ∈ I.gl, okV (l5 g.t) g.v := by
  intro g hg
  refine ⟨(hD.gl g hg).2.2, fun e => (h.gl g hg).v ?_⟩
  have := (h.gl g hg).t
  have h4 : g.t = 1 ∨ g.t = 2 ∨ g.t = 3 ∨ g.t = 4 := by omega
  rcases h4 with e4 | e4 | e4 | e4 <;> rw [e4] at e ⊢ <;> revert e <;> decide
end
end Go.Proofs.YtndbhmmejjhcfaaGreatDoor
namespace Go.Sx
open Go Go.RowKit
set_option linter.unusedSectionVars false
theorem g_obj {P : Program} {w : World} {r : Nat} {es : Array MapEntry} {clock : Nat} (hb : w.heap[r]? = some (.map es clock)) : (getObj r).run P w = .ok (.map es clock) w := by
  simp [getObj, Sem.run, hb]
theorem s_obj {P : Program} {w : World} {r : Nat} {es : Array MapEntry} {clock : Nat} (o : Obj) (hb : w.heap[r]? = some (.map es clock)) : (setObj r o).run P w = .ok () { w with heap := w.heap.setIfInBounds r o } := by
  simp [setObj, Sem.run, hb]
section
variable {α β : Type} [DecidableEq α]
def afind (a : α) : List (α × β) → Nat → Option (Nat × β)
  | [], _ => none
  | x :: r, i => if x.1 = a then some (i, x.2) else afind a r (i + 1)
def aget (A : List (α × β)) (a : α) : Option β := (afind a A 0).map (·.2)
def aset : List (α × β) → α → β → List (α × β)
  | [], a, b => [(a, b)]
  | x :: r, a, b => if x.1 = a then (x.1, b) :: r else x :: aset r a b
def ents (enc : α → Value) (val : β → Value) : List (α × β) → List Nat → List MapEntry
  | [], _ => []
  | _, [] => []
  | x :: A, b :: bs => { key := enc x.1, val := val x.2, born := b } :: ents enc val A bs
theorem afind_shift (a : α) : ∀ (A : List (α × β)) (i : Nat), afind a A i = (afind a A 0).map (fun p => (p.1 + i, p.2))
  | [], i => rfl
  | x :: A, i => by
    unfold afind
    split
    · simp
    · rw [afind_shift a A (i + 1), afind_shift a A (0 + 1)]
      cases afind a A 0 with
      | none => rfl
      | some p => simp; omega
theorem afind_some {a : α} {b : β} : ∀ {A : List (α × β)} {i : Nat}, afind a A 0 = some (i, b) → A[i]? = some (a, b)
  | [], i, h => by simp [afind] at h
  | x :: A, i, h => by
    unfold afind at h
    split at h
    · rename_i hx
      simp only [Option.some.injEq, Prod.mk.injEq] at h
      obtain ⟨rfl, rfl⟩ := h
      simp [← hx]
    · rw [afind_shift] at h
      simp only [Option.map_eq_some_iff] at h
      obtain ⟨p, hp, he⟩ := h
      simp only [Prod.mk.injEq] at he
      obtain ⟨h1, h2⟩ := he
      obtain ⟨j, c⟩ := p
      simp only at h1 h2
      subst h2
      have := afind_some hp
      have e : i = j + 1 := by omega
      subst e
      simpa using this
theorem aset_eq {a : α} {b : β} {A : List (α × β)} : aset A a b = match afind a A 0 with
    | some (i, _) => A.set i (a, b)
    | none => A ++ [(a, b)] := by
  induction A with
  | nil => rfl
  | cons x A ih =>
    unfold aset afind
    split
    · rename_i h
      simp [h]
    · rename_i h
      rw [afind_shift, ih]
      cases hf : afind a A 0 with
      | none => simp
      | some p => simp
theorem ents_set (enc : α → Value) (val : β → Value) {a : α} {b : β} : ∀ {A : List (α × β)} {bs : List Nat} {i : Nat} {c : β}, A.length = bs.length → A[i]? = some (a, c) →
    ∃ e, (ents enc val A bs)[i]? = some e ∧ e.key = enc a ∧ e.val = val c ∧ bs[i]? = some e.born ∧ (ents enc val A bs).set i { e with val := val b } = ents enc val (A.set i (a, b)) bs ∧
      (ents enc val A bs).eraseIdx i = ents enc val (A.eraseIdx i) (bs.eraseIdx i)
  | [], _, i, c, _, h => by simp at h
  | x :: A, [], i, c, h, _ => by simp at h
  | x :: A, s :: bs, 0, c, h, hi => by
    simp only [List.getElem?_cons_zero, Option.some.injEq] at hi
    subst hi
    exact ⟨_, rfl, rfl, rfl, rfl, rfl, rfl⟩
  | x :: A, s :: bs, i + 1, c, h, hi => by
    obtain ⟨e, h1, h2, h3, h4, h5, h6⟩ := ents_set enc val (b := b) (A := A) (bs := bs) (i := i) (by simpa using h) (by simpa using hi)
    refine ⟨e, by simpa [ents] using h1, h2, h3, by simpa using h4, ?_, ?_⟩
    · simp only [ents, List.set_cons_succ, h5]
    · simp only [ents, List.eraseIdx_cons_succ, h6]
theorem ents_push (enc : α → Value) (val : β → Value) {x : α × β} {s : Nat} : ∀ {A : List (α × β)} {bs : List Nat}, A.length = bs.length →
    ents enc val A bs ++ [{ key := enc x.1, val := val x.2, born := s }] = ents enc val (A ++ [x]) (bs ++ [s])
  | [], [], _ => rfl
  | [], _ :: _, h => by simp at h
  | _ :: _, [], h => by simp at h
  | y :: A, b :: bs, h => by
    have := ents_push enc val (x := x) (s := s) (A := A) (bs := bs) (by simpa using h)
    simp only [ents, List.cons_append, this]
structure KeyT (P : Program) (t : TypeId) (enc : α → Value) (ok : α → Prop) : Prop where
  find : ∀ {β : Type} (val : β → Value) (a : α) (A : List (α × β)) (bs : List Nat) (w : World), ok a → (∀ x ∈ A, ok x.1) → A.length = bs.length →
    (Instr.findKey t (enc a) (ents enc val A bs)).run P w = .ok ((afind a A 0).map fun p => (p.1, val p.2)) w
  check : ∀ b a w, (Instr.checkKey b 10000 t (enc a)).run P w = .ok () w
  bits : ∀ a, Instr.sameBits 10000 (enc a) (enc a) = true
structure Mp (w : World) (m : Nat) (enc : α → Value) (val : β → Value) (A : List (α × β)) (bs : List Nat) (clk : Nat) : Prop where
  blk : w.heap[m]? = some (.map (ents enc val A bs).toArray clk)
  len : A.length = bs.length
  nd : bs.Nodup
  lt : ∀ b ∈ bs, b < clk
variable {P : Program} {t kt et : TypeId} {enc : α → Value} {ok : α → Prop} {val : β → Value} {w : World} {m : Nat} {A : List (α × β)} {bs : List Nat} {clk : Nat}
theorem Mp.lookup_ok (K : KeyT P kt enc ok) (ht : P.underlying t = some (.map kt et)) {z : Value} (hz : ∀ w, (zeroValue et).run P w = .ok z w) (h : Mp w m enc val A bs clk) (a : α) (ho : ok a ∧ ∀ x ∈ A, ok x.1) :
    (Instr.lookup t (.map (some m)) (enc a) true).run P w = .ok (.tuple #[((aget A a).map val).getD z, .bool (aget A a).isSome]) w := by
  unfold Instr.lookup
  simp only [Sem.run_bind, und_run ht, Result.andThen_ok, g_obj h.blk, Sem.run_pure, K.check, List.toList_toArray, K.find val a A bs w ho.1 ho.2 h.len, aget]
  cases hf : afind a A 0 with
  | none => simp [hz]
  | some p => simp
theorem Mp.lookup (K : KeyT P kt enc ok) (ht : P.underlying t = some (.map kt et)) {z : Value} (hz : ∀ w, (zeroValue et).run P w = .ok z w) (h : Mp w m enc val A bs clk) (a : α) (ho : ok a ∧ ∀ x ∈ A, ok x.1) :
    (Instr.lookup t (.map (some m)) (enc a) false).run P w = .ok (((aget A a).map val).getD z) w := by
  unfold Instr.lookup
  simp only [Sem.run_bind, und_run ht, Result.andThen_ok, g_obj h.blk, Sem.run_pure, K.check, List.toList_toArray, K.find val a A bs w ho.1 ho.2 h.len, aget]
  cases hf : afind a A 0 with
  | none => simp [hz]
  | some p => simp
def setObjW (w : World) (m : Nat) (o : Obj) : World := { w with heap := w.heap.setIfInBounds m o }
theorem setObjW_ext (w : World) (m : Nat) (o : Obj) : Ext (onl m) w (setObjW w m o) ∧ (setObjW w m o).heap.size = w.heap.size :=
  ⟨⟨rfl, rfl, rfl, by simp [setObjW], fun k _ hk => by simp only [setObjW]; rw [Array.getElem?_setIfInBounds_ne (fun e => hk e.symm)]⟩, by simp [setObjW]⟩
theorem setObjW_blk {w : World} {m : Nat} {o o' : Obj} (h : w.heap[m]? = some o') : (setObjW w m o).heap[m]? = some o := by
  have := blk_lt h
  simp [setObjW, this]
theorem keyStays (K : KeyT P kt enc ok) (a : α) (w : World) : (Instr.keyThatStays (enc a) (enc a)).run P w = .ok (enc a) w := by
  simp [Instr.keyThatStays, K.bits]
theorem modify_at {es : List MapEntry} {i : Nat} {e : MapEntry} (h : es[i]? = some e) (f : MapEntry → MapEntry) : (es.toArray.modify i f) = (es.set i (f e)).toArray := by
  apply Array.ext_getElem?
  intro j
  have hlt := (List.getElem?_eq_some_iff.1 h).1
  by_cases hj : i = j
  · subst hj
    have he : es[i] = e := (List.getElem?_eq_some_iff.1 h).2
    simp [hlt, he]
  · simp [hj]
theorem Mp.update (K : KeyT P kt enc ok) (ht : P.underlying t = some (.map kt et)) (h : Mp w m enc val A bs clk) (a : α) (ho : ok a ∧ ∀ x ∈ A, ok x.1) (b : β) {Q : World → Prop}
    (hQ : ∀ w' bs' clk', Mp w' m enc val (aset A a b) bs' clk' → Ext (onl m) w w' → w'.heap.size = w.heap.size → Q w') : ru P (Instr.mapUpdate t (.map (some m)) (enc a) (val b)) w Q := by
  have hr : ∃ bs' clk', (Instr.mapUpdate t (.map (some m)) (enc a) (val b)).run P w = .ok () (setObjW w m (.map (ents enc val (aset A a b) bs').toArray clk')) ∧ (aset A a b).length = bs'.length ∧ bs'.Nodup ∧ ∀ x ∈ bs', x < clk' := by
    unfold Instr.mapUpdate
    simp only [Sem.run_bind, und_run ht, Result.andThen_ok, g_obj h.blk, K.check, List.toList_toArray, K.find val a A bs w ho.1 ho.2 h.len]
    rw [aset_eq]
    cases hf : afind a A 0 with
    | none =>
      refine ⟨bs ++ [clk], clk + 1, ?_, by simp [h.len], ?_, ?_⟩
      · simp only [Option.map_none]
        rw [s_obj _ h.blk]
        have := ents_push enc val (x := (a, b)) (s := clk) h.len
        simp only [← this, List.push_toArray]
        rfl
      · rw [List.nodup_append]
        refine ⟨h.nd, by simp, ?_⟩
        intro x hx y hy
        simp only [List.mem_singleton] at hy
        have := h.lt x hx
        omega
      · intro x hx
        simp only [List.mem_append, List.mem_singleton] at hx
        rcases hx with hx | rfl
        · have := h.lt x hx; omega
        · omega
    | some p =>
      obtain ⟨i, c⟩ := p
      obtain ⟨e, h1, h2, h3, h4, h5, _⟩ := ents_set enc val (b := b) h.len (afind_some hf)
      refine ⟨bs, clk, ?_, by simp [h.len], h.nd, h.lt⟩
      simp only [Option.map_some, List.getElem?_toArray, h1, Option.getD_some, h2, Sem.run_bind, keyStays K, Result.andThen_ok]
      rw [s_obj _ h.blk, modify_at h1]
      have e2 : ({ e with key := enc a, val := val b } : MapEntry) = { e with val := val b } := by rw [← h2]
      simp only [e2, h5]
      rfl
  obtain ⟨bs', clk', hr, hl, hn, hlt⟩ := hr
  exact ru_mk hr (hQ _ bs' clk' ⟨setObjW_blk h.blk, hl, hn, hlt⟩ (setObjW_ext _ _ _).1 (setObjW_ext _ _ _).2)
structure MpE (w : World) (m : Nat) (enc : α → Value) (val : β → Value) (A : List (α × β)) (bs : List Nat) (clk : Nat) (i st : Nat) : Prop where
  mp : Mp w m enc val A bs clk
  st : bs[i]? = some st
theorem make_map (ht : P.underlying t = some (.map kt et)) {Q : Value → World → Prop}
    (hQ : ∀ w', Mp w' w.heap.size enc val ([] : List (α × β)) [] 0 → Ext no w w' → w'.heap.size = w.heap.size + 1 → Q (.map (some w.heap.size)) w') : rn P (Instr.makeMap t none) w Q := by
  have hr : (Instr.makeMap t none).run P w = .ok (.map (some w.heap.size)) (w.alloc (.map #[] 0)) := by
    simp [Instr.makeMap, newObj, Sem.run]
  exact rn_mk hr (hQ _ ⟨new_blk w _, rfl, List.nodup_nil, by simp⟩ (Ext.alloc w _) (new_size w _))
end
theorem keyT_int {P : Program} {t : TypeId} {k : IntKind} (hu : P.underlying t = some (.int k)) : KeyT P t (fun x : Int => Value.int k x) (fun _ => True) := by
  refine ⟨?_, ?_, ?_⟩
  · intro β val a A bs w _ _ hl
    have key : ∀ (A : List (Int × β)) (bs : List Nat) (i : Nat), A.length = bs.length → Instr.findNow (.int k) (.int k a) (ents (fun x : Int => Value.int k x) val A bs) i = some ((afind a A i).map fun p => (p.1, val p.2)) := by
      intro A
      induction A with
      | nil => intro bs i _; rfl
      | cons x A ih =>
        intro bs i hl
        cases bs with
        | nil => simp at hl
        | cons b bs =>
          have := ih bs (i + 1) (by simpa using hl)
          unfold ents afind Instr.findNow
          simp only [Instr.sameNow, if_true]
          by_cases h : x.1 = a
          · have h' : (a == x.1) = true := by simp [h]
            rw [h', if_pos h]
            rfl
          · have h' : (a == x.1) = false := by simp; omega
            rw [h', if_neg h]
            exact this
    unfold Instr.findKey
    simp only [Sem.run_bind, und_run hu, Result.andThen_ok, key A bs 0 hl, Sem.run_pure]
  · intro b a w
    have key : ∀ d, (Instr.checkKey b (d + 1) t (.int k a)).run P w = .ok () w := by
      intro d
      simp [Instr.checkKey, und_run hu]
    exact key 9999
  · intro a
    have key : ∀ d, Instr.sameBits d (.int k a) (.int k a) = true := by
      intro d
      simp [Instr.sameBits]
    exact key _
end Go.Sx
namespace Go.Sx
set_option linter.unusedSectionVars false
section
variable {α β γ : Type} [DecidableEq α]
theorem aget_cons {x : α × β} {A : List (α × β)} {a : α} : aget (x :: A) a = if x.1 = a then some x.2 else aget A a := by
  unfold aget
  rw [afind]
  split
  · rfl
  · rw [afind_shift]
    cases afind a A 0 <;> rfl
theorem aget_nil {a : α} : aget ([] : List (α × β)) a = none := rfl
theorem aget_aset {A : List (α × β)} {a : α} {b : β} {c : α} : aget (aset A a b) c = if c = a then some b else aget A c := by
  induction A with
  | nil =>
    simp only [aset, aget_cons, aget_nil]
    by_cases h : a = c
    · simp [h]
    · simp [h, Ne.symm h]
  | cons x A ih =>
    unfold aset
    split
    · rename_i hx
      rw [aget_cons, aget_cons]
      by_cases h : c = a
      · simp [hx, h]
      · have : ¬ x.1 = c := by rw [hx]; exact fun e => h e.symm
        simp [this, h]
    · rename_i hx
      rw [aget_cons, aget_cons, ih]
      by_cases h : x.1 = c
      · have : ¬ c = a := by rw [← h]; exact hx
        simp [h, this]
      · simp [h]
end
end Go.Sx
namespace Go.Vp
open Go Go.Sx
def TA (A : List (Int × Lt)) (k : Nat) : Option Lt := aget A (k : Int)
def cnt (A : List (Int × Lt)) : Nat → Nat
  | 0 => 0
  | n + 1 => cnt A n + if (aget A (n : Int)).isNone then 1 else 0
theorem cnt_nil : ∀ n, cnt [] n = n
  | 0 => rfl
  | n + 1 => by simp [cnt, cnt_nil n, aget_nil]
theorem cnt_ge {A : List (Int × Lt)} {to : Int} {s : Lt} : ∀ {n : Nat}, (n : Int) ≤ to → cnt (aset A to s) n = cnt A n
  | 0, _ => rfl
  | n + 1, h => by
    simp only [cnt]
    have e : ¬ (n : Int) = to := by omega
    rw [cnt_ge (n := n) (by omega), aget_aset, if_neg e]
theorem cnt_set {A : List (Int × Lt)} {to : Int} {s : Lt} (hn : aget A to = none) (h0 : 0 ≤ to) : ∀ {n : Nat}, to < n → cnt (aset A to s) n + 1 = cnt A n
  | 0, h => by omega
  | n + 1, h => by
    simp only [cnt]
    by_cases e : to = n
    · subst e
      rw [cnt_ge (Int.le_refl _), aget_aset, if_pos rfl, hn]
      simp
    · have := cnt_set (s := s) hn h0 (n := n) (by omega)
      have e2 : ¬ (n : Int) = to := fun e2 => e e2.symm
      rw [aget_aset, if_neg e2]
      omega
structure PI (X : Im) (f : Fi) (A : List (Int × Lt)) (U : List Int) : Prop where
  key : ∀ k s, aget A k = some s → 0 ≤ k ∧ k < f.code.length ∧ s.length ≤ 400
  un : ∀ k ∈ U, ∃ s, aget A k = some s
  done : ∀ (k : Nat) s, aget A (k : Int) = some s → (k : Int) ∉ U → ∃ i, f.code[k]? = some i ∧ StepOK X f (TA A) k s i
  snd : ∀ T, Typing X f T → ∀ (k : Nat) s, aget A (k : Int) = some s → T k = some s
  cap : U.length + cnt A f.code.length ≤ f.code.length
section
variable {X : Im} {f : Fi} {A : List (Int × Lt)} {U U' : List Int}
theorem PI.start : PI X f [] [] := ⟨by simp [aget_nil], by simp, by simp [aget_nil], by simp [aget_nil], by simp [cnt_nil]⟩
theorem PI.perm (h : PI X f A U) (hp : U'.Perm U) : PI X f A U' :=
  ⟨h.key, fun k hk => h.un k (hp.subset hk), fun k s hs hk => h.done k s hs fun h => hk (hp.symm.subset h), h.snd, by rw [hp.length_eq]; exact h.cap⟩
theorem StepOK.mono {T T' : Nat → Option Lt} (hT : ∀ k s, T k = some s → T' k = some s) {at' : Nat} {s : Lt} {i : Ins} (h : StepOK X f T at' s i) : StepOK X f T' at' s i :=
  ⟨h.ok, h.ends, h.most, h.ret, fun e => hT _ _ (h.jump e), fun e1 e2 => hT _ _ (h.next e1 e2)⟩
theorem ta_set {to : Int} {s : Lt} (hn : aget A to = none) (k : Nat) (t : Lt) (h : TA A k = some t) : TA (aset A to s) k = some t := by
  unfold TA at *
  rw [aget_aset, if_neg]
  · exact h
  · intro e; rw [e, hn] at h; cases h
theorem PI.add (h : PI X f A U) {to : Int} {s : Lt} (h0 : 0 ≤ to) (h1 : to < f.code.length) (hl : s.length ≤ 400) (hn : aget A to = none) (hs : ∀ T, Typing X f T → T to.toNat = some s) : PI X f (aset A to s) (to :: U) := by
  refine ⟨fun k t hk => ?_, fun k hk => ?_, fun k t hk hu => ?_, fun T hT k t hk => ?_, ?_⟩
  · rw [aget_aset] at hk
    split at hk
    · rename_i e; cases hk; subst e; exact ⟨h0, h1, hl⟩
    · exact h.key k t hk
  · rw [aget_aset]
    split
    · exact ⟨_, rfl⟩
    · rename_i e
      rcases List.mem_cons.1 hk with e2 | e2
      · exact absurd e2 e
      · exact h.un k e2
  · have e1 : (k : Int) ≠ to := fun e => hu (e ▸ List.mem_cons_self)
    rw [aget_aset, if_neg e1] at hk
    obtain ⟨i, hi, hst⟩ := h.done k t hk fun e => hu (List.mem_cons_of_mem _ e)
    exact ⟨i, hi, hst.mono (ta_set hn)⟩
  · rw [aget_aset] at hk
    split at hk
    · rename_i e
      cases hk
      have := hs T hT
      rw [← e] at this
      exact this
    · exact h.snd T hT k t hk
  · have := cnt_set (s := s) hn h0 h1
    have := h.cap
    rw [List.length_cons]
    omega
theorem PI.clash (h : PI X f A U) {to : Int} {s old : Lt} (ho : aget A to = some old) (hne : old ≠ s) (hs : ∀ T, Typing X f T → T to.toNat = some s) : ¬ ∃ T, Typing X f T := by
  rintro ⟨T, hT⟩
  have := h.key _ _ ho
  have h2 := h.snd T hT to.toNat old (by rw [Int.toNat_of_nonneg this.1]; exact ho)
  rw [hs T hT] at h2
  cases h2
  exact hne rfl
theorem PI.out {to : Int} {s : Lt} (he : to = f.code.length) (hs : ∀ T, Typing X f T → T to.toNat = some s) : ¬ ∃ T, Typing X f T := by
  rintro ⟨T, hT⟩
  obtain ⟨i, hi, _⟩ := hT.step _ _ (hs T hT)
  rw [he] at hi
  simp at hi
theorem PI.asks (h : PI X f A U) {k : Nat} {s : Lt} {i : Ins} (hs : aget A (k : Int) = some s) (hi : f.code[k]? = some i) {T : Nat → Option Lt} (hT : Typing X f T) : StepOK X f T k s i := by
  obtain ⟨j, hj, hst⟩ := hT.step k s (h.snd T hT k s hs)
  rw [hi] at hj
  cases hj
  exact hst
theorem PI.check {k : Nat} {s : Lt} {i : Ins} (h : PI X f A ((k : Int) :: U)) (hs : aget A (k : Int) = some s) (hi : f.code[k]? = some i) (hst : StepOK X f (TA A) k s i) : PI X f A U := by
  refine ⟨h.key, fun k hk => h.un k (List.mem_cons_of_mem _ hk), fun j t ht hu => ?_, h.snd, ?_⟩
  · by_cases e : j = k
    · subst e
      rw [hs] at ht
      cases ht
      exact ⟨i, hi, hst⟩
    · exact h.done j t ht fun e2 => by
        rcases List.mem_cons.1 e2 with e3 | e3
        · exact e (by omega)
        · exact hu e3
  · have := h.cap
    rw [List.length_cons] at this
    omega
theorem PI.fin (h : PI X f A []) (h0 : aget A 0 = some []) : ∃ T, Typing X f T :=
  ⟨TA A, ⟨h0, fun k s hk => h.done k s hk (by simp)⟩⟩
end
end Go.Vp
namespace Go.Proofs.YtndbhmmejjhcfaaGreatDoor
open Go Go.Sx Go.Vp
attribute [local irreducible] jn lv ld st nw asI asB asP asS asY asM asF asA asT lp rn ru rq cl dw dr bnd bn2 nz nn hd hr so eqW
attribute [local irreducible] callOk clz clm
set_option maxRecDepth 100000 in
theorem con214 : Tryz.prog.concrete 214 = true := rfl
set_option maxRecDepth 100000 in
theorem und3 : Tryz.prog.underlying 3 = some (.int .i64) := rfl
set_option maxRecDepth 100000 in
theorem und206 : Tryz.prog.underlying 206 = some (.map 3 9) := rfl
set_option maxRecDepth 100000 in
theorem zero9 (w : World) : (zeroValue 9).run Tryz.prog w = .ok (.string (B [])) w := rfl
abbrev enI : Int → Value := fun x : Int => Value.int .i64 x
def vaS (s : Lt) : Value := .string (B s)
theorem keyI : KeyT Tryz.prog 3 enI (fun _ => True) := keyT_int und3
structure Bs (A : List (Int × Lt)) (bs : List Nat) (clk : Nat) : Prop where
  len : A.length = bs.length
  nd : bs.Nodup
  lt : ∀ b ∈ bs, b < clk
abbrev moO (A : List (Int × Lt)) (bs : List Nat) (clk : Nat) : Obj := .map (ents enI vaS A bs).toArray clk
section
variable {w0 w : World} {Rs : List Rw} {m : Nat} {A : List (Int × Lt)} {bs : List Nat} {clk : Nat} {K : Value → World → Prop}
theorem Bs.mp (hB : Bs A bs clk) (h : Hm w0 w Rs m (moO A bs clk)) : Mp w m enI vaS A bs clk := ⟨h.blk, hB.len, hB.nd, hB.lt⟩
theorem upd_k (hB : Bs A bs clk) (h : Hm w0 w Rs m (moO A bs clk)) {to : Int} {s : Lt} {Q : World → Prop} (hQ : ∀ w' bs' clk', Bs (aset A to s) bs' clk' → Hm w0 w' Rs m (moO (aset A to s) bs' clk') → Q w') :
    ru Tryz.prog (Instr.mapUpdate 206 (.map (some m)) (i6 to) (.string (B s))) w Q :=
  Mp.update keyI und206 (hB.mp h) to ⟨trivial, fun _ _ => trivial⟩ s fun w' bs' clk' hm hx _ => hQ w' bs' clk' ⟨hm.len, hm.nd, hm.lt⟩ (h.wr hx hm.blk)
theorem look_ok (hB : Bs A bs clk) (h : Hm w0 w Rs m (moO A bs clk)) (to : Int) : (Instr.lookup 206 (.map (some m)) (i6 to) true).run Tryz.prog w = .ok (.tuple #[((aget A to).map vaS).getD (.string (B [])), .bool (aget A to).isSome]) w :=
  Mp.lookup_ok keyI und206 zero9 (hB.mp h) to ⟨trivial, fun _ _ => trivial⟩
theorem look_1 (hB : Bs A bs clk) (h : Hm w0 w Rs m (moO A bs clk)) {to : Int} {s : Lt} (hs : aget A to = some s) : (Instr.lookup 206 (.map (some m)) (i6 to) false).run Tryz.prog w = .ok (.string (B s)) w := by
  have := Mp.lookup keyI und206 zero9 (hB.mp h) to ⟨trivial, fun _ _ => trivial⟩
  rw [hs] at this
  exact this
def Lo (w0 : World) (L : Nat) (I : Is) (x : Fs) (n : Int) (m : Nat) (Rs : List Rw) (A : List (Int × Lt)) (l : List Int) (mx f1 f2 : Int) (w : World) : Prop :=
  ∃ bs clk, Bs A bs clk ∧ Hq w0 L (.slice I.gp I.gl.length I.gc) (.slice I.fp I.fs.length I.fc) (.string x.nm) (.slice x.pp x.f.par.length x.pc) (i6 x.f.res) (.slice x.lp x.f.loc.length x.lc) (.slice x.cp x.f.code.length x.cc) (i6 n) (.map (some m)) (i6 mx) (i6 f1) (i6 f2) Rs m (moO A bs clk) l w
variable {L : Nat} {I : Is} {x : Fs} {n : Int} {l : List Int} {mx f1 f2 : Int}
theorem Lo.to {w' : World} (h : Lo w0 L I x n m Rs A l mx f1 f2 w) (hx : Ext no w w') : Lo w0 L I x n m Rs A l mx f1 f2 w' := by
  obtain ⟨bs, clk, hB, p, c, h⟩ := h
  exact ⟨bs, clk, hB, p, c, h.to hx⟩
theorem Lo.ext (h : Lo w0 L I x n m Rs A l mx f1 f2 w) : Ext no w0 w := by
  obtain ⟨bs, clk, hB, p, c, h⟩ := h
  exact h.ext
theorem wrong_k (h : Lo w0 L I x n m Rs A l mx f1 f2 w) {code at' : Int} (hK : ∀ f2' w', Lo w0 L I x n m Rs A l mx code f2' w' → K (.bool false) w') : cl Tryz.prog 155 #[.pointer (some ⟨L, 0, none⟩), i6 code, i6 at'] w K := by
  obtain ⟨bs, clk, hB, p, c, h⟩ := h
  apply F155_calls
  unfold F155
  repeat first|refine sp ?_|refine cond_t rfl ?_|refine cond_f rfl ?_|refine asT_i rfl rfl ?_|refine asA_i rfl rfl ?_|refine h.l rfl ?_|refine h.hd rfl ?_|(refine h.sb rfl rfl ?_;clear h;intro _ h)|(refine h.dw ?_;clear h;intro _ h)
  exact hK (IntKind.wrap .i64 ((IntKind.wrap .i64 (n * 2 ^ (min (Int.toNat (16 : Int)) 64))) + at')) _ ⟨bs, clk, hB, p, c, h⟩
theorem goes_k (h : Lo w0 L I x n m Rs A l mx f1 f2 w) (hl : l.length ≤ 500000) {fr to : Int} {s : Lt}
    (hW : (to = x.f.code.length ∨ ∃ old, aget A to = some old ∧ old ≠ s) → ∀ code f2' w', code ≠ 0 → Lo w0 L I x n m Rs A l mx code f2' w' → K (.bool false) w')
    (hO : aget A to = some s → ∀ w', Lo w0 L I x n m Rs A l mx f1 f2 w' → K (.bool true) w')
    (hN : to ≠ x.f.code.length → aget A to = none → ∀ l' w', l'.Perm (to :: l) → Lo w0 L I x n m Rs (aset A to s) l' mx f1 f2 w' → K (.bool true) w') :
    cl Tryz.prog 105 #[.pointer (some ⟨L, 0, none⟩), i6 fr, i6 to, .string (B s)] w K := by
  have hw := h
  obtain ⟨bs, clk, hB, p, c, h⟩ := h
  apply F105_calls
  unfold F105
  repeat first|refine sp ?_|refine cond_t rfl ?_|refine cond_f rfl ?_|refine asT_i rfl rfl ?_|refine asA_i rfl rfl ?_|refine h.l rfl ?_|refine h.hd rfl ?_|(refine h.sb rfl rfl ?_;clear h;intro _ h)|(refine h.dw ?_;clear h;intro _ h)
  refine cond_split (fun hc => ?_) fun hc => ?_
  · refine wrong_k hw fun f2' w' h' => sp (hW (.inl (by simpa using hc)) _ _ _ (by decide) h')
  have hc : to ≠ x.f.code.length := by simpa using hc
  repeat first|refine sp ?_|refine cond_t rfl ?_|refine cond_f rfl ?_|refine asT_i rfl rfl ?_|refine asA_i rfl rfl ?_|refine h.l rfl ?_|refine h.hd rfl ?_|(refine h.sb rfl rfl ?_;clear h;intro _ h)|(refine h.dw ?_;clear h;intro _ h)
  refine rq_mk (look_ok hB h to) ?_
  cases hA : aget A to with
  | some old =>
    refine asT_i (l := [Value.string (B old), .bool true]) rfl rfl (sp (sp ?_))
    refine jn_mk (cond_t rfl (sp ?_))
    rw [beq_B]
    refine cond_split (fun hne => ?_) fun heq => ?_
    · have hne : old ≠ s := by simpa using hne
      exact wrong_k hw fun f2' w' h' => sp (hW (.inr ⟨old, hA, hne⟩) _ _ _ (by decide) h')
    · have heq : old = s := by simpa using heq
      refine jn_mk (cond_f rfl ?_)
      exact hO (by rw [hA, heq]) _ ⟨bs, clk, hB, p, c, h⟩
  | none =>
    refine asT_i (l := [Value.string (B []), .bool false]) rfl rfl (sp (sp ?_))
    refine jn_mk (cond_f rfl (sp (cond_f rfl (jn_mk (cond_t rfl ?_)))))
    repeat first|refine sp ?_|refine cond_t rfl ?_|refine cond_f rfl ?_|refine asT_i rfl rfl ?_|refine asA_i rfl rfl ?_|refine h.l rfl ?_|refine h.hd rfl ?_|(refine h.sb rfl rfl ?_;clear h;intro _ h)|(refine h.dw ?_;clear h;intro _ h)
    refine upd_k hB h ?_
    clear h hB
    intro w1 bs clk hB h
    repeat first|refine sp ?_|refine cond_t rfl ?_|refine cond_f rfl ?_|refine asT_i rfl rfl ?_|refine asA_i rfl rfl ?_|refine h.l rfl ?_|refine h.hd rfl ?_|(refine h.sb rfl rfl ?_;clear h;intro _ h)|(refine h.dw ?_;clear h;intro _ h)
    refine rn_mk (run_makeInterface _ 214 _ con214) (rn_mk (run_makeInterface _ 3 _ con3) ?_)
    exact hpush_k ⟨p, c, h⟩ hl fun l' w2 hp h2 => hN hc hA l' w2 hp ⟨bs, clk, hB, h2⟩
end
end Go.Proofs.YtndbhmmejjhcfaaGreatDoor
namespace Go.Proofs.YtndbhmmejjhcfaaGreatDoor
open Go Go.Sx Go.Vp
theorem _root_.Go.Sx.hr_i {P : Program} {w : World} {s : Sem Value} {v : Value} {X : Prop} (h : s.run P w = .ok v w) (hx : X) : hr P w s v X := ⟨h, hx⟩
theorem globL_len (X : Im) (a : Int) (b : Bool) : (globL X a b).length ≤ 1 := by
  unfold globL
  split
  · simp
  · split
    · split <;> simp
    · simp
theorem resL_len (t : Int) : (resL t).length ≤ 1 := by unfold resL; split <;> simp
theorem plainV_len (op : Int) : (plainV op).1.length ≤ 2 ∧ (plainV op).2.length ≤ 1 := by
  unfold plainV
  repeat' split
  all_goals simp
theorem sysL_len (n : Nat) : (sysL.getD n ([], 0)).1.length ≤ 10 := by
  have h : ∀ e ∈ sysL, e.1.length ≤ 10 := by decide
  by_cases hn : n < sysL.length
  · have : sysL.getD n ([], 0) = sysL[n] := by simp [hn]
    rw [this]
    exact h _ (List.getElem_mem hn)
  · have : sysL.getD n ([], 0) = ([], 0) := by simp [List.getElem?_eq_none (Nat.le_of_not_lt hn)]
    rw [this]
    simp
theorem means_len {X : Im} {f : Fi} {i : Ins} (hp : ∀ g ∈ X.fn, g.par.length ≤ 1000) : (meansM X f i).1.length ≤ 1000 ∧ (meansM X f i).2.1.length ≤ 1000 := by
  have g1 := globL_len X i.a false
  have g2 := globL_len X i.a true
  have g3 := resL_len f.res
  have g4 := plainV_len i.op
  have g5 := sysL_len i.a.toNat
  have g6 := resL_len (sysL.getD i.a.toNat ([], 0)).2
  have g7 := resL_len (X.fn.getD i.a.toNat ⟨[], 0, [], []⟩).res
  have g8 : (X.fn.getD i.a.toNat ⟨[], 0, [], []⟩).par.length ≤ 1000 := by
    by_cases hn : i.a.toNat < X.fn.length
    · have : X.fn.getD i.a.toNat ⟨[], 0, [], []⟩ = X.fn[i.a.toNat] := by simp [hn]
      rw [this]
      exact hp _ (List.getElem_mem hn)
    · have : X.fn.getD i.a.toNat ⟨[], 0, [], []⟩ = ⟨[], 0, [], []⟩ := by simp [List.getElem?_eq_none (Nat.le_of_not_lt hn)]
      rw [this]
      simp
  have key : ∀ r, meansM X f i = r → r.1.length ≤ 1000 ∧ r.2.1.length ≤ 1000 := by
    intro r hr
    unfold meansM at hr
    simp only [] at hr
    have fin : ∀ {tk pu : Lt} {ok : Bool}, (tk, pu, ok) = r → tk.length ≤ 1000 → pu.length ≤ 1000 → r.1.length ≤ 1000 ∧ r.2.1.length ≤ 1000 := fun e h1 h2 => by subst e; exact ⟨h1, h2⟩
    by_cases a1 : i.op = 1
    · rw [if_pos a1] at hr; exact fin hr (by simp) (by simp)
    rw [if_neg a1] at hr
    by_cases a2 : i.op = 2 ∨ i.op = 3
    · rw [if_pos a2] at hr
      by_cases b2 : i.a < 0 ∨ i.a ≥ f.loc.length
      · rw [if_pos b2] at hr; exact fin hr (by simp) (by simp)
      rw [if_neg b2] at hr
      by_cases b3 : i.op = 3
      · rw [if_pos b3] at hr; exact fin hr (by simp) (by simp)
      · rw [if_neg b3] at hr; exact fin hr (by simp) (by simp)
    rw [if_neg a2] at hr
    by_cases a4 : i.op = 4
    · rw [if_pos a4] at hr; exact fin hr (by simp) (by omega)
    rw [if_neg a4] at hr
    by_cases a5 : i.op = 5
    · rw [if_pos a5] at hr; exact fin hr (by omega) (by simp)
    rw [if_neg a5] at hr
    by_cases a6 : i.op = 6
    · rw [if_pos a6] at hr; exact fin hr (by simp) (by omega)
    rw [if_neg a6] at hr
    by_cases a7 : i.op = 7
    · rw [if_pos a7] at hr; exact fin hr (by simp only [List.length_cons]; omega) (by simp)
    rw [if_neg a7] at hr
    by_cases a8 : i.op = 28
    · rw [if_pos a8] at hr; exact fin hr (by simp) (by simp)
    rw [if_neg a8] at hr
    by_cases a9 : i.op = 29
    · rw [if_pos a9] at hr; exact fin hr (by simp) (by simp)
    rw [if_neg a9] at hr
    by_cases a10 : i.op = 30
    · rw [if_pos a10] at hr
      by_cases b2 : i.a < 0 ∨ i.a ≥ X.fn.length
      · rw [if_pos b2] at hr; exact fin hr (by simp) (by simp)
      rw [if_neg b2] at hr
      exact fin hr (by simp only [rowL, List.length_map]; omega) (by omega)
    rw [if_neg a10] at hr
    by_cases a11 : i.op = 31
    · rw [if_pos a11] at hr
      by_cases b2 : i.a < 0 ∨ i.a ≥ 16
      · rw [if_pos b2] at hr; exact fin hr (by simp) (by simp)
      rw [if_neg b2] at hr
      exact fin hr (by simp only [rowL, List.length_map]; omega) (by omega)
    rw [if_neg a11] at hr
    by_cases a12 : i.op = 32
    · rw [if_pos a12] at hr; exact fin hr (by omega) (by simp)
    rw [if_neg a12] at hr
    exact fin hr (by omega) (by omega)
  exact key _ rfl
attribute [local irreducible] jn lv ld st nw asI asB asP asS asY asM asF asA asT lp rn ru rq cl dw dr bnd bn2 nz nn hd hr so eqW
attribute [local irreducible] callOk clz clm
theorem _root_.Go.Sx.Hm.in2 {w0 w : World} {Rs : List Rw} {m : Nat} {o : Obj} {x a b : Rw} (h : Hm w0 w (x :: a :: b :: Rs) m o) : Hm w0 w (a :: b :: x :: Rs) m o := h.perm (List.perm_middle (l₁ := [a, b]))
theorem _root_.Go.Sx.Hm.out2 {w0 w : World} {Rs : List Rw} {m : Nat} {o : Obj} {x a b : Rw} (h : Hm w0 w (a :: b :: x :: Rs) m o) : Hm w0 w (x :: a :: b :: Rs) m o := h.perm (List.perm_middle (l₁ := [a, b])).symm
section
variable {Z : List PanicEntry → World → Prop} {w0 w : World} {Rs : List Rw} {m : Nat} {A : List (Int × Lt)} {K : Value → World → Prop} {L : Nat} {I : Is} {x : Fs} {n : Int} {l : List Int} {mx f1 f2 : Int}
theorem Lo.ins {r : Nat} {a b c : Value} (h : Lo w0 L I x n m (bk 81 r [a, b, c] :: Rs) A l mx f1 f2 w) : w.cell? ⟨r, 0, none⟩ = some a ∧ w.cell? (Addr.add ⟨r, 0, none⟩ 1) = some b := by
  obtain ⟨bs, clk, hB, p, q, h⟩ := h
  exact ⟨h.hs.cel (a := ⟨r, 0, none⟩) rfl, h.hs.cel (a := Addr.add ⟨r, 0, none⟩ 1) rfl⟩
theorem Lo.out {r : Rw} (h : Lo w0 L I x n m (r :: Rs) A l mx f1 f2 w) : Lo w0 L I x n m Rs A l mx f1 f2 w := by
  obtain ⟨bs, clk, hB, p, q, h⟩ := h
  exact ⟨bs, clk, hB, p, q, h.out2.tail⟩
theorem Lo.lk (h : Lo w0 L I x n m Rs A l mx f1 f2 w) (hI : IsAt w0 I) (hx : x ∈ I.fs) : Lk w L I x := by
  have he := h.ext
  obtain ⟨bs, clk, hB, p, q, h⟩ := h
  exact ⟨hI.ext he, h.hs.cel (a := ⟨L, 0, none⟩) rfl, h.hs.cel (a := Addr.add ⟨L, 0, none⟩ 1) rfl, h.hs.cel (a := Addr.add (Addr.add ⟨L, 0, none⟩ 2) 2) rfl, h.hs.cel (a := Addr.add (Addr.add ⟨L, 0, none⟩ 2) 3) rfl, h.hs.cel (a := Addr.add (Addr.add ⟨L, 0, none⟩ 2) 4) rfl, hx⟩
theorem Lo.most (h : Lo w0 L I x n m Rs A l mx f1 f2 w) {y : Int → Int} {G : World → Prop} (hG : ∀ mx' w', Lo w0 L I x n m Rs A l mx' f1 f2 w' → G w') : ld w (Addr.add ⟨L, 0, none⟩ 10) fun v => asI .i64 v fun z => dr (some ⟨L, 0, none⟩) fun a => st w (Addr.add a 10) (.int .i64 (y z)) G := by
  obtain ⟨bs, clk, hB, p, q, h⟩ := h
  repeat first|refine sp ?_|refine cond_t rfl ?_|refine cond_f rfl ?_|refine asT_i rfl rfl ?_|refine asA_i rfl rfl ?_|refine h.l rfl ?_|refine h.hd rfl ?_|(refine h.sb rfl rfl ?_;clear h;intro _ h)|(refine h.dw ?_;clear h;intro _ h)
  exact hG (y mx) _ ⟨bs, clk, hB, p, q, h⟩
end
end Go.Proofs.YtndbhmmejjhcfaaGreatDoor
namespace Go.Proofs.YtndbhmmejjhcfaaGreatDoor
open Go Go.Sx Go.Vp
attribute [local irreducible] jn lv ld st nw asI asB asP asS asY asM asF asA asT lp rn ru rq cl dw dr bnd bn2 nz nn hd hr so eqW
attribute [local irreducible] callOk clz clm
section
variable {Z : List PanicEntry → World → Prop} {w0 w : World} {Rs : List Rw} {m : Nat} {A : List (Int × Lt)} {K : Value → World → Prop} {L : Nat} {I : Is} {x : Fs} {n : Int} {l : List Int} {mx f2 : Int}
theorem jump_rng {X : Im} {f : Fi} {i : Ins} (h : i.op = 28 ∨ i.op = 29) (hok : (meansM X f i).2.2 = true) : 0 ≤ i.a ∧ i.a < f.code.length := by
  rcases h with e | e
  · simp [meansM, e] at hok; omega
  · simp [meansM, e] at hok; omega
theorem goes_p {u : List Int} (hA : PI I.im x.f A (u ++ l)) (h : Lo w0 L I x n m Rs A l mx 0 f2 w) (hN : x.f.code.length ≤ 32768) {fr to : Int} (h0 : 0 ≤ to) (h1 : to ≤ x.f.code.length) {s : Lt} (hsl : s.length ≤ 400) (hs : ∀ T, Typing I.im x.f T → T to.toNat = some s)
    (hF : ∀ code f2' w', code ≠ 0 → (¬ ∃ T, Typing I.im x.f T) → Lo w0 L I x n m Rs A l mx code f2' w' → K (.bool false) w')
    (hT : ∀ A' l' w', PI I.im x.f A' (u ++ l') → (∀ j t, aget A j = some t → aget A' j = some t) → aget A' to = some s → 2 * cnt A' x.f.code.length + l'.length ≤ 2 * cnt A x.f.code.length + l.length → Lo w0 L I x n m Rs A' l' mx 0 f2 w' → K (.bool true) w') :
    cl Tryz.prog 105 #[.pointer (some ⟨L, 0, none⟩), i6 fr, i6 to, .string (B s)] w K := by
  have hcap := hA.cap
  rw [List.length_append] at hcap
  refine goes_k h (by omega) (fun hw code f2' w' hc h => hF _ _ _ hc ?_ h) (fun ho w' h => hT _ _ _ hA (fun _ _ h => h) ho (Nat.le_refl _) h) fun hne hn l' w' hp h => ?_
  · rcases hw with e | ⟨old, ho, hne⟩
    · exact PI.out e hs
    · exact hA.clash ho hne hs
  · have hlt : to < x.f.code.length := by omega
    have hp2 : (u ++ l').Perm (to :: (u ++ l)) := (List.Perm.append_left u hp).trans List.perm_middle
    have hc := cnt_set (s := s) hn h0 hlt
    refine hT _ _ _ ((hA.add h0 hlt hsl hn hs).perm hp2) (fun j t hj => ?_) ?_ ?_ h
    · rw [aget_aset, if_neg]
      · exact hj
      · intro e; rw [e, hn] at hj; cases hj
    · rw [aget_aset, if_pos rfl]
    · have := hp.length_eq
      rw [List.length_cons] at this
      omega
theorem look_k (hR : Rep) (hP : PlainAt w0) (hI : IsAt w0 I) (hO : OkI I) (hD : DecOK I) (hx : x ∈ I.fs) {k : Nat} {s : Lt} (hA : PI I.im x.f A ((k : Int) :: l)) (hs : aget A (k : Int) = some s) (h : Lo w0 L I x n m Rs A l mx 0 f2 w)
    (hF : ∀ A' l' mx' code f2' w', code ≠ 0 → (¬ ∃ T, Typing I.im x.f T) → Lo w0 L I x n m Rs A' l' mx' code f2' w' → K (.bool false) w')
    (hT : ∀ A' l' mx' w', PI I.im x.f A' l' → (∀ j t, aget A j = some t → aget A' j = some t) → 2 * cnt A' x.f.code.length + l'.length ≤ 2 * cnt A x.f.code.length + l.length → Lo w0 L I x n m Rs A' l' mx' 0 f2 w' → K (.bool true) w') :
    clz Z Tryz.prog 107 #[.pointer (some ⟨L, 0, none⟩), i6 (k : Int)] w K := by
  have hkl : k < x.f.code.length := by have := (hA.key _ _ hs).2.1; omega
  have hsl := (hA.key _ _ hs).2.2
  have hcl := (hO.fn x hx).code
  have hcap := hA.cap
  rw [List.length_cons] at hcap
  obtain ⟨i, hi⟩ : ∃ i, x.f.code[k]? = some i := ⟨_, List.getElem?_eq_getElem hkl⟩
  have him := List.mem_of_getElem? hi
  have hiK := hO.insK hD hx him
  have asks : ∀ {T}, Typing I.im x.f T → StepOK I.im x.f T k s i := fun hT => hA.asks hs hi hT
  obtain ⟨bs, clk, hB, p, c, h⟩ := h
  apply F107_calls
  unfold F107
  refine h.dw fun w1 h => ?_
  repeat first|refine sp ?_|refine cond_t rfl ?_|refine cond_f rfl ?_|refine asT_i rfl rfl ?_|refine asA_i rfl rfl ?_|refine h.l rfl ?_|refine h.hd rfl ?_|(refine h.sb rfl rfl ?_;clear h;intro _ h)|(refine h.dw ?_;clear h;intro _ h)
  refine Reads.atN inC_len (hI.each x hx).code rfl hi (by decide) fun ad _ hc => ?_
  rw [Int.toNat_natCast]
  have c0 : w0.cell? (Addr.add ad (k * 3)) = some (i6 i.op) := by have := hc 0 (by decide); rwa [Sx.add_zero'] at this
  have c1 : w0.cell? (Addr.add (Addr.add ad (k * 3)) 1) = some (i6 i.a) := hc 1 (by decide)
  have c2 : w0.cell? (Addr.add (Addr.add ad (k * 3)) 2) = some (i6 i.b) := hc 2 (by decide)
  repeat first|refine sp ?_|refine cond_t rfl ?_|refine cond_f rfl ?_|refine asT_i rfl rfl ?_|refine asA_i rfl rfl ?_|refine h.l rfl ?_|refine h.hd rfl ?_|(refine h.sb rfl rfl ?_;clear h;intro _ h)|(refine h.dw ?_;clear h;intro _ h)|refine ld_mk (h.oc c0) ?_|refine ld_mk (h.oc c1) ?_|refine ld_mk (h.oc c2) ?_
  refine rq_mk (look_1 hB h hs) (sp ?_)
  refine h.nw ?_
  clear h
  intro r w2 h
  repeat first|refine sp ?_|refine cond_t rfl ?_|refine cond_f rfl ?_|refine asT_i rfl rfl ?_|refine asA_i rfl rfl ?_|refine h.l rfl ?_|refine h.hd rfl ?_|(refine h.sb rfl rfl ?_;clear h;intro _ h)|(refine h.dw ?_;clear h;intro _ h)|refine hr_i (look_1 hB h hs) ?_|refine hd_i (h.oc c0) ?_|refine hd_i (h.oc c1) ?_|refine hd_i (h.oc c2) ?_
  replace h : Lo w0 L I x n m (bk 81 r [i6 i.op, i6 i.a, i6 i.b] :: Rs) A l mx 0 f2 _ := ⟨bs, clk, hB, p, c, h.in2⟩
  clear hB c0 c1 c2 hc
  have hpar : ∀ g ∈ I.im.fn, g.par.length ≤ 1000 := fun g hg => by
    obtain ⟨y, hy, rfl⟩ := List.mem_map.1 hg
    have := (hO.fn y hy).par
    omega
  have hlen := means_len (X := I.im) (f := x.f) (i := i) hpar
  refine means_k hR (h.lk hI hx) hO.ty (hP.ext h.ext) hiK fun w3 hx3 => ?_
  replace h := h.to hx3
  rcases hm : meansM I.im x.f i with ⟨tk, pu, ok⟩
  rw [hm] at hlen
  dsimp only at hlen ⊢
  have q1 : ∀ {T}, Typing I.im x.f T → ok = true ∧ endsM s tk = true ∧ (newL s tk pu).length ≤ 400 ∧ (i.op = 32 → newL s tk pu = []) ∧ (i.op = 28 ∨ i.op = 29 → T i.a.toNat = some (newL s tk pu)) ∧ (i.op ≠ 28 → i.op ≠ 32 → T (k + 1) = some (newL s tk pu)) := fun hT => by
    have := asks hT
    have g := And.intro this.ok (And.intro this.ends (And.intro this.most (And.intro this.ret (And.intro this.jump this.next))))
    rw [hm] at g
    exact g
  have q2 : ∀ {T}, ok = true → endsM s tk = true → (newL s tk pu).length ≤ 400 → (i.op = 32 → newL s tk pu = []) → (i.op = 28 ∨ i.op = 29 → T i.a.toNat = some (newL s tk pu)) → (i.op ≠ 28 → i.op ≠ 32 → T (k + 1) = some (newL s tk pu)) → StepOK I.im x.f T k s i := fun h1 h2 h3 h4 h5 h6 =>
    ⟨by rw [hm]; exact h1, by rw [hm]; exact h2, by rw [hm]; exact h3, by rw [hm]; exact h4, by rw [hm]; exact h5, by rw [hm]; exact h6⟩
  refine asT_i rfl rfl (sp (sp (sp ?_)))
  refine jn_of (fun s' w' => s' = [.bool (decide (i.op = 28 ∨ i.op = 29))] ∧ w3 = w') ?_ fun J hJ => ld_mk h.ins.1 (sp (cond_op (fun e => hJ _ _ ⟨by simp [e], rfl⟩) fun e => ld_mk h.ins.1 (sp (hJ _ _ ⟨?_, rfl⟩))))
  rotate_left
  · have : (i.op == 29) = decide (i.op = 28 ∨ i.op = 29) := by rw [Bool.eq_iff_iff]; simp [e]
    rw [this]
  rintro _ _ ⟨rfl, rfl⟩
  refine sp (jn_of (fun s' w' => s' = [.bool (!ok && decide (i.op = 28 ∨ i.op = 29))] ∧ w3 = w') ?_ fun J hJ => cond_split (fun e => hJ _ _ ⟨by rw [e, Bool.true_and], rfl⟩) fun e => hJ _ _ ⟨by rw [e, Bool.false_and], rfl⟩)
  rintro _ _ ⟨rfl, rfl⟩
  refine sp (cond_split (fun e => wrong_k h fun f2' w' h' => sp (hF A l mx _ f2' w' (by decide) (fun ⟨T, hT⟩ => ?_) h'.out)) fun _ => ?_)
  · rw [(q1 hT).1] at e; simp at e
  refine cond_split (fun e => wrong_k h fun f2' w' h' => sp (hF A l mx _ f2' w' (by decide) (fun ⟨T, hT⟩ => ?_) h'.out)) fun hok => ?_
  · rw [(q1 hT).1] at e; simp at e
  have hok : ok = true := by simpa using hok
  refine ends_k (by omega) (by omega) fun w4 hx4 => ?_
  replace h := h.to hx4
  refine sp (cond_split (fun e => wrong_k h fun f2' w' h' => sp (hF A l mx _ f2' w' (by decide) (fun ⟨T, hT⟩ => ?_) h'.out)) fun hen => ?_)
  · rw [(q1 hT).2.1] at e; simp at e
  have hen : endsM s tk = true := by simpa using hen
  have htl : tk.length ≤ s.length := by
    unfold endsM at hen
    split at hen
    · cases hen
    · omega
  refine sp (h.most fun mx1 w5 h => ?_)
  rw [B_size, B_size, wr64 (by omega) (by omega), show ((s.length : Int) - tk.length) = ((s.length - tk.length : Nat) : Int) by omega]
  refine bn2_mk (by omega) (by omega) ?_
  rw [Int.toNat_natCast, B_ext, List.drop_zero]
  have hnl : (newL s tk pu).length ≤ 1400 := by unfold newL; simp; omega
  have hadd := run_string_add_sum (P := Tryz.prog) w5 (B (s.take (s.length - tk.length))) (B pu) (by rw [B_size, B_size]; simp only [List.length_take]; omega)
  rw [B_app, show s.take (s.length - tk.length) ++ pu = newL s tk pu from rfl] at hadd
  refine rn_mk hadd (sp ?_)
  generalize newL s tk pu = new at q1 q2 hnl
  refine jn_of (fun s' w' => s' = [.bool (decide (400 < new.length) || (decide (i.op = 32) && !new.isEmpty))] ∧ w5 = w') ?_ fun J hJ => cond_split (fun e => hJ _ _ ⟨?_, rfl⟩) fun e => ld_mk h.ins.1 (sp (cond_op (fun e2 => hJ _ _ ⟨?_, rfl⟩) fun e2 => hJ _ _ ⟨?_, rfl⟩))
  rotate_left
  · have e := of_decide_eq_true e
    rw [B_size] at e
    simp; omega
  · have e := of_decide_eq_false e
    rw [B_size] at e
    have := beq_B new []
    rw [show (B [] : ByteArray) = ⟨#[]⟩ from rfl] at this
    rw [this, show decide (400 < new.length) = false by simp; omega, Bool.false_or, e2]
    cases new <;> rfl
  · have e := of_decide_eq_false e
    rw [B_size] at e
    rw [show decide (400 < new.length) = false by simp; omega]
    simp [e2]
  rintro _ _ ⟨rfl, rfl⟩
  refine sp (cond_split (fun e => wrong_k h fun f2' w' h' => sp (hF A l mx1 _ f2' w' (by decide) (fun ⟨T, hT⟩ => ?_) h'.out)) fun e3 => ?_)
  · obtain ⟨_, _, g1, g2, _⟩ := q1 hT
    rw [show decide (400 < new.length) = false by simp; omega] at e
    by_cases h32 : i.op = 32
    · rw [g2 h32] at e; simp at e
    · simp [h32] at e
  simp only [Bool.or_eq_false_iff, decide_eq_false_iff_not, Bool.and_eq_false_iff] at e3
  have h400 : new.length ≤ 400 := by omega
  have hret : i.op = 32 → new = [] := fun e => by
    rcases e3.2 with h | h
    · exact absurd e h
    · simpa using h
  refine sp (h.most fun mx2 w6 h => ?_)
  have hN := (hO.fn x hx).code
  refine jn_of (fun s' w' => (s' = [.bool true] ∧ ∃ code f2', code ≠ 0 ∧ (¬ ∃ T, Typing I.im x.f T) ∧ Lo w0 L I x n m (bk 81 r [i6 i.op, i6 i.a, i6 i.b] :: Rs) A l mx2 code f2' w') ∨
      (s' = [.bool false] ∧ ∃ A1 l1, PI I.im x.f A1 ((k : Int) :: l1) ∧ (∀ j t, aget A j = some t → aget A1 j = some t) ∧ (i.op = 28 ∨ i.op = 29 → aget A1 i.a = some new) ∧ 2 * cnt A1 x.f.code.length + l1.length ≤ 2 * cnt A x.f.code.length + l.length ∧
        Lo w0 L I x n m (bk 81 r [i6 i.op, i6 i.a, i6 i.b] :: Rs) A1 l1 mx2 0 f2 w')) ?_ fun J hJ => ?_
  rotate_left
  · refine cond_split (fun hj => ?_) fun hj => hJ _ _ (.inr ⟨rfl, A, l, hA, fun _ _ h => h, fun e => absurd e (of_decide_eq_false hj), Nat.le_refl _, h⟩)
    have hj := of_decide_eq_true hj
    have hrng := jump_rng (X := I.im) (f := x.f) hj (by rw [hm]; exact hok)
    refine ld_mk h.ins.2 (sp ?_)
    exact goes_p (u := [(k : Int)]) hA h hN hrng.1 (by omega) h400 (fun T hT => (q1 hT).2.2.2.2.1 hj) (fun code f2' w' hc hn h => sp (hJ _ _ (.inl ⟨rfl, code, f2', hc, hn, h⟩)))
      fun A1 l1 w' hA1 hmo hto hme h => sp (hJ _ _ (.inr ⟨rfl, A1, l1, hA1, hmo, fun _ => hto, hme, h⟩))
  rintro _ w7 (⟨rfl, code, f2', hc, hn, h⟩ | ⟨rfl, A1, l1, hA1, hmo, hto, hme, h⟩)
  · exact sp (cond_t rfl (hF A l mx2 code f2' w7 hc hn h.out))
  refine sp (cond_f rfl ?_)
  have hs1 := hmo _ _ hs
  have hti : i.op = 28 ∨ i.op = 29 → TA A1 i.a.toNat = some new := fun e => by
    have hrng := jump_rng (X := I.im) (f := x.f) e (by rw [hm]; exact hok)
    unfold TA
    rw [Int.toNat_of_nonneg hrng.1]
    exact hto e
  refine jn_of (fun s' w' => (s' = [.bool false] ∧ ∃ code f2', code ≠ 0 ∧ (¬ ∃ T, Typing I.im x.f T) ∧ Lo w0 L I x n m (bk 81 r [i6 i.op, i6 i.a, i6 i.b] :: Rs) A1 l1 mx2 code f2' w') ∨
      (s' = [.bool true] ∧ ∃ A2 l2, PI I.im x.f A2 l2 ∧ (∀ j t, aget A1 j = some t → aget A2 j = some t) ∧ 2 * cnt A2 x.f.code.length + l2.length ≤ 2 * cnt A1 x.f.code.length + l1.length ∧
        Lo w0 L I x n m (bk 81 r [i6 i.op, i6 i.a, i6 i.b] :: Rs) A2 l2 mx2 0 f2 w')) ?_ fun J hJ => ?_
  · rintro _ w8 (⟨rfl, code, f2', hc, hn, h⟩ | ⟨rfl, A2, l2, hA2, hmo2, hme2, h⟩)
    · exact sp (hF A1 l1 mx2 code f2' w8 hc hn h.out)
    · exact sp (hT A2 l2 mx2 w8 hA2 (fun j t hj => hmo2 _ _ (hmo _ _ hj)) (Nat.le_trans hme2 hme) h.out)
  · refine ld_mk h.ins.1 (sp (cond_op (fun e28 => hJ _ _ (.inr ⟨rfl, A1, l1, ?_, fun _ _ h => h, Nat.le_refl _, h⟩)) fun e28 => ld_mk h.ins.1 (sp (cond_op (fun e32 => hJ _ _ (.inr ⟨rfl, A1, l1, ?_, fun _ _ h => h, Nat.le_refl _, h⟩)) fun e32 => ?_))))
    · exact hA1.check hs1 hi (q2 hok hen h400 hret hti (fun g => absurd e28 g))
    · exact hA1.check hs1 hi (q2 hok hen h400 hret hti (fun _ g => absurd e32 g))
    · rw [natS k (by omega)]
      refine goes_p (u := [(k : Int)]) hA1 h hN (by omega) (by omega) h400 (fun T hT => ?_) (fun code f2' w' hc hn h => sp (hJ _ _ (.inl ⟨rfl, code, f2', hc, hn, h⟩)))
        fun A2 l2 w' hA2 hmo2 hto2 hme2 h => sp (hJ _ _ (.inr ⟨rfl, A2, l2, ?_, hmo2, hme2, h⟩))
      · rw [Int.toNat_natCast]; exact (q1 hT).2.2.2.2.2 e28 e32
      · refine hA2.check (hmo2 _ _ hs1) hi (q2 hok hen h400 hret (fun e => ?_) fun _ _ => ?_)
        · have := hti e
          exact hmo2 _ _ this
        · exact hto2
end
end Go.Proofs.YtndbhmmejjhcfaaGreatDoor
namespace Go.Proofs.YtndbhmmejjhcfaaGreatDoor
open Go Go.Sx Go.Vp
theorem run_assert3 (v : Value) (w : World) : (Instr.typeAssert (.iface 3 v) 20 3 false).run Tryz.prog w = .ok v w := by
  simp [Instr.typeAssert, run_underlying und3]
theorem _root_.Go.Sx.Hs.map {α β : Type} [DecidableEq α] {P : Program} {t kt et : TypeId} {enc : α → Value} {val : β → Value} (ht : P.underlying t = some (.map kt et)) {w0 w : World} {Rs : List Rw} (h : Hs w0 w Rs) {K : Value → World → Prop}
    (hK : ∀ m w', Hm w0 w' Rs m (.map (ents enc val ([] : List (α × β)) []).toArray 0) → K (.map (some m)) w') : rn P (Instr.makeMap t none) w K :=
  make_map (enc := enc) (val := val) ht fun w' hm hx _ => hK _ _ ⟨h.to hx, hm.blk, h.le, fun r hr a ha => by have := (h.lt hr ha).2; omega⟩
attribute [local irreducible] jn lv ld st nw asI asB asP asS asY asM asF asA asT lp rn ru rq cl dw dr bnd bn2 nz nn hd hr so eqW
attribute [local irreducible] callOk clz clm
section
variable {w : World} {K : Value → World → Prop} {I : Is}
theorem function_k (hR : Rep) (hP : PlainAt w) (hI : IsAt w I) (hO : OkI I) (hD : DecOK I) {k : Nat} {x : Fs} (hx : I.fs[k]? = some x)
    (hK : ∀ code a mo w', Ext no w w' → (code = 0 ↔ ∃ T, Typing I.im x.f T) → K (.tuple #[.agg #[i6 code, i6 a], i6 mo]) w') : cl Tryz.prog 58 #[I.val, i6 (k : Int)] w K := by
  have hxm := List.mem_of_getElem? hx
  have hN := (hO.fn x hxm).code
  refine cl_of_clz ?_
  apply F58_calls
  unfold F58
  refine (Hs.start w).nw fun r1 w1 h => ?_
  refine h.nw ?_
  clear h
  intro r3 w2 h
  refine sp (h.dw ?_)
  clear h
  intro w3 h
  repeat first|refine sp ?_|refine cond_t rfl ?_|refine cond_f rfl ?_|refine asT_i rfl rfl ?_|refine asA_i rfl rfl ?_|refine h.l rfl ?_|refine h.hd rfl ?_|(refine h.sb rfl rfl ?_;clear h;intro _ h)|(refine h.dw ?_;clear h;intro _ h)
  refine Reads.atN fsC_len hI.fn rfl hx (by decide) fun ad _ hc => ?_
  rw [Int.toNat_natCast]
  have c0 : w.cell? (Addr.add ad (k * 5)) = some (.string x.nm) := by have := hc 0 (by decide); rwa [Sx.add_zero'] at this
  have c1 : w.cell? (Addr.add (Addr.add ad (k * 5)) 1) = some (.slice x.pp x.f.par.length x.pc) := hc 1 (by decide)
  have c2 : w.cell? (Addr.add (Addr.add ad (k * 5)) 2) = some (i6 x.f.res) := hc 2 (by decide)
  have c3 : w.cell? (Addr.add (Addr.add ad (k * 5)) 3) = some (.slice x.lp x.f.loc.length x.lc) := hc 3 (by decide)
  have c4 : w.cell? (Addr.add (Addr.add ad (k * 5)) 4) = some (.slice x.cp x.f.code.length x.cc) := hc 4 (by decide)
  clear hc
  repeat first|refine sp ?_|refine cond_t rfl ?_|refine cond_f rfl ?_|refine asT_i rfl rfl ?_|refine asA_i rfl rfl ?_|refine h.l rfl ?_|refine h.hd rfl ?_|(refine h.sb rfl rfl ?_;clear h;intro _ h)|(refine h.dw ?_;clear h;intro _ h)|refine ld_mk (h.oc c0) ?_|refine ld_mk (h.oc c1) ?_|refine ld_mk (h.oc c2) ?_|refine ld_mk (h.oc c3) ?_|refine ld_mk (h.oc c4) ?_
  refine h.map (enc := enI) (val := vaS) und206 ?_
  clear h
  intro m w4 h
  repeat first|refine sp ?_|refine cond_t rfl ?_|refine cond_f rfl ?_|refine asT_i rfl rfl ?_|refine asA_i rfl rfl ?_|refine h.l rfl ?_|refine h.hd rfl ?_|(refine h.sb rfl rfl ?_;clear h;intro _ h)|(refine h.dw ?_;clear h;intro _ h)|refine hd_i (h.oc c0) ?_|refine hd_i (h.oc c1) ?_|refine hd_i (h.oc c2) ?_|refine hd_i (h.oc c3) ?_|refine hd_i (h.oc c4) ?_
  refine h.nw ?_
  clear h
  intro L w5 h
  repeat first|refine sp ?_|refine cond_t rfl ?_|refine cond_f rfl ?_|refine asT_i rfl rfl ?_|refine asA_i rfl rfl ?_|refine h.l rfl ?_|refine h.hd rfl ?_|(refine h.sb rfl rfl ?_;clear h;intro _ h)|(refine h.dw ?_;clear h;intro _ h)|refine hd_i (h.oc c0) ?_|refine hd_i (h.oc c1) ?_|refine hd_i (h.oc c2) ?_|refine hd_i (h.oc c3) ?_|refine hd_i (h.oc c4) ?_
  clear c0 c1 c2 c3 c4
  have hL : Lo w L I x k m [bk 54 r3 [i6 0, i6 0], bk 31 r1 [.slice I.gp I.gl.length I.gc, .slice I.fp I.fs.length I.fc]] [] [] 0 0 0 w5 :=
    ⟨[], 0, ⟨rfl, List.nodup_nil, by simp⟩, none, 0, (h.push (r := ⟨3, 1, none, 0, 0, []⟩) (Ext.refl _ _) (RowN.nil _ _ _ _)).perm (List.Perm.swap _ _ _)⟩
  clear h
  generalize hRS : [bk 54 r3 [i6 0, i6 0], bk 31 r1 [.slice I.gp I.gl.length I.gc, .slice I.fp I.fs.length I.fc]] = RS at hL
  let S : Nat → Bool → World → Prop := fun n b w' => (b = false ∧ ∃ A l mx code f2', code ≠ 0 ∧ (¬ ∃ T, Typing I.im x.f T) ∧ Lo w L I x k m RS A l mx code f2' w') ∨
    (b = true ∧ ∃ A l mx, n = 2 * cnt A x.f.code.length + l.length ∧ PI I.im x.f A l ∧ aget A 0 = some [] ∧ Lo w L I x k m RS A l mx 0 0 w')
  refine cl_mono (K := fun v w' => ∃ n b, v = .bool b ∧ S n b w') ?_ ?_
  · exact goes_p (u := []) PI.start hL hN (s := []) (by decide) (by omega) (by simp) (fun T hT => hT.start) (fun code f2' w' hc hn h => ⟨0, false, rfl, .inl ⟨rfl, _, _, _, code, f2', hc, hn, h⟩⟩) fun A l w' hA _ h0 hme h => ⟨_, true, rfl, .inr ⟨rfl, A, l, _, rfl, hA, h0, h⟩⟩
  clear hL
  rintro _ w6 ⟨n0, b0, rfl, hS⟩
  refine sp (lp_mk (fun b : Bool => [.bool b]) S n0 b0 rfl hS ?_)
  clear hS
  rintro n b w7 hS J hJ
  refine sp (jn_of (fun s w' => (s = [.bool true] ∧ ∃ A l mx, l ≠ [] ∧ n = 2 * cnt A x.f.code.length + l.length ∧ PI I.im x.f A l ∧ aget A 0 = some [] ∧ Lo w L I x k m RS A l mx 0 0 w') ∨
    (s = [.bool false] ∧ ∃ A l mx code f2', (code = 0 ↔ ∃ T, Typing I.im x.f T) ∧ Lo w L I x k m RS A l mx code f2' w')) ?_ fun J2 hJ2 => ?_)
  · rintro _ w8 (⟨rfl, A, l, mx, hne, rfl, hA, h0, h⟩ | ⟨rfl, A, l, mx, code, f2', hc, h⟩)
    · refine sp (cond_t rfl (rn_mk (run_makeInterface _ 214 _ con214) ?_))
      have hcap := hA.cap
      obtain ⟨bs, clk, hB, h⟩ := h
      refine hpop_k h (by omega) hne fun y l' w9 hp h => rn_mk (run_assert3 _ _) (sp ?_)
      have hA' := hA.perm hp
      obtain ⟨s, hs⟩ := hA'.un y List.mem_cons_self
      have hy := (hA'.key _ _ hs).1
      obtain ⟨z, rfl⟩ := Int.eq_ofNat_of_zero_le hy
      have hl := hp.length_eq
      rw [List.length_cons] at hl
      refine look_k hR hP hI hO hD hxm hA' hs ⟨bs, clk, hB, h⟩ (fun A2 l2 mx2 code f2' w' hc hn h => sp ?_) fun A2 l2 mx2 w' hA2 hmo hme h => sp ?_
      · exact hJ 0 false w' (by omega) (.inl ⟨rfl, A2, l2, mx2, code, f2', hc, hn, h⟩)
      · exact hJ _ true w' (by omega) (.inr ⟨rfl, A2, l2, mx2, rfl, hA2, hmo _ _ h0, h⟩)
    · refine sp (cond_f rfl ?_)
      subst hRS
      obtain ⟨bs, clk, hB, p, c, h⟩ := h
      refine h.dw ?_
      clear h
      intro w9 h
      repeat first|refine sp ?_|refine cond_t rfl ?_|refine cond_f rfl ?_|refine asT_i rfl rfl ?_|refine asA_i rfl rfl ?_|refine h.l rfl ?_|refine h.hd rfl ?_|(refine h.sb rfl rfl ?_;clear h;intro _ h)|(refine h.dw ?_;clear h;intro _ h)
      exact hK _ _ _ _ h.ext hc
  · rcases hS with ⟨rfl, A, l, mx, code, f2', hc, hn, h⟩ | ⟨rfl, A, l, mx, rfl, hA, h0, h⟩
    · exact cond_f rfl (hJ2 _ _ (.inr ⟨rfl, A, l, mx, code, f2', ⟨fun e => absurd e hc, fun e => absurd e hn⟩, h⟩))
    · refine cond_t rfl ?_
      have h' := h
      obtain ⟨bs, clk, hB, p, c, h⟩ := h
      repeat first|refine sp ?_|refine cond_t rfl ?_|refine cond_f rfl ?_|refine asT_i rfl rfl ?_|refine asA_i rfl rfl ?_|refine h.l rfl ?_|refine h.hd rfl ?_|(refine h.sb rfl rfl ?_;clear h;intro _ h)|(refine h.dw ?_;clear h;intro _ h)
      apply F106_calls
      unfold F106
      refine sp (sp (sp ?_))
      cases l with
      | nil => exact hJ2 _ _ (.inr ⟨rfl, A, [], mx, 0, 0, ⟨fun _ => hA.fin h0, fun _ => rfl⟩, h'⟩)
      | cons y l =>
        refine hJ2 _ _ (.inl ⟨?_, A, y :: l, mx, by simp, rfl, hA, h0, h'⟩)
        rw [show decide (((y :: l).length : Int) > 0) = true by simp only [List.length_cons, decide_eq_true_eq]; omega]
end
end Go.Proofs.YtndbhmmejjhcfaaGreatDoor
namespace Go.Sx
open Go Go.RowKit
theorem ba_beq (a b : ByteArray) : (a == b) = decide (a = b) := by
  rcases a with ⟨a⟩
  rcases b with ⟨b⟩
  have : ((⟨a⟩ : ByteArray) == ⟨b⟩) = (a == b) := rfl
  rw [this, Bool.eq_iff_iff]
  simp
theorem keyT_str {P : Program} {t : TypeId} (hu : P.underlying t = some .string) : KeyT P t (fun x : ByteArray => Value.string x) (fun _ => True) := by
  refine ⟨?_, ?_, ?_⟩
  · intro β val a A bs w _ _ hl
    have key : ∀ (A : List (ByteArray × β)) (bs : List Nat) (i : Nat), A.length = bs.length → Instr.findNow .string (.string a) (ents (fun x : ByteArray => Value.string x) val A bs) i = some ((afind a A i).map fun p => (p.1, val p.2)) := by
      intro A
      induction A with
      | nil => intro bs i _; rfl
      | cons x A ih =>
        intro bs i hl
        cases bs with
        | nil => simp at hl
        | cons b bs =>
          have := ih bs (i + 1) (by simpa using hl)
          unfold ents afind Instr.findNow
          simp only [Instr.sameNow]
          by_cases h : x.1 = a
          · have h' : (a == x.1) = true := by rw [ba_beq]; simp [h]
            rw [h', if_pos h]
            rfl
          · have h' : (a == x.1) = false := by rw [ba_beq]; simpa using fun e => h e.symm
            rw [h', if_neg h]
            exact this
    unfold Instr.findKey
    simp only [Sem.run_bind, und_run hu, Result.andThen_ok, key A bs 0 hl, Sem.run_pure]
  · intro b a w
    have key : ∀ d, (Instr.checkKey b (d + 1) t (.string a)).run P w = .ok () w := by
      intro d
      simp [Instr.checkKey, und_run hu]
    exact key 9999
  · intro a
    have key : ∀ d, Instr.sameBits d (.string a) (.string a) = true := by
      intro d
      simp [Instr.sameBits, ba_beq]
    exact key _
end Go.Sx
namespace Go.Proofs.YtndbhmmejjhcfaaGreatDoor
open Go Go.Sx Go.Vp
attribute [local irreducible] jn lv ld st nw asI asB asP asS asY asM asF asA asT lp rn ru rq cl dw dr bnd bn2 nz nn hd hr so eqW
attribute [local irreducible] callOk clz clm
theorem ok56 : callOk Tryz.prog 56 = true := by kernel_rfl
def bkL : List (ByteArray × List Int) := [(⟨#[115, 116, 97, 114, 116]⟩, []), (⟨#[106, 111, 105, 110]⟩, [1]), (⟨#[108, 101, 97, 118, 101]⟩, [1]), (⟨#[105, 110, 112, 117, 116]⟩, [1, 1]), (⟨#[116, 105, 99, 107]⟩, []), (⟨#[116, 111, 117, 99, 104]⟩, [4, 4])]
def offB (y : Fs) (b : ByteArray × List Int) : Bool := (ByteArray.toList b.1 == ByteArray.toList y.nm) && (y.f.res != 0 || !(b.2 == y.f.par))
section
variable {w : World} {K : Value → World → Prop}
theorem backs_k (hK : ∀ (cs : List Cs) (cp : Nat) w', cs.map (fun x => (x.nm, x.par)) = bkL → cs.length = 6 → Ext no w w' → CsAt w' (some ⟨cp, 0, none⟩) cs → K (.slice (some ⟨cp, 0, none⟩) 6 6) w') : cl Tryz.prog 55 #[] w K := by
  apply F55_calls
  unfold F55
  have h := Hs.start w
  refine h.nwN 1 1 rfl (by decide) ?_; clear h; intro r1 w1 h
  refine h.nwN 1 1 rfl (by decide) ?_; clear h; intro r3 w1 h
  refine h.nwN 2 1 rfl (by decide) ?_; clear h; intro r5 w1 h
  refine h.nwN 2 1 rfl (by decide) ?_; clear h; intro r7 w1 h
  refine h.nwN 6 3 rfl (by decide) ?_; clear h; intro cp w2 h
  refine hK [⟨⟨#[115, 116, 97, 114, 116]⟩, none, 0, [], 0⟩, ⟨⟨#[106, 111, 105, 110]⟩, some ⟨r1, 0, none⟩, 1, [1], 0⟩, ⟨⟨#[108, 101, 97, 118, 101]⟩, some ⟨r3, 0, none⟩, 1, [1], 0⟩, ⟨⟨#[105, 110, 112, 117, 116]⟩, some ⟨r5, 0, none⟩, 2, [1, 1], 0⟩, ⟨⟨#[116, 105, 99, 107]⟩, none, 0, [], 0⟩, ⟨⟨#[116, 111, 117, 99, 104]⟩, some ⟨r7, 0, none⟩, 2, [4, 4], 0⟩] cp w2 rfl rfl h.ext ⟨h.rd List.mem_cons_self, fun x hx => ?_⟩
  have ht : ∀ r ∈ [(⟨3, 1, some ⟨r7, 0, none⟩, 2, 2, iw [4, 4]⟩ : Rw), ⟨3, 1, some ⟨r5, 0, none⟩, 2, 2, iw [1, 1]⟩, ⟨3, 1, some ⟨r3, 0, none⟩, 1, 1, iw [1]⟩, ⟨3, 1, some ⟨r1, 0, none⟩, 1, 1, iw [1]⟩], Reads w2 r.p r.xs := fun r hr => h.rd (List.mem_cons_of_mem _ hr)
  clear hK h
  simp only [List.mem_cons, List.not_mem_nil, or_false, forall_eq_or_imp, forall_eq] at hx ht
  obtain ⟨t1, t2, t3, t4⟩ := ht
  rcases hx with rfl | rfl | rfl | rfl | rfl | rfl
  · exact .inl rfl
  · exact t4
  · exact t3
  · exact t2
  · exact .inl rfl
  · exact t1
structure FnAt (w : World) (r : Nat) (y : Fs) : Prop where
  nm : w.cell? ⟨r, 0, none⟩ = some (.string y.nm)
  pp : w.cell? (Addr.add ⟨r, 0, none⟩ 1) = some (.slice y.pp y.f.par.length y.pc)
  res : w.cell? (Addr.add ⟨r, 0, none⟩ 2) = some (i6 y.f.res)
  par : Reads w y.pp (iw y.f.par)
theorem FnAt.ext {w' : World} {r : Nat} {y : Fs} (hx : Ext no w w') (h : FnAt w r y) : FnAt w' r y := ⟨hx.cell h.nm fun h => h, hx.cell h.pp fun h => h, hx.cell h.res fun h => h, h.par.no hx⟩
theorem off_k {r : Nat} {y : Fs} (hy : FnAt w r y) (hpl : y.f.par.length ≤ 1000) {b : Cs} (hb : Reads w b.p (iw b.par)) (hbl : b.par.length ≤ 1000) (hK : ∀ w', Ext no w w' → K (.bool (offB y (b.nm, b.par))) w') :
    cl Tryz.prog 56 #[.agg #[.string b.nm, .slice b.p b.par.length b.c, i6 b.res], .pointer (some ⟨r, 0, none⟩)] w K := by
  apply F56_calls
  unfold F56
  have h := Hs.start w
  refine h.nw ?_
  clear h
  intro q w1 h
  refine jh (w0 := w) (Rs := [bk 141 q [.string b.nm, .slice b.p b.par.length b.c, i6 b.res]]) (B := offB y (b.nm, b.par)) (fun w' h => sp (hK _ h.ext)) fun J hJ => ?_
  repeat first|refine sp ?_|refine cond_t rfl ?_|refine cond_f rfl ?_|refine asT_i rfl rfl ?_|refine asA_i rfl rfl ?_|refine h.l rfl ?_|refine h.hd rfl ?_|(refine h.sb rfl rfl ?_;clear h;intro _ h)|(refine h.dw ?_;clear h;intro _ h)|refine ld_mk (h.oc hy.nm) ?_
  refine cond_split (fun h1 => ?_) fun h1 => hJ _ _ (by simp only [offB, h1, Bool.false_and]) h
  repeat first|refine sp ?_|refine cond_t rfl ?_|refine cond_f rfl ?_|refine asT_i rfl rfl ?_|refine asA_i rfl rfl ?_|refine h.l rfl ?_|refine h.hd rfl ?_|(refine h.sb rfl rfl ?_;clear h;intro _ h)|(refine h.dw ?_;clear h;intro _ h)|refine ld_mk (h.oc hy.res) ?_
  refine cond_split (fun h2 => hJ _ _ (by simp only [offB, h1, h2, Bool.true_and, Bool.true_or]) h) fun h2 => ?_
  repeat first|refine sp ?_|refine cond_t rfl ?_|refine cond_f rfl ?_|refine asT_i rfl rfl ?_|refine asA_i rfl rfl ?_|refine h.l rfl ?_|refine h.hd rfl ?_|(refine h.sb rfl rfl ?_;clear h;intro _ h)|(refine h.dw ?_;clear h;intro _ h)|refine ld_mk (h.oc hy.pp) ?_
  refine eqi_k (h.old hb) rfl (h.old hy.par) rfl (by omega) fun w2 hx => sp (hJ _ _ (by simp only [offB, h1, h2, Bool.true_and, Bool.false_or]) (h.to hx))
theorem anyb_k {r : Nat} {y : Fs} (hy : FnAt w r y) (hpl : y.f.par.length ≤ 1000) {p : Option Addr} {l : List Cs} {n c : Nat} (hr : CsAt w p l) (hn : l.length = n) (hb : n ≤ 1000000) (hbl : ∀ b ∈ l, b.par.length ≤ 1000) (hK : ∀ w', Ext no w w' → K (.bool (l.any fun b => offB y (b.nm, b.par))) w') :
    cl Tryz.prog 54 #[.slice p n c, .func (.func 56) #[] #[.pointer (some ⟨r, 0, none⟩)]] w K := by
  apply F54_calls
  unfold F54
  apply F104_calls
  unfold F104
  refine idx_of (args := fun b : Cs => #[.agg #[.string b.nm, .slice b.p b.par.length b.c, i6 b.res], .pointer (some ⟨r, 0, none⟩)]) (fun b => offB y (b.nm, b.par)) hn hb (fun b hbm w' K hx hK => off_k (hy.ext hx) hpl ((hr.each b hbm).no hx) (hbl b hbm) hK) (R := fun r w' => asI .i64 (i6 r) fun x => K (.bool (decide (x ≥ 0))) w') (fun r w' hx hr => sp (by rw [hr]; exact hK _ hx)) fun J i x w' hx hxt h => ?_
  refine Reads.atN csC_len (hr.rd.no hxt) hn hx (by decide) fun a _ hc => ?_
  rw [Int.toNat_natCast]
  refine ld_mk (hc 0 (by decide)) (sp (ld_mk (hc 1 (by decide)) (sp (ld_mk (hc 2 (by decide)) (sp (cond_t ok56 h))))))
end
end Go.Proofs.YtndbhmmejjhcfaaGreatDoor
namespace Go.Proofs.YtndbhmmejjhcfaaGreatDoor
open Go Go.Sx Go.Vp
set_option maxRecDepth 100000 in
theorem und9 : Tryz.prog.underlying 9 = some .string := rfl
set_option maxRecDepth 100000 in
theorem und138 : Tryz.prog.underlying 138 = some (.map 9 4) := rfl
set_option maxRecDepth 100000 in
theorem zero4 (w : World) : (zeroValue 4).run Tryz.prog w = .ok (.bool false) w := rfl
abbrev enS : ByteArray → Value := fun x : ByteArray => Value.string x
def vaB (b : Bool) : Value := .bool b
theorem keyS : KeyT Tryz.prog 9 enS (fun _ => True) := keyT_str und9
abbrev moS (A : List (ByteArray × Bool)) (bs : List Nat) (clk : Nat) : Obj := .map (ents enS vaB A bs).toArray clk
structure Bt (A : List (ByteArray × Bool)) (bs : List Nat) (clk : Nat) : Prop where
  len : A.length = bs.length
  nd : bs.Nodup
  lt : ∀ b ∈ bs, b < clk
def memN (l : List Fs) (a : ByteArray) : Bool := l.any fun z => decide (z.nm = a)
def badN (I : Is) (j : Nat) (y : Fs) : Bool := memN (I.fs.take j) y.nm || bkL.any fun b => offB y b
def VP (I : Is) : Prop := (okB I = true ∧ encL I ≤ 1048576) ∧ (∀ j y, I.fs[j]? = some y → badN I j y = false) ∧ ∀ y ∈ I.fs, ∃ T, Typing I.im y.f T
attribute [local irreducible] jn lv ld st nw asI asB asP asS asY asM asF asA asT lp rn ru rq cl dw dr bnd bn2 nz nn hd hr so eqW
attribute [local irreducible] callOk clz clm
section
variable {w0 w : World} {Rs : List Rw} {m : Nat} {A : List (ByteArray × Bool)} {bs : List Nat} {clk : Nat} {K : Value → World → Prop}
theorem Bt.mp (hB : Bt A bs clk) (h : Hm w0 w Rs m (moS A bs clk)) : Mp w m enS vaB A bs clk := ⟨h.blk, hB.len, hB.nd, hB.lt⟩
theorem updS_k (hB : Bt A bs clk) (h : Hm w0 w Rs m (moS A bs clk)) {to : ByteArray} {s : Bool} {Q : World → Prop} (hQ : ∀ w' bs' clk', Bt (aset A to s) bs' clk' → Hm w0 w' Rs m (moS (aset A to s) bs' clk') → Q w') :
    ru Tryz.prog (Instr.mapUpdate 138 (.map (some m)) (.string to) (.bool s)) w Q :=
  Mp.update keyS und138 (hB.mp h) to ⟨trivial, fun _ _ => trivial⟩ s fun w' bs' clk' hm hx _ => hQ w' bs' clk' ⟨hm.len, hm.nd, hm.lt⟩ (h.wr hx hm.blk)
theorem lookS (hB : Bt A bs clk) (h : Hm w0 w Rs m (moS A bs clk)) (to : ByteArray) : (Instr.lookup 138 (.map (some m)) (.string to) false).run Tryz.prog w = .ok (.bool ((aget A to).getD false)) w := by
  have := Mp.lookup keyS und138 zero4 (hB.mp h) to ⟨trivial, fun _ _ => trivial⟩
  rw [this]
  cases aget A to <;> rfl
theorem verify_k (hR : Rep) (hP : PlainAt w) (hN : Nib w) {I : Is} (hI : IsAt w I) (hD : DecOK I) (hK : ∀ code a w', Ext no w w' → (code = 0 ↔ VP I) → K (.agg #[i6 code, i6 a]) w') : cl Tryz.prog 18 #[I.val] w K := by
  apply F18_calls
  unfold F18
  refine (Hs.start w).nw fun r1 w1 h => ?_
  refine h.nw ?_
  clear h
  intro r3 w2 h
  repeat first|refine sp ?_|refine cond_t rfl ?_|refine cond_f rfl ?_|refine asT_i rfl rfl ?_|refine asA_i rfl rfl ?_|refine h.l rfl ?_|refine h.hd rfl ?_|(refine h.sb rfl rfl ?_;clear h;intro _ h)|(refine h.dw ?_;clear h;intro _ h)
  refine iright_k (hN.ext h.ext) (hI.ext h.ext) (fun x hx => ⟨by have := (hD.fn x hx).loc; omega, by have := (hD.fn x hx).code; omega⟩) (fun hok => (okB_ok hok).enc (hI.ext h.ext)) fun e w3 hx3 he => ?_
  replace h := h.to hx3
  refine sp (sp (cond_split (fun h1 => ?_) fun h1 => ?_))
  · have h1 : e ≠ 0 := by simpa using h1
    repeat first|refine sp ?_|refine cond_t rfl ?_|refine cond_f rfl ?_|refine asT_i rfl rfl ?_|refine asA_i rfl rfl ?_|refine h.l rfl ?_|refine h.hd rfl ?_|(refine h.sb rfl rfl ?_;clear h;intro _ h)|(refine h.dw ?_;clear h;intro _ h)
    exact hK _ _ _ h.ext ⟨fun e0 => absurd e0 h1, fun hv => absurd (he.2 hv.1) h1⟩
  have h1 : e = 0 := by simpa using h1
  have hok := he.1 h1
  have hO := okB_ok hok.1
  have hfs := hO.fnn
  clear he h1
  refine h.map (enc := enS) (val := vaB) und138 ?_
  clear h
  intro m w4 h
  repeat first|refine sp ?_|refine cond_t rfl ?_|refine cond_f rfl ?_|refine asT_i rfl rfl ?_|refine asA_i rfl rfl ?_|refine h.l rfl ?_|refine h.hd rfl ?_|(refine h.sb rfl rfl ?_;clear h;intro _ h)|(refine h.dw ?_;clear h;intro _ h)
  refine lp_mk (fun k : Nat => [.int .i64 (k : Int)]) (fun n k w' => n = I.fs.length - k ∧ k ≤ I.fs.length ∧ (∀ j y, j < k → I.fs[j]? = some y → badN I j y = false) ∧ ∃ A bs clk, (∀ a, (aget A a).getD false = memN (I.fs.take k) a) ∧ Bt A bs clk ∧
    Hm w w' [bk 54 r3 [i6 0, i6 0], bk 31 r1 [.slice I.gp I.gl.length I.gc, .slice I.fp I.fs.length I.fc]] m (moS A bs clk)) I.fs.length 0 rfl ⟨rfl, Nat.zero_le _, fun j y hj => by omega, [], [], 0, fun a => by simp [aget_nil, memN], ⟨rfl, List.nodup_nil, by simp⟩, h⟩ ?_
  clear h
  rintro n k w5 ⟨rfl, hk, hbad, A, bs, clk, hA, hB, h⟩ J hJ
  refine sp (cond_split (fun hc => ?_) fun hc => ?_)
  · have hkl : k < I.fs.length := by have := of_decide_eq_true hc; omega
    obtain ⟨x, hx⟩ : ∃ x, I.fs[k]? = some x := ⟨_, List.getElem?_eq_getElem hkl⟩
    have hxm := List.mem_of_getElem? hx
    refine Reads.atN fsC_len hI.fn rfl hx (by decide) fun ad _ hc => ?_
    rw [Int.toNat_natCast]
    have c0 : w.cell? (Addr.add ad (k * 5)) = some (.string x.nm) := by have := hc 0 (by decide); rwa [Sx.add_zero'] at this
    have c1 : w.cell? (Addr.add (Addr.add ad (k * 5)) 1) = some (.slice x.pp x.f.par.length x.pc) := hc 1 (by decide)
    have c2 : w.cell? (Addr.add (Addr.add ad (k * 5)) 2) = some (i6 x.f.res) := hc 2 (by decide)
    have c3 : w.cell? (Addr.add (Addr.add ad (k * 5)) 3) = some (.slice x.lp x.f.loc.length x.lc) := hc 3 (by decide)
    have c4 : w.cell? (Addr.add (Addr.add ad (k * 5)) 4) = some (.slice x.cp x.f.code.length x.cc) := hc 4 (by decide)
    clear hc
    repeat first|refine sp ?_|refine cond_t rfl ?_|refine cond_f rfl ?_|refine asT_i rfl rfl ?_|refine asA_i rfl rfl ?_|refine h.l rfl ?_|refine h.hd rfl ?_|(refine h.sb rfl rfl ?_;clear h;intro _ h)|(refine h.dw ?_;clear h;intro _ h)|refine ld_mk (h.oc c0) ?_|refine ld_mk (h.oc c1) ?_|refine ld_mk (h.oc c2) ?_|refine ld_mk (h.oc c3) ?_|refine ld_mk (h.oc c4) ?_
    refine h.nw ?_
    clear h
    intro r w6 h
    refine sp ?_
    refine h.sb rfl rfl ?_; clear h; intro w7 h
    refine h.sb rfl rfl ?_; clear h; intro w8 h
    refine h.sb rfl rfl ?_; clear h; intro w9 h
    refine h.sb rfl rfl ?_; clear h; intro w10 h
    refine h.sb rfl rfl ?_; clear h; intro w11 h
    replace h : Hm w w11 [bk 42 r (fsC x), bk 54 r3 [i6 0, i6 0], bk 31 r1 [.slice I.gp I.gl.length I.gc, .slice I.fp I.fs.length I.fc]] m (moS A bs clk) := h
    have hbn : badN I k x = ((aget A x.nm).getD false || bkL.any fun b => offB x b) := by rw [hA]; rfl
    refine jn_of (fun s w' => s = [.bool (badN I k x)] ∧ Hm w w' [bk 42 r (fsC x), bk 54 r3 [i6 0, i6 0], bk 31 r1 [.slice I.gp I.gl.length I.gc, .slice I.fp I.fs.length I.fc]] m (moS A bs clk)) ?_ fun J2 hJ2 => ?_
    rotate_left
    · refine h.l rfl (sp (rq_mk (lookS hB h _) (sp (cond_split (fun e => hJ2 _ _ ⟨by rw [hbn, e, Bool.true_or], h⟩) fun e => ?_))))
      refine backs_k fun cs cp w12 hcs hcl hx12 hat => sp ?_
      replace h := h.to hx12
      have hFn : FnAt w12 r x := ⟨h.hs.cel (a := ⟨r, 0, none⟩) rfl, h.hs.cel (a := Addr.add ⟨r, 0, none⟩ 1) rfl, h.hs.cel (a := Addr.add ⟨r, 0, none⟩ 2) rfl, h.old (hI.each x hxm).par⟩
      have hbl : ∀ b ∈ cs, b.par.length ≤ 1000 := fun b hb => by
        have h1 : ∀ e ∈ bkL, e.2.length ≤ 1000 := by decide
        exact h1 (b.nm, b.par) (by rw [← hcs]; exact List.mem_map.2 ⟨b, hb, rfl⟩)
      refine anyb_k hFn (by have := (hO.fn x hxm).par; omega) hat hcl (by decide) hbl fun w13 hx13 => sp (hJ2 _ _ ⟨?_, h.to hx13⟩)
      rw [hbn, e, Bool.false_or, ← hcs, List.any_map]
      rfl
    clear h
    rintro _ w12 ⟨rfl, h⟩
    refine sp (cond_split (fun hb => ?_) fun hb => ?_)
    · repeat first|refine sp ?_|refine cond_t rfl ?_|refine cond_f rfl ?_|refine asT_i rfl rfl ?_|refine asA_i rfl rfl ?_|refine h.l rfl ?_|refine h.hd rfl ?_|(refine h.sb rfl rfl ?_;clear h;intro _ h)|(refine h.dw ?_;clear h;intro _ h)
      exact hK _ _ _ h.ext ⟨fun e => absurd e (by decide), fun hv => by rw [hv.2.1 k x hx] at hb; cases hb⟩
    · refine h.l rfl (sp (updS_k hB h fun w13 bs' clk' hB' h' => ?_))
      rw [natS k (by omega)]
      refine hJ _ (k + 1) w13 (by omega) ⟨rfl, hkl, fun j y hj hy => ?_, _, bs', clk', fun a => ?_, hB', h'.tail⟩
      · by_cases e : j = k
        · subst e
          rw [hx] at hy
          cases hy
          exact hb
        · exact hbad j y (by omega) hy
      · rw [aget_aset, List.take_add_one, hx, Option.toList_some]
        have hA := hA a
        unfold memN at hA ⊢
        rw [List.any_append, ← hA]
        by_cases e : a = x.nm
        · simp [e]
        · have e2 : ¬ x.nm = a := fun e2 => e e2.symm
          simp [e, e2]
  have hkl : k = I.fs.length := by have := of_decide_eq_false hc; omega
  subst hkl
  replace h := h.hs
  clear hc hJ J hB hA
  repeat first|refine sp ?_|refine cond_t rfl ?_|refine cond_f rfl ?_|refine asT_i rfl rfl ?_|refine asA_i rfl rfl ?_|refine h.l rfl ?_|refine h.hd rfl ?_|(refine h.sb rfl rfl ?_;clear h;intro _ h)|(refine h.dw ?_;clear h;intro _ h)
  refine lp_mk (fun k : Nat => [.int .i64 (k : Int)]) (fun n k w' => n = I.fs.length - k ∧ k ≤ I.fs.length ∧ (∀ j y, j < k → I.fs[j]? = some y → ∃ T, Typing I.im y.f T) ∧
    Hs w w' [bk 54 r3 [i6 0, i6 0], bk 31 r1 [.slice I.gp I.gl.length I.gc, .slice I.fp I.fs.length I.fc]]) I.fs.length 0 rfl ⟨rfl, Nat.zero_le _, fun j y hj => by omega, h⟩ ?_
  clear h hk
  rintro n k w6 ⟨rfl, hk, hty, h⟩ J hJ
  refine sp (cond_split (fun hc => ?_) fun hc => ?_)
  · have hkl : k < I.fs.length := by have := of_decide_eq_true hc; omega
    obtain ⟨x, hx⟩ : ∃ x, I.fs[k]? = some x := ⟨_, List.getElem?_eq_getElem hkl⟩
    have hxm := List.mem_of_getElem? hx
    refine sp ?_
    repeat first|refine sp ?_|refine cond_t rfl ?_|refine cond_f rfl ?_|refine asT_i rfl rfl ?_|refine asA_i rfl rfl ?_|refine h.l rfl ?_|refine h.hd rfl ?_|(refine h.sb rfl rfl ?_;clear h;intro _ h)|(refine h.dw ?_;clear h;intro _ h)
    refine function_k hR (hP.ext h.ext) (hI.ext h.ext) hO hD hx fun code a mo w7 hx7 hc7 => ?_
    replace h := h.to hx7
    repeat first|refine sp ?_|refine cond_t rfl ?_|refine cond_f rfl ?_|refine asT_i rfl rfl ?_|refine asA_i rfl rfl ?_|refine h.l rfl ?_|refine h.hd rfl ?_|(refine h.sb rfl rfl ?_;clear h;intro _ h)|(refine h.dw ?_;clear h;intro _ h)
    refine h.nw ?_
    clear h
    intro r w8 h
    repeat first|refine sp ?_|refine cond_t rfl ?_|refine cond_f rfl ?_|refine asT_i rfl rfl ?_|refine asA_i rfl rfl ?_|refine h.l rfl ?_|refine h.hd rfl ?_|(refine h.sb rfl rfl ?_;clear h;intro _ h)|(refine h.dw ?_;clear h;intro _ h)
    refine cond_split (fun e => ?_) fun e => ?_
    · have e : code ≠ 0 := by simpa using e
      repeat first|refine sp ?_|refine cond_t rfl ?_|refine cond_f rfl ?_|refine asT_i rfl rfl ?_|refine asA_i rfl rfl ?_|refine h.l rfl ?_|refine h.hd rfl ?_|(refine h.sb rfl rfl ?_;clear h;intro _ h)|(refine h.dw ?_;clear h;intro _ h)
      exact hK _ _ _ h.ext ⟨fun e0 => absurd e0 e, fun hv => absurd (hc7.2 (hv.2.2 x hxm)) e⟩
    · have e : code = 0 := by simpa using e
      rw [natS k (by omega)]
      refine hJ _ (k + 1) _ (by omega) ⟨rfl, hkl, fun j y hj hy => ?_, h.tail⟩
      by_cases e2 : j = k
      · subst e2
        rw [hx] at hy
        cases hy
        exact hc7.1 e
      · exact hty j y (by omega) hy
  · have hkl : k = I.fs.length := by have := of_decide_eq_false hc; omega
    subst hkl
    repeat first|refine sp ?_|refine cond_t rfl ?_|refine cond_f rfl ?_|refine asT_i rfl rfl ?_|refine asA_i rfl rfl ?_|refine h.l rfl ?_|refine h.hd rfl ?_|(refine h.sb rfl rfl ?_;clear h;intro _ h)|(refine h.dw ?_;clear h;intro _ h)
    refine hK _ _ _ h.ext ⟨fun _ => ⟨hok, fun j y hy => hbad j y (List.getElem?_eq_some_iff.1 hy).1 hy, fun y hy => ?_⟩, fun _ => rfl⟩
    obtain ⟨j, hj⟩ := List.getElem?_of_mem hy
    exact hty j y (List.getElem?_eq_some_iff.1 hj).1 hj
end
end Go.Proofs.YtndbhmmejjhcfaaGreatDoor
namespace Go.Sx
open Go Go.ChangeShapes Go.WideShapes Go.ChangeAt Go.RowKit
section
variable {H : Type} {enc : TypeId × Value → H} {P : Program} {W : World} {base : Nat} {t e : TypeId} {k : IntKind} {a : Option Addr} {len cap : Nat} {d : DataW H} {ps : List MemPlace} {ts : List TypeId} {ds : List (DataW H)} {j : Nat}
theorem reads_of {W : World} {x : Addr} {vs : List Value} (h : ∀ (i : Nat) (v : Value), vs[i]? = some v → W.cell? (x.add i) = some v) : Reads W (some x) vs := by
  cases vs with
  | nil => exact .inl rfl
  | cons u us =>
    have h0 := h 0 u rfl
    have hs : x.spot = none := by
      cases hsp : x.spot with
      | none => rfl
      | some s =>
        have : x.add 0 = x := by simp [Addr.add]
        rw [this] at h0
        unfold World.cell? at h0
        split at h0
        · simp [hsp] at h0
        · cases h0
    obtain ⟨b, o, sp⟩ := x
    simp only at hs
    subst hs
    exact .inr ⟨b, o, rfl, fun i v hv => by have := h i v hv; rwa [add_mk] at this⟩
theorem op_ints (hsz : (DataW.weightsEach P ts ds).all (· ≤ reachBytes) = true) (ht : ts[j]? = some t) (hd : ds[j]? = some d) (hu : P.underlying t = some (.slice e)) (he : P.underlying e = some (.int k)) (hc : P.cellsOf e = 1) {B : Nat} (hB : P.bytesOf e = B)
    (h : DataW.Trod enc P W base (fun _ => true) true t (.slice a len cap) d ps) :
    ∃ zs : List Int, Reads W a (iv k zs) ∧ zs.length = len ∧ (∀ n ∈ zs, (Lit.int k n).wf = true) ∧ len * B ≤ 140737488351232 := by
  obtain ⟨fuel, hf⟩ := h
  rcases open_ints hu he hc hf with ⟨hcs, _⟩ | ⟨x, l, c, zs, hcs, _, hl, _, hz, hx, hcell, hwf⟩
  · simp [Value.cells] at hcs
    obtain ⟨rfl, rfl, rfl⟩ := hcs
    exact ⟨[], .inl rfl, rfl, by simp, by simp⟩
  · simp [Value.cells] at hcs
    obtain ⟨rfl, rfl, rfl⟩ := hcs
    obtain ⟨hx, _⟩ := Prod.mk.inj hx
    subst hx
    simp only [if_true] at hz
    have hl2 : len ≤ zs.length := by omega
    refine ⟨zs.take len, reads_of fun i v hv => ?_, by simp; omega, fun n hn => hwf n (List.mem_of_mem_take hn), ?_⟩
    · have hi : i < len := by
        have := (List.getElem?_eq_some_iff.1 hv).1
        simp [iv] at this
        omega
      rw [hcell i (by omega)]
      rw [iv_get (by simp; omega)] at hv
      rw [← hv]
      congr 2
      simp [hi]
    · have z := sized_slice hsz ht hd hu
      rw [hB] at z
      have h1 : (lits (H := H) k (zs.take len)).length + (lits (H := H) k (zs.drop len)).length = zs.length := by
        simp [lits]
        omega
      rw [h1] at z
      exact Nat.le_trans (Nat.mul_le_mul_right _ hl2) z
theorem bytes_of {zs : List Int} (h : ∀ n ∈ zs, (Lit.int .u8 n).wf = true) : ∃ bs : List Nat, iv .u8 zs = bv bs ∧ bs.length = zs.length ∧ ∀ b ∈ bs, b < 256 := by
  refine ⟨zs.map Int.toNat, ?_, by simp, ?_⟩
  · simp only [iv, bv, List.map_map]
    apply List.map_congr_left
    intro n hn
    have := h n hn
    simp only [Lit.wf, Bool.and_eq_true, IntKind.min, IntKind.max, IntKind.bits, IntKind.signed] at this
    simp at this ⊢
    omega
  · intro b hb
    simp only [List.mem_map] at hb
    obtain ⟨n, hn, rfl⟩ := hb
    have := h n hn
    simp only [Lit.wf, Bool.and_eq_true, IntKind.min, IntKind.max, IntKind.bits, IntKind.signed] at this
    simp at this
    omega
theorem i64_of {n : Int} (h : (Lit.int .i64 n).wf = true) : -9223372036854775808 ≤ n ∧ n ≤ 9223372036854775807 := by
  simp only [Lit.wf, Bool.and_eq_true, IntKind.min, IntKind.max, IntKind.bits, IntKind.signed] at h
  simp at h
  omega
end
theorem calls_of_cl {P : Program} {f : FuncId} {args : Array Value} {w : World} (h : cl P f args w fun v w' => v = .bool true ∧ Ext no w w') :
    Calls P f args w fun e w' => e = .returned (.bool true) ∧ Below w.heap.size w w' :=
  Calls.mono h fun e w' ⟨v, he, hv, hx⟩ => ⟨by rw [he, hv], hx.below fun _ _ h => h⟩
end Go.Sx
namespace Go.Sx
open Go Go.ChangeShapes Go.WideShapes Go.ChangeAt Go.RowKit
inductive Lf where
  | int (k : IntKind)
  | bool
  | str
def Fits : Lf → Value → Prop
  | .int k, v => ∃ n, v = .int k n ∧ (Lit.int k n).wf = true
  | .bool, v => ∃ b, v = .bool b
  | .str, v => ∃ s, v = .string s ∧ s.size ≤ maxLen
def FitsAll : List Lf → List Value → Prop
  | [], cs => cs = []
  | l :: ls, cs => ∃ v r, cs = v :: r ∧ Fits l v ∧ FitsAll ls r
theorem FitsAll.length : ∀ {ls : List Lf} {cs : List Value}, FitsAll ls cs → cs.length = ls.length
  | [], _, h => by rw [show _ = [] from h]; rfl
  | _ :: _, _, ⟨_, _, e, _, h⟩ => by rw [e]; simp [h.length]
theorem FitsAll.append : ∀ {a b : List Lf} {x y : List Value}, FitsAll a x → FitsAll b y → FitsAll (a ++ b) (x ++ y)
  | [], _, _, _, h, k => by rw [show _ = [] from h]; exact k
  | _ :: _, _, _, _, ⟨v, r, e, f, h⟩, k => ⟨v, _, by rw [e]; rfl, f, h.append k⟩
def lfsF (P : Program) (g : TypeId → Option (List Lf)) : List Field → Nat → Option (List Lf)
  | [], _ => some []
  | f :: r, o =>
    match g f.type with
    | some l => if f.offset = o ∧ P.cellsOf f.type = l.length then (lfsF P g r (o + l.length)).map (l ++ ·) else none
    | none => none
def lfs (P : Program) : Nat → TypeId → Option (List Lf)
  | 0, _ => none
  | n + 1, t =>
    match P.underlying t with
    | some .bool => some [.bool]
    | some (.int k) => some [.int k]
    | some .string => some [.str]
    | some (.struct fs) =>
      match lfsF P (lfs P n) fs.toList 0 with
      | some l => if P.cellsOf t = l.length then some l else none
      | none => none
    | _ => none
section
variable {H : Type} {enc : TypeId × Value → H} {P : Program} {W : World} {base : Nat} {spare : Nat → Bool} {held : Bool}
theorem trod_fits : ∀ (n : Nat) {t : TypeId} {fuel : Nat} {cs : List Value} {x : DataW H × List MemPlace} {ls : List Lf}, lfs P n t = some ls → DataW.trod enc P W base spare held fuel t cs = some x → FitsAll ls cs
  | 0, _, _, _, _, _, h, _ => by simp [lfs] at h
  | n + 1, t, fuel, cs, x, ls, h, ht => by
    unfold lfs at h
    split at h
    · rename_i hu
      simp only [Option.some.injEq] at h
      subst h
      obtain ⟨b, h1, _⟩ := DataW.trod_bool hu ht
      exact ⟨_, [], h1, ⟨b, rfl⟩, rfl⟩
    · rename_i k hu
      simp only [Option.some.injEq] at h
      subst h
      obtain ⟨m, h1, _, hw⟩ := DataW.trod_int hu ht
      exact ⟨_, [], h1, ⟨m, rfl, hw⟩, rfl⟩
    · rename_i hu
      simp only [Option.some.injEq] at h
      subst h
      obtain ⟨s, h1, _, hw⟩ := DataW.trod_string hu ht
      exact ⟨_, [], h1, ⟨s, rfl, hw⟩, rfl⟩
    · rename_i fs hu
      split at h
      · rename_i l hl
        split at h
        · rename_i hc
          simp only [Option.some.injEq] at h
          subst h
          obtain ⟨xs, m, _, _, hlen, hxs, hf⟩ := DataW.trod_struct hu ht
          have each : ∀ f ∈ fs.toList, ∃ y, DataW.trod enc P W base spare held m f.type ((cs.drop f.offset).take (P.cellsOf f.type)) = some y := by
            intro f hfm
            obtain ⟨i, hi⟩ := List.getElem?_of_mem hfm
            have hi' : fs[i]? = some f := by simpa using hi
            have hlt : i < xs.length := by
              rw [hxs]
              exact (Array.getElem?_eq_some_iff.1 hi').1
            exact ⟨xs[i], (hf i f hi').trans (List.getElem?_eq_getElem hlt)⟩
          have go : ∀ (r : List Field) (o : Nat) (l : List Lf), lfsF P (lfs P n) r o = some l → (∀ f ∈ r, ∃ y, DataW.trod enc P W base spare held m f.type ((cs.drop f.offset).take (P.cellsOf f.type)) = some y) → FitsAll l ((cs.drop o).take l.length) := by
            intro r
            induction r with
            | nil =>
              intro o l hr _
              simp only [lfsF, Option.some.injEq] at hr
              subst hr
              show List.take 0 _ = []
              simp
            | cons f r ih =>
              intro o l hr he
              simp only [lfsF] at hr
              split at hr
              · rename_i lf hlf
                split at hr
                · rename_i hoff
                  obtain ⟨l', hl', rfl⟩ := Option.map_eq_some_iff.1 hr
                  obtain ⟨y, hy⟩ := he f (List.mem_cons_self ..)
                  have h1 := trod_fits n hlf hy
                  rw [hoff.1, hoff.2] at h1
                  have h2 := ih _ _ hl' fun g hg => he g (List.mem_cons_of_mem _ hg)
                  rw [List.length_append, List.take_add, List.drop_drop]
                  exact h1.append h2
                · cases hr
              · cases hr
          have := go _ _ _ hl each
          rw [List.drop_zero, List.take_of_length_le (by rw [hlen, hc]; exact Nat.le_refl _)] at this
          exact this
        · cases h
      · cases h
    · cases h
theorem flat_get {α : Type} {C : Nat} (hC : 0 < C) : ∀ {chunks : List (List α)} (k : Nat), (∀ c ∈ chunks, c.length = C) → chunks.flatten[k]? = (chunks[k / C]?).bind fun c => c[k % C]?
  | [], k, _ => by simp
  | c :: r, k, h => by
    have hc := h c (List.mem_cons_self ..)
    rw [List.flatten_cons]
    by_cases hk : k < C
    · rw [List.getElem?_append_left (by omega), Nat.div_eq_of_lt hk, Nat.mod_eq_of_lt hk]
      simp
    · rw [List.getElem?_append_right (by omega), hc, flat_get hC _ fun c' hc' => h c' (List.mem_cons_of_mem _ hc')]
      have e1 : k / C = (k - C) / C + 1 := by
        have : k = (k - C) + C := by omega
        rw [this, Nat.add_div_right _ hC]
        simp
      have e2 : k % C = (k - C) % C := by
        have : k = (k - C) + C := by omega
        rw [this, Nat.add_mod_right]
        simp
      rw [e1, e2]
      simp
theorem op_slice {t e : TypeId} {a : Option Addr} {len cap : Nat} {d : DataW H} {ps : List MemPlace} {ts : List TypeId} {ds : List (DataW H)} {j : Nat}
    (hsz : (DataW.weightsEach P ts ds).all (· ≤ reachBytes) = true) (ht : ts[j]? = some t) (hd : ds[j]? = some d) (hu : P.underlying t = some (.slice e)) {n : Nat} {ls : List Lf} (hl : lfs P n e = some ls) (hpos : 0 < ls.length) (hC : P.cellsOf e = ls.length) {B : Nat} (hB : P.bytesOf e = B)
    (h : DataW.Trod enc P W base (fun _ => true) true t (.slice a len cap) d ps) :
    ∃ chunks : List (List Value), Reads W a chunks.flatten ∧ chunks.length = len ∧ (∀ c ∈ chunks, FitsAll ls c) ∧ len * B ≤ 140737488351232 := by
  obtain ⟨fuel, hf⟩ := h
  rcases DataW.trod_slice hu hf with ⟨hcs, _⟩ | ⟨x, l, c, elems, rest, m, _, hcs, hx, _, _, _, hel, hat, _⟩
  · simp [Value.cells] at hcs
    obtain ⟨rfl, rfl, rfl⟩ := hcs
    exact ⟨[], .inl rfl, rfl, by simp, by simp⟩
  · simp [Value.cells] at hcs
    obtain ⟨rfl, rfl, rfl⟩ := hcs
    obtain ⟨hx, _⟩ := Prod.mk.inj hx
    have each : ∀ i, i < len → ∃ cs, W.cells? base (x.add (i * ls.length)) ls.length = some cs ∧ FitsAll ls cs := by
      intro i hi
      have := hat i hi
      rw [List.getElem?_eq_getElem (by omega), hC] at this
      cases hcc : W.cells? base (x.add (i * ls.length)) ls.length with
      | none => rw [hcc] at this; simp at this
      | some cs =>
        rw [hcc] at this
        exact ⟨cs, rfl, trod_fits n hl this⟩
    refine ⟨(List.range len).map fun i => (W.cells? base (x.add (i * ls.length)) ls.length).getD [], ?_, by simp, ?_, ?_⟩
    · refine reads_of fun k v hv => ?_
      have hall : ∀ c ∈ ((List.range len).map fun i => (W.cells? base (x.add (i * ls.length)) ls.length).getD []), c.length = ls.length := by
        intro c hc
        simp only [List.mem_map, List.mem_range] at hc
        obtain ⟨i, hi, rfl⟩ := hc
        obtain ⟨cs, h1, h2⟩ := each i hi
        rw [h1]
        exact h2.length
      rw [flat_get hpos k hall] at hv
      obtain ⟨c, hc, hv⟩ := Option.bind_eq_some_iff.1 hv
      have hi : k / ls.length < len := by
        have := (List.getElem?_eq_some_iff.1 hc).1
        simpa using this
      obtain ⟨cs, h1, h2⟩ := each _ hi
      simp [hi, h1] at hc
      subst hc
      obtain ⟨_, _, hcell⟩ := World.cells?_some h1
      have hm : k % ls.length < ls.length := Nat.mod_lt _ hpos
      have := hcell _ hm
      rw [Go.Deep.add_add] at this
      have ek : k / ls.length * ls.length + k % ls.length = k := by
        rw [Nat.mul_comm]
        exact Nat.div_add_mod k ls.length
      rw [ek] at this
      rw [this, hv]
    · intro c hc
      simp only [List.mem_map, List.mem_range] at hc
      obtain ⟨i, hi, rfl⟩ := hc
      obtain ⟨cs, h1, h2⟩ := each i hi
      rw [h1]
      exact h2
    · have hd' := hd
      rw [hx] at hd'
      have z := sized_slice hsz ht hd' hu
      rw [hB] at z
      refine Nat.le_trans (Nat.mul_le_mul_right _ ?_) z
      simp
      omega
end
end Go.Sx
namespace Go.Sx
open Go Go.ChangeShapes Go.WideShapes Go.ChangeAt Go.RowKit Go.Deep Go.Joins
section
variable {H : Type} {enc : TypeId × Value → H} {P : Program} {W : World} {base : Nat}
theorem slice_form {t e : TypeId} (hu : P.underlying t = some (.slice e)) {n : Nat} {v : Value} {y : DataW H × List MemPlace} (h : DataW.trod enc P W base (fun _ => true) true n t [v] = some y) : ∃ p l c, v = .slice p l c ∧ l ≤ c := by
  rcases DataW.trod_slice hu h with ⟨h1, _⟩ | ⟨q, l2, c2, _, _, _, _, h1, _, _, h2, _⟩
  · exact ⟨none, 0, 0, by simpa using h1, Nat.le_refl _⟩
  · exact ⟨some q, l2, c2, by simpa using h1, h2⟩
theorem slice_cap {t e : TypeId} (hu : P.underlying t = some (.slice e)) {a : Option Addr} {n c : Nat} {d : DataW H} {ps : List MemPlace} (h : DataW.Trod enc P W base (fun _ => true) true t (.slice a n c) d ps) : n ≤ c := by
  obtain ⟨m, hm⟩ := h
  obtain ⟨p, l, c', e, hc⟩ := slice_form hu (n := m) (v := .slice a n c) (y := (d, ps)) (by simpa [Value.cells] using hm)
  cases e
  exact hc
theorem weights_field {ts ts' : List TypeId} {ds ds' : List (DataW H)} {t t' : TypeId} {j i : Nat} {d : DataW H} {fs : Array Field} (hsz : (DataW.weightsEach P ts ds).all (· ≤ reachBytes) = true) (ht : ts[j]? = some t) (hd : ds[j]? = some (.agg ds')) (hu : P.underlying t = some (.struct fs))
    (hts : fs.toList.map (·.type) = ts') (hi : ts'[i]? = some t') (hdi : ds'[i]? = some d) : (DataW.weightsEach P [t'] [d]).all (· ≤ reachBytes) = true := by
  rw [List.all_eq_true]
  intro k hk
  have hk2 : k ∈ d.weights P t' := by
    have e1 : DataW.weightsEach P [t'] [d] = d.weights P t' ++ DataW.weightsEach P [] [] := rfl
    rw [e1] at hk
    rcases List.mem_append.1 hk with h | h
    · exact h
    · cases h
  refine List.all_eq_true.1 hsz _ (DataW.weights_mem_each ht hd k ?_)
  unfold DataW.weights
  rw [hu]
  simp only
  rw [hts]
  exact DataW.weights_mem_each hi hdi k hk2
theorem op_call {t t0 t1 t2 t3 e1 e3 : TypeId} {f0 f1 f2 f3 : Field} {r : Reach} {b0 : Nat} {v : Value} {d : DataW H} {p : List MemPlace} {ts : List TypeId} {ds : List (DataW H)} {j : Nat}
    (hsz : (DataW.weightsEach P ts ds).all (· ≤ reachBytes) = true) (ht : ts[j]? = some t) (hd : ds[j]? = some d) (hs : P.underlying t = some (.struct #[f0, f1, f2, f3])) (hone : oneCellFields P #[f0, f1, f2, f3] = true) (hC : P.cellsOf t = 4)
    (ht0 : f0.type = t0) (ht1 : f1.type = t1) (ht2 : f2.type = t2) (ht3 : f3.type = t3)
    (hu0 : P.underlying t0 = some (.int .i64)) (hu1 : P.underlying t1 = some (.slice e1)) (hu2 : P.underlying t2 = some (.int .i64)) (hu3 : P.underlying t3 = some (.slice e3)) (he1 : P.underlying e1 = some (.int .i64)) (hc1 : P.cellsOf e1 = 1) {n : Nat} {ls : List Lf} (hl : lfs P n e3 = some ls) (hpos : 0 < ls.length) (hC3 : P.cellsOf e3 = ls.length)
    (hv : Value.okWide P W r b0 t v) (h : DataW.Trod enc P W base (fun _ => true) true t v d p) :
    ∃ (a b : Int) (q rp : Option Addr) (m c rn rc : Nat) (zs : List Int) (ch : List (List Value)), v = .agg #[.int .i64 a, .slice q m c, .int .i64 b, .slice rp rn rc] ∧ (Lit.int .i64 b).wf = true ∧
      Reads W q (iv .i64 zs) ∧ zs.length = m ∧ (∀ n ∈ zs, (Lit.int .i64 n).wf = true) ∧ m ≤ c ∧ Reads W rp ch.flatten ∧ ch.length = rn ∧ (∀ c ∈ ch, FitsAll ls c) ∧ rn ≤ rc := by
  subst ht0 ht1 ht2 ht3
  obtain ⟨v0, v1, v2, v3, y0, y1, y2, y3, n', rfl, rfl, rfl, h0, h1, h2, h3⟩ := open_agg4 hs hone hC hv h
  obtain ⟨a, ha, _, _⟩ := DataW.trod_int hu0 h0
  obtain ⟨b, hb, _, hbw⟩ := DataW.trod_int hu2 h2
  obtain ⟨q, m, c, rfl, hmc⟩ := slice_form hu1 h1
  obtain ⟨rp, rn, rc, rfl, hrc⟩ := slice_form hu3 h3
  have ha : v0 = .int .i64 a := by simpa using ha
  have hb : v2 = .int .i64 b := by simpa using hb
  subst ha hb
  have w1 := weights_field (i := 1) (t' := f1.type) (d := y1.1) hsz ht hd hs rfl rfl rfl
  have w3 := weights_field (i := 3) (t' := f3.type) (d := y3.1) hsz ht hd hs rfl rfl rfl
  obtain ⟨zs, g1, g2, g3, _⟩ := op_ints (j := 0) w1 rfl rfl hu1 he1 hc1 (B := _) rfl ⟨n', by simpa [Value.cells] using h1⟩
  obtain ⟨ch, k1, k2, k3, _⟩ := op_slice (j := 0) w3 rfl rfl hu3 hl hpos hC3 (B := _) rfl ⟨n', by simpa [Value.cells] using h3⟩
  exact ⟨a, b, q, rp, m, c, rn, rc, zs, ch, rfl, hbw, g1, g2, g3, hmc, k1, k2, k3, hrc⟩
end
end Go.Sx
namespace Go.Sx
open Go Go.RowKit Go.ChangeShapes Go.WideShapes
def flatD {H : Type} (P : Program) : Nat → TypeId → DataW H → Option (List Value)
  | 0, _, _ => none
  | n + 1, t, d => match d with
    | .lit (.int k z) => match P.underlying t with | some (.int _) => some [.int k z] | _ => none
    | .lit (.string b) => match P.underlying t with | some .string => some [.string ⟨b.toArray⟩] | _ => none
    | .agg ps => match P.underlying t with
      | some (.array k e) => match ps.mapM (flatD P n e) with
        | some vs => if vs.all (fun v => Nat.beq v.length (P.cellsOf e)) && Nat.beq (P.cellsOf t) (k * P.cellsOf e) && Nat.blt 0 (P.cellsOf e) then some vs.flatten else none
        | none => none
      | _ => none
    | _ => none
theorem mapM_get {α β : Type} {f : α → Option β} : ∀ {l : List α} {r : List β}, l.mapM f = some r → r.length = l.length ∧ ∀ (i : Nat) (x : α), l[i]? = some x → f x = r[i]?
  | [], r, h => by
    simp at h
    subst h
    exact ⟨rfl, fun i x h => by simp at h⟩
  | a :: l, r, h => by
    simp only [List.mapM_cons, Option.bind_eq_bind, Option.bind_eq_some_iff, Option.pure_def, Option.some.injEq] at h
    obtain ⟨y, hy, ys, hys, rfl⟩ := h
    obtain ⟨h1, h2⟩ := mapM_get hys
    refine ⟨by simp [h1], fun i x hx => ?_⟩
    cases i with
    | zero => simp at hx; subst hx; simpa using hy
    | succ i => simpa using h2 i x (by simpa using hx)
section
variable {H : Type} {enc : TypeId × Value → H} {P : Program} {w : World} {base : Nat} {sp : Nat → Bool} {held : Bool}
theorem flat_of : ∀ (n : Nat) {t : TypeId} {d : DataW H} {vs : List Value} {fuel : Nat} {cs : List Value} {q : List MemPlace}, flatD P n t d = some vs → DataW.trod enc P w base sp held fuel t cs = some (d, q) → cs = vs
  | 0, _, _, _, _, _, _, h, _ => by simp [flatD] at h
  | n + 1, t, d, vs, fuel, cs, q, h, ht => by
    unfold flatD at h
    split at h
    · rename_i k z
      split at h
      · rename_i k' hu
        cases h
        obtain ⟨m, h1, h2, _⟩ := DataW.trod_int hu ht
        simp only [Prod.mk.injEq, DataW.lit.injEq, Lit.int.injEq] at h2
        rw [h1, h2.1.1, h2.1.2]
      · cases h
    · rename_i b
      split at h
      · rename_i hu
        cases h
        obtain ⟨s, h1, h2, _⟩ := DataW.trod_string hu ht
        simp only [Prod.mk.injEq, DataW.lit.injEq, Lit.string.injEq] at h2
        rw [h1, h2.1]
      · cases h
    · rename_i ps
      split at h
      · rename_i k e hu
        split at h
        · rename_i vss hm
          split at h
          · rename_i hc
            cases h
            simp only [Bool.and_eq_true, List.all_eq_true, Nat.beq_eq, Nat.blt_eq] at hc
            obtain ⟨⟨hlen, hC⟩, hpos⟩ := hc
            obtain ⟨xs, m, _, hx, hcl, hxl, hel⟩ := DataW.trod_array hu ht
            simp only [Prod.mk.injEq, DataW.agg.injEq] at hx
            obtain ⟨rfl, _⟩ := hx
            obtain ⟨hl1, hl2⟩ := mapM_get hm
            rw [List.length_map, hxl] at hl1
            have each : ∀ i, i < k → (cs.drop (i * P.cellsOf e)).take (P.cellsOf e) = vss.getD i [] := by
              intro i hi
              have h1 := hel i hi
              rw [List.getElem?_eq_getElem (by omega)] at h1
              have h2 := hl2 i xs[i].1 (by simp [hxl, hi])
              have hvi : vss[i]? = some vss[i] := List.getElem?_eq_getElem (by omega)
              rw [hvi] at h2
              rw [List.getD_eq_getElem?_getD, hvi]
              exact flat_of n (q := xs[i].2) h2 (by rw [h1])
            apply List.ext_getElem?
            intro j
            rw [flat_get hpos j (fun c hc => hlen c hc)]
            by_cases hj : j < k * P.cellsOf e
            · have hi : j / P.cellsOf e < k := Nat.div_lt_of_lt_mul (by rw [Nat.mul_comm]; exact hj)
              have hmod := Nat.mod_lt j hpos
              have h3 := congrArg (fun l => l[j % P.cellsOf e]?) (each _ hi)
              simp only [List.getElem?_take, if_pos hmod, List.getElem?_drop] at h3
              have e1 : j / P.cellsOf e * P.cellsOf e + j % P.cellsOf e = j := by rw [Nat.mul_comm]; exact Nat.div_add_mod _ _
              rw [e1] at h3
              have hvi : vss[j / P.cellsOf e]? = some vss[j / P.cellsOf e] := List.getElem?_eq_getElem (by omega)
              rw [h3, hvi, List.getD_eq_getElem?_getD, hvi]
              rfl
            · rw [List.getElem?_eq_none (by omega)]
              have hi : k ≤ j / P.cellsOf e := (Nat.le_div_iff_mul_le hpos).2 (by omega)
              rw [List.getElem?_eq_none (by omega)]
              rfl
          · cases h
        · cases h
      · cases h
    · cases h
end
theorem cells_of_var {P : Program} {W : World} {nm : String} {g : Nat} {t : TypeId} {d : DataW Unit} {n : Nat} {vs : List Value} (h : Lib.VarReads P W nm d) (hg : P.globalNamed nm = some g) (ht : (P.globals[g]?).map (·.type) = some t) (hf : flatD P n t d = some vs) (i : Nat) :
    W.cell? ⟨g, i, none⟩ = vs[i]? := by
  obtain ⟨g', t', cs, fuel, p, h1, h2, h3, h4⟩ := h
  obtain rfl := Option.some.inj (hg.symm.trans h1)
  obtain rfl := Option.some.inj (ht.symm.trans h2)
  have := flat_of n hf h4
  rw [World.var?_cell hg h3 i, ← this]
  simp
end Go.Sx

namespace Go.Proofs.YtndbhmmejjhcfaaGreatDoor
open Go Go.Sx Go.Vp
theorem mask_le (a : Int) (n : Nat) (hn : n < 9223372036854775808) : 0 ≤ Go.bits .and .i64 a (n : Int) ∧ Go.bits .and .i64 a (n : Int) ≤ n := by
  have h0 : Go.bits .and .i64 a (n : Int) = IntKind.wrap .i64 (((BitVec.ofInt 64 a &&& BitVec.ofInt 64 (n : Int)).toNat : Nat) : Int) := rfl
  have h1 : (BitVec.ofInt 64 a &&& BitVec.ofInt 64 (n : Int)).toNat ≤ n := by
    rw [BitVec.toNat_and]
    refine Nat.le_trans Nat.and_le_right ?_
    rw [BitVec.ofInt_natCast, BitVec.toNat_ofNat]
    exact Nat.mod_le _ _
  rw [h0, wr64 (by omega) (by omega)]
  omega
theorem fits_rp : ∀ {ch : List (List Value)}, (∀ c ∈ ch, FitsAll [.int .i64, .bool] c) → ∃ rl : List (Int × Bool), ch.flatten = rl.flatMap rpC ∧ rl.length = ch.length ∧ ∀ y ∈ rl, I64 y.1
  | [], _ => ⟨[], rfl, rfl, by simp⟩
  | c :: ch, h => by
    obtain ⟨rl, h1, h2, h3⟩ := fits_rp fun c hc => h c (List.mem_cons_of_mem _ hc)
    obtain ⟨v, r, rfl, ⟨n, rfl, hn⟩, v2, r2, rfl, ⟨b, rfl⟩, h4⟩ := h c List.mem_cons_self
    have h4 : r2 = [] := h4
    subst h4
    refine ⟨(n, b) :: rl, by simp [h1, rpC], by simp [h2], fun y hy => ?_⟩
    rcases List.mem_cons.1 hy with rfl | hy
    · have := i64_of hn
      exact ⟨this.1, this.2⟩
    · exact h3 y hy
theorem ty_snoc {par al : List Int} {k : Nat} (hk : k < par.length) (h : Ty (rowL (par.take k)) al) {v : Int} (hv : okV (l5 (par.getD k 0)) v) : Ty (rowL (par.take (k + 1))) (al ++ [v]) := by
  have e : par.getD k 0 = par[k] := by simp [hk]
  rw [e] at hv
  rw [List.take_add_one, List.getElem?_eq_getElem hk, Option.toList_some]
  unfold rowL
  rw [List.map_append]
  exact h.app ⟨hv, trivial⟩
theorem okV_mask {t v : Int} (ht : 1 ≤ t ∧ t ≤ 4) (hv : I64 v) : okV (l5 t) (if t = 3 then Go.bits .and .i64 v 1 else v) := by
  by_cases e : t = 3
  · rw [if_pos e]
    have := mask_le v 1 (by decide)
    rw [show ((1 : Nat) : Int) = 1 from rfl] at this
    refine ⟨?_, fun _ => by omega⟩
    unfold I64
    omega
  · rw [if_neg e]
    refine ⟨hv, fun h => ?_⟩
    have h4 : t = 1 ∨ t = 2 ∨ t = 4 := by omega
    rcases h4 with e4 | e4 | e4 <;> rw [e4] at h <;> exact absurd h (by decide)
end Go.Proofs.YtndbhmmejjhcfaaGreatDoor
namespace Go.Proofs.YtndbhmmejjhcfaaGreatDoor
open Go Go.Sx Go.Vp
theorem Glob.ext {w w' : World} (hx : Ext no w w') (h : Glob w) : Glob w' := ⟨Nat.le_trans h.sz hx.size, fun x hm o v hv => hx.cell (h.cell x hm o v hv) fun h => h⟩
attribute [local irreducible] jn lv ld st nw asI asB asP asS asY asM asF asA asT lp rn ru rq cl dw dr bnd bn2 nz nn hd hr so eqW
attribute [local irreducible] callOk clz clm
theorem hostile_k {W : World} (hG : Glob W) (hP : PlainAt W) (hN : Nib W) {p : Option Addr} {bs : List Nat} {n c : Nat} (hb : Reads W p (bv bs)) (hbn : bs.length = n) (hbc : n ≤ c) (hbp : p = none → bs = [])
    {a b : Int} {q rp : Option Addr} {m c' rn rc : Nat} {zs : List Int} (hz : Reads W q (iw zs)) (hzn : zs.length = m) (hz6 : ∀ z ∈ zs, I64 z) {rl : List (Int × Bool)} (hr : Reads W rp (rl.flatMap rpC)) (hrn : rl.length = rn) (hrc : rn ≤ rc) (hri : ∀ y ∈ rl, I64 y.1) :
    cl Tryz.prog 3 #[.slice p n c, .agg #[i6 a, .slice q m c', i6 b, .slice rp rn rc]] W fun v w' => v = .bool true ∧ Ext no W w' := by
  apply F3_calls
  unfold F3
  refine (Hs.start W).nw fun r1 w1 h1 => ?_
  refine cl_mono (means_of (hG.ext h1.ext)) ?_
  rintro _ w2 ⟨rfl, hx2⟩
  replace h1 := h1.to hx2
  refine sp ?_
  refine decode_k (hN.ext h1.ext) (h1.old hb) hbn hbc hbp (fun e w3 he hx3 => ?_) fun I w3 hx3 hI hD hok => ?_
  · replace h := h1.to hx3
    clear h1
    repeat first|refine sp ?_|refine cond_t rfl ?_|refine cond_f rfl ?_|refine asT_i rfl rfl ?_|refine asA_i rfl rfl ?_|refine h.l rfl ?_|refine h.hd rfl ?_|(refine h.sb rfl rfl ?_;clear h;intro _ h)|(refine h.dw ?_;clear h;intro _ h)
    refine h.nw ?_
    clear h
    intro r17 w4 h
    repeat first|refine sp ?_|refine cond_t rfl ?_|refine cond_f rfl ?_|refine asT_i rfl rfl ?_|refine asA_i rfl rfl ?_|refine h.l rfl ?_|refine h.hd rfl ?_|(refine h.sb rfl rfl ?_;clear h;intro _ h)|(refine h.dw ?_;clear h;intro _ h)
    refine jn_of (fun s w' => s = [.bool true] ∧ Hs W w' [bk 31 r17 [.slice none 0 0, .slice none 0 0], bk 26 r1 [i6 a, .slice q m c', i6 b, .slice rp rn rc]]) ?_ fun J hJ => cond_f rfl (hJ _ _ ⟨by rw [show (e != 0) = true by simpa using he], h⟩)
    clear h
    rintro _ w5 ⟨rfl, h⟩
    refine sp (cond_t rfl (jn_mk (cond_t rfl ?_)))
    repeat first|refine sp ?_|refine cond_t rfl ?_|refine cond_f rfl ?_|refine asT_i rfl rfl ?_|refine asA_i rfl rfl ?_|refine h.l rfl ?_|refine h.hd rfl ?_|(refine h.sb rfl rfl ?_;clear h;intro _ h)|(refine h.dw ?_;clear h;intro _ h)
    exact ⟨rfl, h.ext⟩
  have h := h1.to hx3
  have hx0 := h.ext
  have b1 : w3.cell? (Addr.add ⟨r1, 0, none⟩ 1) = some (.slice q m c') := h.cel rfl
  have b2 : w3.cell? (Addr.add ⟨r1, 0, none⟩ 2) = some (i6 b) := h.cel rfl
  have b3 : w3.cell? (Addr.add ⟨r1, 0, none⟩ 3) = some (.slice rp rn rc) := h.cel rfl
  clear h h1
  have hP := hP.ext hx0
  have hN := hN.ext hx0
  have hz := hz.no hx0
  have hr := hr.no hx0
  have hO := okB_ok hok
  have hv : Vfy w3 I (VP I) := fun u hu hIu K hK => verify_k rep (hP.ext hu) (hN.ext hu) hIu hD hK
  have h := Hs.start w3
  repeat first|refine sp ?_|refine cond_t rfl ?_|refine cond_f rfl ?_|refine asT_i rfl rfl ?_|refine asA_i rfl rfl ?_|refine h.l rfl ?_|refine h.hd rfl ?_|(refine h.sb rfl rfl ?_;clear h;intro _ h)|(refine h.dw ?_;clear h;intro _ h)
  refine h.nw ?_
  clear h
  intro r17 w4 h
  repeat first|refine sp ?_|refine cond_t rfl ?_|refine cond_f rfl ?_|refine asT_i rfl rfl ?_|refine asA_i rfl rfl ?_|refine h.l rfl ?_|refine h.hd rfl ?_|(refine h.sb rfl rfl ?_;clear h;intro _ h)|(refine h.dw ?_;clear h;intro _ h)
  refine jn_of (fun s w' => s = [.bool false] ∧ Hs w3 w' [bk 31 r17 [.slice I.gp I.gl.length I.gc, .slice I.fp I.fs.length I.fc]]) ?_ fun J hJ => cond_f rfl (hJ _ _ ⟨rfl, h⟩)
  clear h
  rintro _ w5 ⟨rfl, h⟩
  refine sp (cond_f rfl ?_)
  repeat first|refine sp ?_|refine cond_t rfl ?_|refine cond_f rfl ?_|refine asT_i rfl rfl ?_|refine asA_i rfl rfl ?_|refine h.l rfl ?_|refine h.hd rfl ?_|(refine h.sb rfl rfl ?_;clear h;intro _ h)|(refine h.dw ?_;clear h;intro _ h)
  refine new_k (hI.ext h.ext) hO.sized (hv.ext h.ext) (fun _ w6 hx6 => ?_) fun hVP M w6 hx6 hM him hSM hfp => ?_
  · replace h := h.to hx6
    repeat first|refine sp ?_|refine cond_t rfl ?_|refine cond_f rfl ?_|refine asT_i rfl rfl ?_|refine asA_i rfl rfl ?_|refine h.l rfl ?_|refine h.hd rfl ?_|(refine h.sb rfl rfl ?_;clear h;intro _ h)|(refine h.dw ?_;clear h;intro _ h)
    exact ⟨rfl, hx0.trans h.ext⟩
  replace h := h.to hx6
  repeat first|refine sp ?_|refine cond_t rfl ?_|refine cond_f rfl ?_|refine asT_i rfl rfl ?_|refine asA_i rfl rfl ?_|refine h.l rfl ?_|refine h.hd rfl ?_|(refine h.sb rfl rfl ?_;clear h;intro _ h)|(refine h.dw ?_;clear h;intro _ h)
  have hgl : M.I.gl = I.gl := congrArg Im.gl him
  refine start_k hM (by have := hSM.gl; omega) (fun g hg => by have := hSM.z g hg; omega) (by rw [hgl]; exact hO.vals hD) fun p7 c7 SL w7 hx7 hSt hSk => ?_
  rw [him] at hSk
  replace h := h.to hx7
  obtain ⟨T, hT⟩ : ∃ T : Nat → Nat → Option Lt, ∀ k g, I.im.fn[k]? = some g → Typing I.im g (T k) := by
    have key : ∀ k : Nat, ∃ t : Nat → Option Lt, ∀ g, I.im.fn[k]? = some g → Typing I.im g t := fun k => by
      cases hk : I.fs[k]? with
      | none => exact ⟨fun _ => none, fun g hg => by simp [Is.im, hk] at hg⟩
      | some y =>
        obtain ⟨t, ht⟩ := hVP.2.2 y (List.mem_of_getElem? hk)
        refine ⟨t, fun g hg => ?_⟩
        simp [Is.im, hk] at hg
        rw [← hg]; exact ht
    exact ⟨fun k => Classical.choose (key k), fun k => Classical.choose_spec (key k)⟩
  have hV := hO.verified hD hT
  have hfs := hO.fnn
  refine sp (sp ?_)
  refine lp_mk (fun y : (Option Addr × Nat × List Sv) × Nat => [.slice y.1.1 y.1.2.2.length y.1.2.1, .int .i64 (y.2 : Int)]) (fun n y w' => n = I.fs.length - y.2 ∧ y.2 ≤ I.fs.length ∧ StAt w' y.1.1 y.1.2.2 ∧ StOK I.im y.1.2.2 ∧ Hs w3 w' [bk 31 r17 [.slice I.gp I.gl.length I.gc, .slice I.fp I.fs.length I.fc]]) I.fs.length ((p7, c7, SL), 0) rfl ⟨rfl, Nat.zero_le _, hSt, hSk, h⟩ ?_
  clear h hSt hSk
  rintro _ ⟨⟨p8, c8, S8⟩, i⟩ w8 ⟨rfl, hi, hSt, hSk, h⟩ J hJ
  dsimp only at hi hSt hSk h ⊢
  repeat first|refine sp ?_|refine cond_t rfl ?_|refine cond_f rfl ?_|refine asT_i rfl rfl ?_|refine asA_i rfl rfl ?_|refine h.l rfl ?_|refine h.hd rfl ?_|(refine h.sb rfl rfl ?_;clear h;intro _ h)|(refine h.dw ?_;clear h;intro _ h)
  refine cond_split (fun hc => ?_) fun _ => ⟨rfl, hx0.trans h.ext⟩
  have hil : i < I.fs.length := by have := of_decide_eq_true hc; omega
  obtain ⟨x, hx⟩ : ∃ x, I.fs[i]? = some x := ⟨_, List.getElem?_eq_getElem hil⟩
  have hxm := List.mem_of_getElem? hx
  have hF := hO.fn x hxm
  have hpar := hF.par
  have hmem : ∀ t ∈ x.f.par, t ∈ x.f.loc := fun t ht => by
    rw [hF.pre] at ht
    exact List.mem_of_mem_take ht
  have h8 := h
  have d0 : w8.cell? ⟨r17, 0, none⟩ = some (.slice I.gp I.gl.length I.gc) := h8.cel rfl
  have d1 : w8.cell? (Addr.add ⟨r17, 0, none⟩ 1) = some (.slice I.fp I.fs.length I.fc) := h8.cel rfl
  have x8 := h8.ext
  have b1 := x8.cell b1 fun h => h
  have b2 := x8.cell b2 fun h => h
  have b3 := x8.cell b3 fun h => h
  have hI := hI.ext x8
  have hz := hz.no x8
  have hr := hr.no x8
  clear h
  have h := Hs.start w8
  refine sp ?_
  refine lp_mk (fun y : Option Addr × Nat × List Int => [.slice y.1 y.2.2.length y.2.1, .int .i64 (y.2.2.length : Int)]) (fun n y w' => n = x.f.par.length - y.2.2.length ∧ y.2.2.length ≤ x.f.par.length ∧ Ty (rowL (x.f.par.take y.2.2.length)) y.2.2 ∧
    Hs w8 w' [⟨3, 1, y.1, y.2.1, y.2.2.length, iw y.2.2⟩]) x.f.par.length (none, 0, []) rfl ⟨rfl, Nat.zero_le _, trivial, h.push (r := ⟨3, 1, none, 0, 0, []⟩) (Ext.refl _ _) (RowN.nil _ _ _ _)⟩ ?_
  clear h
  rintro _ ⟨pa, ca, al⟩ w9 ⟨rfl, hal, hty, h⟩ J2 hJ2
  dsimp only at hal hty h ⊢
  repeat first|refine sp ?_|refine cond_t rfl ?_|refine cond_f rfl ?_|refine asT_i rfl rfl ?_|refine asA_i rfl rfl ?_|refine h.l rfl ?_|refine h.hd rfl ?_|(refine h.sb rfl rfl ?_;clear h;intro _ h)|(refine h.dw ?_;clear h;intro _ h)|refine ld_mk (h.oc d1) ?_
  refine Reads.atN fsC_len hI.fn rfl hx (by decide) fun ad _ hcc => ?_
  have e1 : w8.cell? (Addr.add (Addr.add ad (i * 5)) 1) = some (.slice x.pp x.f.par.length x.pc) := hcc 1 (by decide)
  clear hcc
  rw [Int.toNat_natCast]
  repeat first|refine sp ?_|refine cond_t rfl ?_|refine cond_f rfl ?_|refine asT_i rfl rfl ?_|refine asA_i rfl rfl ?_|refine h.l rfl ?_|refine h.hd rfl ?_|(refine h.sb rfl rfl ?_;clear h;intro _ h)|(refine h.dw ?_;clear h;intro _ h)|refine ld_mk (h.oc e1) ?_
  refine cond_split (fun hc2 => ?_) fun hc2 => ?_
  · have hkl : al.length < x.f.par.length := by have := of_decide_eq_true hc2; omega
    refine sp (jn_of (fun s w' => ∃ v, I64 v ∧ s = [i6 v] ∧ w9 = w') ?_ fun J3 hJ3 => ?_)
    rotate_left
    · refine ld_mk (h.oc b1) (sp (cond_split (fun hc3 => ?_) fun _ => hJ3 _ _ ⟨0, I64.z, rfl, rfl⟩))
      have hc3 := of_decide_eq_true hc3
      refine ld_mk (h.oc b1) (sp (Reads.ati (h.old hz) hzn (by omega) (sp (sp (hJ3 _ _ ⟨_, ?_, rfl, rfl⟩)))))
      have hg : zs.getD al.length 0 ∈ zs := by
        have : zs.getD al.length 0 = zs[al.length]'(by omega) := by simp [show al.length < zs.length by omega]
        rw [this]; exact List.getElem_mem _
      exact hz6 _ hg
    rintro _ _ ⟨v, hv6, rfl, rfl⟩
    have ht := hF.lt
    refine sp (jn_of (fun s w' => ∃ v, okV (l5 (x.f.par.getD al.length 0)) v ∧ s = [i6 v] ∧ w9 = w') ?_ fun J3 hJ3 => ?_)
    rotate_left
    · repeat first|refine sp ?_|refine cond_t rfl ?_|refine cond_f rfl ?_|refine asT_i rfl rfl ?_|refine asA_i rfl rfl ?_|refine h.l rfl ?_|refine h.hd rfl ?_|(refine h.sb rfl rfl ?_;clear h;intro _ h)|(refine h.dw ?_;clear h;intro _ h)|refine ld_mk (h.oc d1) ?_
      refine Reads.atN fsC_len hI.fn rfl hx (by decide) fun ad _ hcc => ?_
      have e1 : w8.cell? (Addr.add (Addr.add ad (i * 5)) 1) = some (.slice x.pp x.f.par.length x.pc) := hcc 1 (by decide)
      clear hcc
      rw [Int.toNat_natCast]
      repeat first|refine sp ?_|refine cond_t rfl ?_|refine cond_f rfl ?_|refine asT_i rfl rfl ?_|refine asA_i rfl rfl ?_|refine h.l rfl ?_|refine h.hd rfl ?_|(refine h.sb rfl rfl ?_;clear h;intro _ h)|(refine h.dw ?_;clear h;intro _ h)|refine ld_mk (h.oc e1) ?_
      refine Reads.ati (h.old (hI.each x hxm).par) rfl hkl (sp ?_)
      have hgt : 1 ≤ x.f.par.getD al.length 0 ∧ x.f.par.getD al.length 0 ≤ 4 := by
        have : x.f.par.getD al.length 0 = x.f.par[al.length] := by simp [hkl]
        rw [this]
        exact ht _ (hmem _ (List.getElem_mem hkl))
      have hok := okV_mask hgt hv6
      refine cond_op (fun e => sp (hJ3 _ _ ⟨_, ?_, rfl, rfl⟩)) fun e => hJ3 _ _ ⟨_, ?_, rfl, rfl⟩
      · rw [if_pos e] at hok; exact hok
      · rw [if_neg e] at hok; exact hok
    rintro _ _ ⟨v', hv', rfl, rfl⟩
    refine sp (h.nw ?_)
    clear h
    intro r w10 h
    refine h.appT sl_int rfl (by simp [one]) (by omega) (by simp only [maxLen]; omega) fun g c2 w11 h2 => sp ?_
    rw [natS _ (by omega)]
    have ei : iw al ++ [i6 v'] = iw (al ++ [v']) := by simp [iw, iv]
    have el : (al ++ [v']).length = al.length + 1 := by simp
    rw [ei] at h2
    have fin := hJ2 (x.f.par.length - (al ++ [v']).length) (some ⟨g, 0, none⟩, c2, al ++ [v']) w11 (by dsimp only; rw [el]; omega) ⟨rfl, by dsimp only; rw [el]; omega, by dsimp only; rw [el]; exact ty_snoc hkl hty hv', by dsimp only; rw [el]; exact h2⟩
    dsimp only at fin
    rw [el] at fin
    exact sp fin
  · have hkl : al.length = x.f.par.length := by have := of_decide_eq_false hc2; omega
    rw [hkl, List.take_length] at hty
    have hmask := mask_le b 4095 (by decide)
    rw [show ((4095 : Nat) : Int) = 4095 from rfl] at hmask
    repeat first|refine sp ?_|refine cond_t rfl ?_|refine cond_f rfl ?_|refine asT_i rfl rfl ?_|refine asA_i rfl rfl ?_|refine h.l rfl ?_|refine h.hd rfl ?_|(refine h.sb rfl rfl ?_;clear h;intro _ h)|(refine h.dw ?_;clear h;intro _ h)|refine ld_mk (h.oc d0) ?_|refine ld_mk (h.oc d1) ?_|refine ld_mk (h.oc b2) ?_|refine ld_mk (h.oc b3) ?_
    refine exec_k (hI.ext h.ext) hO.sized (hv.ext (x8.trans h.ext)) hVP hV (hSt.ext h.ext) hSk hx (h.rd (r := ⟨3, 1, pa, ca, al.length, iw al⟩) List.mem_cons_self) rfl hty hmask.1 hmask.2 (hr.no h.ext) hrn hrc hri fun tr va f2 p2 c2 S2 ap an ac w10 t0 t1 g0 g1 hx10 hSt2 hSk2 => ?_
    have x10 : Ext no w8 w10 := h.ext.trans hx10
    have b2' := x10.cell b2 fun h => h
    clear h
    have h := Hs.start w10
    refine asT_i rfl rfl (asA_i rfl rfl (sp (sp (sp (sp (sp (sp ?_)))))))
    refine h.nw ?_
    clear h
    intro r45 w11 h
    repeat first|refine sp ?_|refine cond_t rfl ?_|refine cond_f rfl ?_|refine asT_i rfl rfl ?_|refine asA_i rfl rfl ?_|refine h.l rfl ?_|refine h.hd rfl ?_|(refine h.sb rfl rfl ?_;clear h;intro _ h)|(refine h.dw ?_;clear h;intro _ h)
    refine jn_of (fun s w' => s = [.bool false] ∧ Hs w10 w' [bk 45 r45 [i6 tr, i6 va, i6 f2, .slice p2 S2.length c2, .slice ap an ac]]) ?_ fun J3 hJ3 => ?_
    rotate_left
    · refine cond_f rfl ?_
      repeat first|refine sp ?_|refine cond_t rfl ?_|refine cond_f rfl ?_|refine asT_i rfl rfl ?_|refine asA_i rfl rfl ?_|refine h.l rfl ?_|refine h.hd rfl ?_|(refine h.sb rfl rfl ?_;clear h;intro _ h)|(refine h.dw ?_;clear h;intro _ h)
      refine cond_f (by simpa using t0) ?_
      repeat first|refine sp ?_|refine cond_t rfl ?_|refine cond_f rfl ?_|refine asT_i rfl rfl ?_|refine asA_i rfl rfl ?_|refine h.l rfl ?_|refine h.hd rfl ?_|(refine h.sb rfl rfl ?_;clear h;intro _ h)|(refine h.dw ?_;clear h;intro _ h)
      refine cond_f (by simpa using t1) ?_
      repeat first|refine sp ?_|refine cond_t rfl ?_|refine cond_f rfl ?_|refine asT_i rfl rfl ?_|refine asA_i rfl rfl ?_|refine h.l rfl ?_|refine h.hd rfl ?_|(refine h.sb rfl rfl ?_;clear h;intro _ h)|(refine h.dw ?_;clear h;intro _ h)
      refine cond_f (by simpa using g0) ?_
      repeat first|refine sp ?_|refine cond_t rfl ?_|refine cond_f rfl ?_|refine asT_i rfl rfl ?_|refine asA_i rfl rfl ?_|refine h.l rfl ?_|refine h.hd rfl ?_|(refine h.sb rfl rfl ?_;clear h;intro _ h)|(refine h.dw ?_;clear h;intro _ h)|refine ld_mk (h.oc b2') ?_
      exact hJ3 _ _ ⟨by rw [show decide (f2 > Go.bits .and .i64 b 4095) = false by simp; omega], h⟩
    clear h
    rintro _ w12 ⟨rfl, h⟩
    refine sp (cond_f rfl ?_)
    repeat first|refine sp ?_|refine cond_t rfl ?_|refine cond_f rfl ?_|refine asT_i rfl rfl ?_|refine asA_i rfl rfl ?_|refine h.l rfl ?_|refine h.hd rfl ?_|(refine h.sb rfl rfl ?_;clear h;intro _ h)|(refine h.dw ?_;clear h;intro _ h)
    rw [natS i (by omega)]
    exact hJ (I.fs.length - (i + 1)) ((p2, c2, S2), i + 1) w12 (by dsimp only; omega) ⟨rfl, hil, hSt2.ext h.ext, hSk2, h8.to (x10.trans h.ext)⟩
end Go.Proofs.YtndbhmmejjhcfaaGreatDoor
namespace Go.Proofs.YtndbhmmejjhcfaaGreatDoor
open Go Go.Sx Go.Cx Go.Vp
def laidL : List (String × DataW Unit) := [("math/bits.deBruijn32tab", Rows.laid_math_bits_deBruijn32tab), ("math/bits.deBruijn64tab", Rows.laid_math_bits_deBruijn64tab), ("internal/strconv.uint64pow10", Rows.laid_internal_strconv_uint64pow10), ("unicode/utf8.acceptRanges", Rows.laid_unicode_utf8_acceptRanges), ("strconv.ErrRange", Rows.laid_strconv_ErrRange), ("strconv.ErrSyntax", Rows.laid_strconv_ErrSyntax), ("tiltyard/wire.nibbles", Rows.laid_tiltyard_wire_nibbles), ("tiltyard/printer.types", Rows.laid_tiltyard_printer_types), ("tiltyard/printer.signs", Rows.laid_tiltyard_printer_signs), ("tiltyard/verify.plain", Rows.laid_tiltyard_verify_plain), ("unicode/utf8.first", Rows.laid_unicode_utf8_first)]
theorem door_met (os : Os) (args : Array Value) : laidMetH Tryz.prog laidL ((World.laidAll Tryz.prog os laidL).forCall (fun _ _ => 0) ⟨#[], args, []⟩).memory := by
  rw [MakeChecks.laidMetH_plain _ _ _ (by kernel_rfl)]
  exact laidMet_laidAll _ (by kernel_rfl) (by kernel_rfl)
def gcs (x : Nat × ARow) : List Value := x.2.cells.map fun v => v.g ⟨id, id⟩
section
variable {W : World}
theorem lie_of {nm : String} {d : DataW Unit} {x : Nat × ARow} {t : TypeId} (h : Lib.VarReads Tryz.prog W nm d) (hg : Tryz.prog.globalNamed nm = some x.1) (ht : (Tryz.prog.globals[x.1]?).map (·.type) = some t) (hf : flatD Tryz.prog 4 t d = some (gcs x)) (o : Nat) (v : AV) (hv : x.2.cells[o]? = some v) : W.cell? ⟨x.1, o, none⟩ = some (v.g ⟨id, id⟩) := by
  rw [cells_of_var h hg ht hf o]
  simp [gcs, hv]
theorem cell_lt {b o : Nat} {v : Value} (h : W.cell? ⟨b, o, none⟩ = some v) : b < W.heap.size := by
  unfold World.cell? at h
  split at h
  · rename_i e; exact blk_lt e
  · cases h
theorem of_laid (h : laidMetH Tryz.prog laidL W) : Glob W ∧ PlainAt W ∧ Nib W := by
  rw [MakeChecks.laidMetH_plain _ _ _ (by kernel_rfl)] at h
  have r0 : Lib.VarReads Tryz.prog W "tiltyard/wire.nibbles" _ := Lib.laidMet.reads h (by unfold laidL; simp only [List.mem_cons]; exact .inr (.inr (.inr (.inr (.inr (.inr (.inl rfl)))))))
  have r2 : Lib.VarReads Tryz.prog W "tiltyard/printer.types" _ := Lib.laidMet.reads h (by unfold laidL; simp only [List.mem_cons]; exact .inr (.inr (.inr (.inr (.inr (.inr (.inr (.inl rfl))))))))
  have r10 : Lib.VarReads Tryz.prog W "tiltyard/printer.signs" _ := Lib.laidMet.reads h (by unfold laidL; simp only [List.mem_cons]; exact .inr (.inr (.inr (.inr (.inr (.inr (.inr (.inr (.inl rfl)))))))))
  have r1 : Lib.VarReads Tryz.prog W "tiltyard/verify.plain" _ := Lib.laidMet.reads h (by unfold laidL; simp only [List.mem_cons]; exact .inr (.inr (.inr (.inr (.inr (.inr (.inr (.inr (.inr (.inl rfl))))))))))
  have r13 : Lib.VarReads Tryz.prog W "math/bits.deBruijn64tab" _ := Lib.laidMet.reads h (by unfold laidL; simp only [List.mem_cons]; exact .inr (.inl rfl))
  have l0 := lie_of (x := gr0) (t := 249) r0 (by kernel_rfl) (by kernel_rfl) (by kernel_rfl)
  have l1 := lie_of (x := gr1) (t := 306) r1 (by kernel_rfl) (by kernel_rfl) (by kernel_rfl)
  have l2 := lie_of (x := gr2) (t := 336) r2 (by kernel_rfl) (by kernel_rfl) (by kernel_rfl)
  have l10 := lie_of (x := gr10) (t := 381) r10 (by kernel_rfl) (by kernel_rfl) (by kernel_rfl)
  have k13 : ∃ v, W.cell? ⟨13, 0, none⟩ = some v := by
    have h0 := cells_of_var (g := 13) (t := 399) (n := 4) (vs := (flatD Tryz.prog 4 399 (Rows.laid_math_bits_deBruijn64tab (H := Unit))).getD []) r13 (by kernel_rfl) (by kernel_rfl) (by kernel_rfl) 0
    have h1 : ((flatD Tryz.prog 4 399 (Rows.laid_math_bits_deBruijn64tab (H := Unit))).getD [])[0]? = some (.int .u8 0) := by kernel_rfl
    exact ⟨_, h0.trans h1⟩
  refine ⟨⟨?_, fun x hm => ?_⟩, fun k hk => ?_, fun i hi => ?_⟩
  · obtain ⟨v, hv⟩ := k13
    exact cell_lt hv
  · simp only [glL, List.mem_cons, List.not_mem_nil, or_false] at hm
    rcases hm with rfl | rfl | rfl | rfl
    · exact l0
    · exact l1
    · exact l2
    · exact l10
  · have hall : ∀ k ∈ List.range 34, plains[k * 2]? = some (plainV (k : Int)).1 ∧ plains[k * 2 + 1]? = some (plainV (k : Int)).2 := by decide +kernel
    obtain ⟨g1, g2⟩ := hall k (List.mem_range.2 (by omega))
    have e1 : gr1.2.cells[k * 2]? = some (.lit (.string (B (plainV (k : Int)).1))) := by
      show (strL plains)[k * 2]? = _
      unfold strL
      rw [List.getElem?_map, g1]; rfl
    have e2 : gr1.2.cells[k * 2 + 1]? = some (.lit (.string (B (plainV (k : Int)).2))) := by
      show (strL plains)[k * 2 + 1]? = _
      unfold strL
      rw [List.getElem?_map, g2]; rfl
    have h1 := l1 _ _ e1
    have h2 := l1 _ _ e2
    rw [add_mk, add_mk, Nat.zero_add]
    exact ⟨h1, h2⟩
  · have hl : i < nibs.length := hi
    exact ⟨nibs[i], l0 i (.lit (.int .u32 nibs[i])) (by
      show (nibs.map fun x => AV.lit (.int .u32 x))[i]? = _
      rw [List.getElem?_map, List.getElem?_eq_getElem hl]; rfl)⟩
end
end Go.Proofs.YtndbhmmejjhcfaaGreatDoor
namespace Go.Proofs.YtndbhmmejjhcfaaGreatDoor
open Go Go.Sx Go.Vp
theorem topHostile_law (W : World) (hL : Glob W ∧ PlainAt W ∧ Nib W) (a : Option Addr) (len cap : Nat) (zs : List Int) (R : Reads W a (iv .u8 zs)) (L : zs.length = len) (F : ∀ n ∈ zs, (Lit.int .u8 n).wf = true) (_ : len * 1 ≤ 140737488351232) (C : len ≤ cap)
    (fa fb : Int) (q rp : Option Addr) (m c rn rc : Nat) (ys : List Int) (ch : List (List Value)) (R1 : Reads W q (iv .i64 ys)) (L1 : ys.length = m) (F1 : ∀ n ∈ ys, (Lit.int .i64 n).wf = true) (RR : Reads W rp ch.flatten) (RL : ch.length = rn) (RF : ∀ c ∈ ch, FitsAll [.int .i64, .bool] c) (RC : rn ≤ rc) :
    cl Tryz.prog 3 #[.slice a len cap, .agg #[.int .i64 fa, .slice q m c, .int .i64 fb, .slice rp rn rc]] W fun v w' => v = .bool true ∧ Ext no W w' := by
  obtain ⟨bs, hb, hbl, _⟩ := bytes_of F
  obtain ⟨rl, hr, hrl, hri⟩ := fits_rp RF
  rw [hb] at R
  rw [hr] at RR
  refine hostile_k hL.1 hL.2.1 hL.2.2 R (by omega) C (fun e => ?_) (m := m) R1 L1 (fun z hz => ⟨(i64_of (F1 z hz)).1, (i64_of (F1 z hz)).2⟩) RR (by omega) RC hri
  subst e
  rcases R with h | ⟨b, o, h, _⟩
  · have := congrArg List.length h
    simp [bv] at this
    exact this
  · cases h
end Go.Proofs.YtndbhmmejjhcfaaGreatDoor
