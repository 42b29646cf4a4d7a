/- Own texts of this claim, joined: walks and plain laws. Conditions: those of each theorem, on its arguments. -/
import Derived.Test.YtndbhmmejjhcfaaGreatDoorTh5
import Derived.Test.YtndbhmmejjhcfaaGreatDoorProg
import Derived.Test.YtndbhmmejjhcfaaGreatDoorTh4
import Derived.KernelRfl
import Derived.Laws.Bits64
import Derived.Lib.AppendZeros
namespace Go.Proofs.YtndbhmmejjhcfaaGreatDoor
open Go Go.Sx Go.Vp
attribute [local irreducible] jn lv ld st nw asI asB asP asS asY asM asF asA asT lp rn ru rq cl dw dr bnd bn2 nz nn hd hr so eqW
structure Ctx (w0 : World) (M : Ms) (fb fo : Nat) : Prop where
  m : MsAt w0 M
  f : M.I.fp = some ⟨fb, fo, none⟩
  n : M.I.fs.length ≤ 64
  l : ∀ x ∈ M.I.fs, x.f.loc.length ≤ 1000 ∧ x.f.par.length ≤ 1000 ∧ x.f.code.length ≤ 1000000
section
variable {w0 w : World} {M : Ms} {fb fo : Nat} {Rs : List Rw}
theorem Ctx.fc (hC : Ctx w0 M fb fo) (h : Hs w0 w Rs) {k : Nat} {x : Fs} (hx : M.I.fs[k]? = some x) {j : Nat} {v : Value} (hv : (fsC x)[j]? = some v) : w.cell? (Addr.add ⟨fb, fo + k * 5, none⟩ j) = some v :=
  (hC.m.I.ext h.ext).fc hC.f hx hv
theorem enter_k (hC : Ctx w0 M fb fo) {q : Nat} {c1 c2 c5 c6 c7 c8 c9 : Value} {fp sa : Option Addr} {n fc sc : Nat} {xs : List Value} {sk : List Int} {ar or : Rw}
    (h : Hs w0 w (⟨150, 10, some ⟨q, 0, none⟩, 1, 1, [.pointer (some ⟨M.mb, 0, none⟩), c1, c2, .slice fp n fc, .slice sa sk.length sc, c5, c6, c7, c8, c9]⟩ :: ⟨3, 1, sa, sc, sk.length, iw sk⟩ :: ⟨217, 4, fp, fc, n, xs⟩ :: ar :: or :: Rs))
    {k : Nat} {x : Fs} (hx : M.I.fs[k]? = some x) (hr : n ≤ 64) {p : Option Addr} {m c : Nat} {al : List Int} (ha : Reads w p (iw al)) (hn : al.length = m) (hal : m ≤ x.f.loc.length) {K : Value → World → Prop}
    (hK : ∀ (y : Fr) g fc w', y.fn = k → y.at' = 0 → y.l = al ++ List.replicate (x.f.loc.length - m) 0 → y.base = sk.length →
      Hs w0 w' (⟨150, 10, some ⟨q, 0, none⟩, 1, 1, [.pointer (some ⟨M.mb, 0, none⟩), c1, c2, .slice (some ⟨g, 0, none⟩) (n + 1) fc, .slice sa sk.length sc, c5, c6, c7, c8, c9]⟩ :: ⟨3, 1, sa, sc, sk.length, iw sk⟩ :: ⟨217, 4, some ⟨g, 0, none⟩, fc, n + 1, xs ++ frC fb fo y⟩ :: ar :: or :: ⟨3, 1, y.lp, y.lc, y.l.length, iw y.l⟩ :: Rs) → K (.tuple #[]) w') :
    cl Tryz.prog 60 #[.pointer (some ⟨q, 0, none⟩), i6 (k : Int), .slice p m c] w K := by
  have hkl : k < M.I.fs.length := (List.getElem?_eq_some_iff.1 hx).1
  have hM := hC.m
  have hfn := hC.n
  have hl := (hC.l x (List.mem_of_getElem? hx)).1
  apply F60_calls
  unfold F60
  repeat first|refine sp ?_|refine cond_t rfl ?_|refine cond_f rfl ?_|refine asT_i rfl rfl ?_|refine asA_i rfl rfl ?_|refine h.l rfl ?_|refine h.hd rfl ?_|(refine h.sb rfl rfl ?_;clear h;intro _ h)|(refine h.dw ?_;clear h;intro _ h)|refine ld_mk (h.oc hM.g) ?_|refine ld_mk (h.oc hM.f) ?_
  rw [hC.f]
  refine dr_i (bnd_mk (by omega) (by omega) ?_)
  rw [Int.toNat_natCast, add_mk]
  refine ld_mk (hC.fc h hx rfl) (sp (h.mkN slt_int (by omega) (by simp only [maxLen]; omega) ?_))
  clear h
  intro lq w1 hx1 h
  refine sp (h.copy slt_int (ha.no hx1) (by simpa [iv] using hn) hal iv_one ?_)
  clear h
  intro w2 h
  repeat first|refine sp ?_|refine cond_t rfl ?_|refine cond_f rfl ?_|refine asT_i rfl rfl ?_|refine asA_i rfl rfl ?_|refine h.l rfl ?_|refine h.hd rfl ?_|(refine h.sb rfl rfl ?_;clear h;intro _ h)|(refine h.dw ?_;clear h;intro _ h)|(refine h.nw ?_;clear h;intro _ _ h)
  refine h.appT sl_fr rfl (by simp [one]) (by omega) (by simp only [maxLen]; omega) ?_
  clear h
  intro p2 c2 w4 h
  repeat first|refine sp ?_|refine cond_t rfl ?_|refine cond_f rfl ?_|refine asT_i rfl rfl ?_|refine asA_i rfl rfl ?_|refine h.l rfl ?_|refine h.hd rfl ?_|(refine h.sb rfl rfl ?_;clear h;intro _ h)|(refine h.dw ?_;clear h;intro _ h)
  have e1 : iw al ++ List.drop m (List.replicate x.f.loc.length (i6 0)) = iw (al ++ List.replicate (x.f.loc.length - m) 0) := by simp [iv]
  have e2 : (al ++ List.replicate (x.f.loc.length - m) 0).length = x.f.loc.length := by simp; omega
  refine hK ⟨k, 0, some ⟨lq, 0, none⟩, x.f.loc.length, al ++ List.replicate (x.f.loc.length - m) 0, sk.length⟩ p2 c2 _ rfl rfl rfl rfl ?_
  rw [e1] at h
  clear e1 hK
  generalize al ++ List.replicate (x.f.loc.length - m) 0 = ls at *
  rw [← e2] at h ⊢
  exact h.perm (List.perm_middle (l₁ := [_, _, _, _, _]) (l₂ := Rs))
end
end Go.Proofs.YtndbhmmejjhcfaaGreatDoor
namespace Go.Proofs.YtndbhmmejjhcfaaGreatDoor
open Go Go.Sx
set_option maxRecDepth 100000
def h91 : Hint := (.s .d (.j [] (.s .d (.s .z .d)) .d))
set_option linter.unusedVariables false in
def F91 (Z : List PanicEntry → World → Prop) (r : Option Addr) (v : Int) (next : Int) (e : Int) (w : World) (Q : Value → World → Prop) : Prop :=
 (lv (0 : Int) fun y1 =>
(jn (fun s2 w3 => (dr r fun a7 => (st w3 (Addr.add a7 1) (.int .i64 next) fun w8 =>
(lv v fun y9 =>
(Q (.int .i64 y9) w8)))))
 (fun J4 =>
(cond (e != (0 : Int)) (rn Tryz.prog (Instr.makeInterface 32 (.int .i64 e)) w fun v5 w6 => (cond (isIface v5) (Z [{ v := v5, recovered := false }] w6) False)) (J4 [] w)))))
theorem F91_link (Z : List PanicEntry → World → Prop) (r : Option Addr) (v : Int) (next : Int) (e : Int) (w : World) (Q : Value → World → Prop) : fnEvZ Z Tryz.prog Tryz.f91 h91 [(.pointer r), (.int .i64 v), (.int .i64 next), (.int .i64 e)] w Q = F91 Z r v next e w Q := by kernel_rfl
theorem F91_calls {Z : List PanicEntry → World → Prop} {r : Option Addr} {v : Int} {next : Int} {e : Int} {w : World} {Q : Value → World → Prop} (hF_ : F91 Z r v next e w Q) : clz Z Tryz.prog 91 #[(.pointer r), (.int .i64 v), (.int .i64 next), (.int .i64 e)] w Q :=
  calls_of_evZ (fn := Tryz.f91) Tryz.func91 h91 (args := [(.pointer r), (.int .i64 v), (.int .i64 next), (.int .i64 e)]) (by rw [F91_link]; exact hF_)
def h94 : Hint := (.s .d (.j [] (.s .d (.s .z .d)) .d))
set_option linter.unusedVariables false in
def F94 (Z : List PanicEntry → World → Prop) (r : Option Addr) (v : ByteArray) (next : Int) (e : Int) (w : World) (Q : Value → World → Prop) : Prop :=
(jn (fun s1 w2 => (dr r fun a6 => (st w2 (Addr.add a6 1) (.int .i64 next) fun w7 =>
(Q (.string v) w7))))
 (fun J3 =>
(cond (e != (0 : Int)) (rn Tryz.prog (Instr.makeInterface 32 (.int .i64 e)) w fun v4 w5 => (cond (isIface v4) (Z [{ v := v4, recovered := false }] w5) False)) (J3 [] w))))
theorem F94_link (Z : List PanicEntry → World → Prop) (r : Option Addr) (v : ByteArray) (next : Int) (e : Int) (w : World) (Q : Value → World → Prop) : fnEvZ Z Tryz.prog Tryz.f94 h94 [(.pointer r), (.string v), (.int .i64 next), (.int .i64 e)] w Q = F94 Z r v next e w Q := by kernel_rfl
theorem F94_calls {Z : List PanicEntry → World → Prop} {r : Option Addr} {v : ByteArray} {next : Int} {e : Int} {w : World} {Q : Value → World → Prop} (hF_ : F94 Z r v next e w Q) : clz Z Tryz.prog 94 #[(.pointer r), (.string v), (.int .i64 next), (.int .i64 e)] w Q :=
  calls_of_evZ (fn := Tryz.f94) Tryz.func94 h94 (args := [(.pointer r), (.string v), (.int .i64 next), (.int .i64 e)]) (by rw [F94_link]; exact hF_)
def h40 : Hint := (.s .d (.s (.o (ofL [0, 1, 2, 3, 4, 5, 6, 7, 8, 9, 10, 11, 12, 13, 14, 15] .nil)) (.s .z .d)))
set_option linter.unusedVariables false in
def F40 (Z : List PanicEntry → World → Prop) (r : Option Addr) (w : World) (Q : Value → World → Prop) : Prop :=
 (lv (0 : Int) fun y1 =>
(dw w fun w2 => (dr r fun a3 => (ld w2 a3 fun v4 => asS v4 fun p5 n6 c7 => (dr r fun a8 => (ld w2 (Addr.add a8 1) fun v9 => asI .i64 v9 fun x10 => (cl Tryz.prog 90 #[(.slice p5 n6 c7), (.int .i64 x10)] w2 fun v11 w12 => asT 3 v11 fun t13 => asI .i64 (t13 0) fun x14 => asI .i64 (t13 1) fun x15 => asI .i64 (t13 2) fun x16 => (lv x14 fun n_17 => (lv x15 fun next_18 => (lv x16 fun e_19 =>
(clz Z Tryz.prog 91 #[(.pointer r), (.int .i64 n_17), (.int .i64 next_18), (.int .i64 e_19)] w12 fun v20 w21 => asI .i64 v20 fun x22 => (lv x22 fun y23 =>
(Q (.int .i64 y23) w21)))))))))))))
theorem F40_link (Z : List PanicEntry → World → Prop) (r : Option Addr) (w : World) (Q : Value → World → Prop) : fnEvZ Z Tryz.prog Tryz.f40 h40 [(.pointer r)] w Q = F40 Z r w Q := by kernel_rfl
theorem F40_calls {Z : List PanicEntry → World → Prop} {r : Option Addr} {w : World} {Q : Value → World → Prop} (hF_ : F40 Z r w Q) : clz Z Tryz.prog 40 #[(.pointer r)] w Q :=
  calls_of_evZ (fn := Tryz.f40) Tryz.func40 h40 (args := [(.pointer r)]) (by rw [F40_link]; exact hF_)
def h41 : Hint := (.s .d (.s (.o (ofL [0, 1, 2, 3, 4, 5, 6, 7, 8, 9, 10, 11, 12, 13, 14, 15] .nil)) (.s .z .d)))
set_option linter.unusedVariables false in
def F41 (Z : List PanicEntry → World → Prop) (r : Option Addr) (w : World) (Q : Value → World → Prop) : Prop :=
 (lv (0 : Int) fun y1 =>
(dw w fun w2 => (dr r fun a3 => (ld w2 a3 fun v4 => asS v4 fun p5 n6 c7 => (dr r fun a8 => (ld w2 (Addr.add a8 1) fun v9 => asI .i64 v9 fun x10 => (cl Tryz.prog 92 #[(.slice p5 n6 c7), (.int .i64 x10)] w2 fun v11 w12 => asT 3 v11 fun t13 => asI .i64 (t13 0) fun x14 => asI .i64 (t13 1) fun x15 => asI .i64 (t13 2) fun x16 => (lv x14 fun n_17 => (lv x15 fun next_18 => (lv x16 fun e_19 =>
(clz Z Tryz.prog 91 #[(.pointer r), (.int .i64 n_17), (.int .i64 next_18), (.int .i64 e_19)] w12 fun v20 w21 => asI .i64 v20 fun x22 => (lv x22 fun y23 =>
(Q (.int .i64 y23) w21)))))))))))))
theorem F41_link (Z : List PanicEntry → World → Prop) (r : Option Addr) (w : World) (Q : Value → World → Prop) : fnEvZ Z Tryz.prog Tryz.f41 h41 [(.pointer r)] w Q = F41 Z r w Q := by kernel_rfl
theorem F41_calls {Z : List PanicEntry → World → Prop} {r : Option Addr} {w : World} {Q : Value → World → Prop} (hF_ : F41 Z r w Q) : clz Z Tryz.prog 41 #[(.pointer r)] w Q :=
  calls_of_evZ (fn := Tryz.f41) Tryz.func41 h41 (args := [(.pointer r)]) (by rw [F41_link]; exact hF_)
def h42 : Hint := (.s .d (.s (.o (ofL [0, 1, 2, 3, 4, 5, 6, 7, 8, 9, 10, 11, 12, 13, 14, 15] .nil)) (.s .z .d)))
set_option linter.unusedVariables false in
def F42 (Z : List PanicEntry → World → Prop) (r : Option Addr) (w : World) (Q : Value → World → Prop) : Prop :=
(dw w fun w1 => (dr r fun a2 => (ld w1 a2 fun v3 => asS v3 fun p4 n5 c6 => (dr r fun a7 => (ld w1 (Addr.add a7 1) fun v8 => asI .i64 v8 fun x9 => (cl Tryz.prog 93 #[(.slice p4 n5 c6), (.int .i64 x9)] w1 fun v10 w11 => asT 3 v10 fun t12 => asY (t12 0) fun s13 => asI .i64 (t12 1) fun x14 => asI .i64 (t12 2) fun x15 => (lv x14 fun next_16 => (lv x15 fun e_17 =>
(clz Z Tryz.prog 94 #[(.pointer r), (.string s13), (.int .i64 next_16), (.int .i64 e_17)] w11 fun v18 w19 => asY v18 fun s20 =>
(Q (.string s20) w19))))))))))
theorem F42_link (Z : List PanicEntry → World → Prop) (r : Option Addr) (w : World) (Q : Value → World → Prop) : fnEvZ Z Tryz.prog Tryz.f42 h42 [(.pointer r)] w Q = F42 Z r w Q := by kernel_rfl
theorem F42_calls {Z : List PanicEntry → World → Prop} {r : Option Addr} {w : World} {Q : Value → World → Prop} (hF_ : F42 Z r w Q) : clz Z Tryz.prog 42 #[(.pointer r)] w Q :=
  calls_of_evZ (fn := Tryz.f42) Tryz.func42 h42 (args := [(.pointer r)]) (by rw [F42_link]; exact hF_)
def h46 : Hint := (.s .d (.s .z (.s .z (.s .z .d))))
set_option linter.unusedVariables false in
def F46 (Z : List PanicEntry → World → Prop) (r : Option Addr) (w : World) (Q : Value → World → Prop) : Prop :=
 (nw w (.cells #[(.int .i64 (0 : Int)), (.int .i64 (0 : Int)), (.int .i64 (0 : Int))] 81) fun r1 w2 =>
(clz Z Tryz.prog 40 #[(.pointer r)] w2 fun v3 w4 => asI .i64 v3 fun x5 => (st w4 (⟨r1, 0, none⟩ : Addr) (.int .i64 x5) fun w6 =>
(clz Z Tryz.prog 41 #[(.pointer r)] w6 fun v7 w8 => asI .i64 v7 fun x9 => (st w8 (Addr.add (⟨r1, 0, none⟩ : Addr) 1) (.int .i64 x9) fun w10 =>
(clz Z Tryz.prog 40 #[(.pointer r)] w10 fun v11 w12 => asI .i64 v11 fun x13 => (st w12 (Addr.add (⟨r1, 0, none⟩ : Addr) 2) (.int .i64 x13) fun w14 =>
(ld w14 (⟨r1, 0, none⟩ : Addr) fun v15 => asI .i64 v15 fun x16 => (ld w14 (Addr.add (⟨r1, 0, none⟩ : Addr) 1) fun v17 => asI .i64 v17 fun x18 => (ld w14 (Addr.add (⟨r1, 0, none⟩ : Addr) 2) fun v19 => asI .i64 v19 fun x20 => (st w14 (⟨r1, 0, none⟩ : Addr) (.int .i64 x16) fun w21 => (st w21 (Addr.add (⟨r1, 0, none⟩ : Addr) 1) (.int .i64 x18) fun w22 => (st w22 (Addr.add (⟨r1, 0, none⟩ : Addr) 2) (.int .i64 x20) fun w23 =>
(ld w23 (⟨r1, 0, none⟩ : Addr) fun v24 => asI .i64 v24 fun x25 => (ld w23 (Addr.add (⟨r1, 0, none⟩ : Addr) 1) fun v26 => asI .i64 v26 fun x27 => (ld w23 (Addr.add (⟨r1, 0, none⟩ : Addr) 2) fun v28 => asI .i64 v28 fun x29 => (Q (.agg #[(.int .i64 x25), (.int .i64 x27), (.int .i64 x29)]) w23)))))))))))))))))
theorem F46_link (Z : List PanicEntry → World → Prop) (r : Option Addr) (w : World) (Q : Value → World → Prop) : fnEvZ Z Tryz.prog Tryz.f46 h46 [(.pointer r)] w Q = F46 Z r w Q := by kernel_rfl
theorem F46_calls {Z : List PanicEntry → World → Prop} {r : Option Addr} {w : World} {Q : Value → World → Prop} (hF_ : F46 Z r w Q) : clz Z Tryz.prog 46 #[(.pointer r)] w Q :=
  calls_of_evZ (fn := Tryz.f46) Tryz.func46 h46 (args := [(.pointer r)]) (by rw [F46_link]; exact hF_)
def h14 : Hint := (.s .d (.s .z (.s .z (.s .z .d))))
set_option linter.unusedVariables false in
def F14 (Z : List PanicEntry → World → Prop) (r : Option Addr) (w : World) (Q : Value → World → Prop) : Prop :=
 (nw w (.cells #[(.int .i64 (0 : Int)), (.int .i64 (0 : Int)), (.int .i64 (0 : Int))] 65) fun r1 w2 =>
(clz Z Tryz.prog 40 #[(.pointer r)] w2 fun v3 w4 => asI .i64 v3 fun x5 => (st w4 (⟨r1, 0, none⟩ : Addr) (.int .i64 x5) fun w6 =>
(clz Z Tryz.prog 40 #[(.pointer r)] w6 fun v7 w8 => asI .i64 v7 fun x9 => (st w8 (Addr.add (⟨r1, 0, none⟩ : Addr) 1) (.int .i64 x9) fun w10 =>
(clz Z Tryz.prog 41 #[(.pointer r)] w10 fun v11 w12 => asI .i64 v11 fun x13 => (st w12 (Addr.add (⟨r1, 0, none⟩ : Addr) 2) (.int .i64 x13) fun w14 =>
(ld w14 (⟨r1, 0, none⟩ : Addr) fun v15 => asI .i64 v15 fun x16 => (ld w14 (Addr.add (⟨r1, 0, none⟩ : Addr) 1) fun v17 => asI .i64 v17 fun x18 => (ld w14 (Addr.add (⟨r1, 0, none⟩ : Addr) 2) fun v19 => asI .i64 v19 fun x20 => (st w14 (⟨r1, 0, none⟩ : Addr) (.int .i64 x16) fun w21 => (st w21 (Addr.add (⟨r1, 0, none⟩ : Addr) 1) (.int .i64 x18) fun w22 => (st w22 (Addr.add (⟨r1, 0, none⟩ : Addr) 2) (.int .i64 x20) fun w23 =>
(ld w23 (⟨r1, 0, none⟩ : Addr) fun v24 => asI .i64 v24 fun x25 => (ld w23 (Addr.add (⟨r1, 0, none⟩ : Addr) 1) fun v26 => asI .i64 v26 fun x27 => (ld w23 (Addr.add (⟨r1, 0, none⟩ : Addr) 2) fun v28 => asI .i64 v28 fun x29 => (Q (.agg #[(.int .i64 x25), (.int .i64 x27), (.int .i64 x29)]) w23)))))))))))))))))
theorem F14_link (Z : List PanicEntry → World → Prop) (r : Option Addr) (w : World) (Q : Value → World → Prop) : fnEvZ Z Tryz.prog Tryz.f14 h14 [(.pointer r)] w Q = F14 Z r w Q := by kernel_rfl
theorem F14_calls {Z : List PanicEntry → World → Prop} {r : Option Addr} {w : World} {Q : Value → World → Prop} (hF_ : F14 Z r w Q) : clz Z Tryz.prog 14 #[(.pointer r)] w Q :=
  calls_of_evZ (fn := Tryz.f14) Tryz.func14 h14 (args := [(.pointer r)]) (by rw [F14_link]; exact hF_)
set_option linter.unusedVariables false in
def F16 (Z : List PanicEntry → World → Prop) (r : Option Addr) (w : World) (Q : Value → World → Prop) : Prop :=
(nw w (.cells #[(.string ByteArray.empty), (.slice none 0 0), (.int .i64 (0 : Int)), (.slice none 0 0), (.slice none 0 0)] 42) fun r1 w2 =>
(clz Z Tryz.prog 42 #[(.pointer r)] w2 fun v3 w4 => asY v3 fun s5 => (st w4 (⟨r1, 0, none⟩ : Addr) (.string s5) fun w6 =>
(clz Z Tryz.prog 43 #[(.pointer r), (.int .i64 (8 : Int)), (.func (.func 40) #[(.pointer r)] #[])] w6 fun v7 w8 => asS v7 fun p9 n10 c11 => (st w8 (Addr.add (⟨r1, 0, none⟩ : Addr) 1) (.slice p9 n10 c11) fun w12 =>
(clz Z Tryz.prog 40 #[(.pointer r)] w12 fun v13 w14 => asI .i64 v13 fun x15 => (st w14 (Addr.add (⟨r1, 0, none⟩ : Addr) 2) (.int .i64 x15) fun w16 =>
(dw w16 fun w17 => (ld w17 (Addr.add (⟨r1, 0, none⟩ : Addr) 1) fun v18 => asS v18 fun p19 n20 c21 => (clz Z Tryz.prog 43 #[(.pointer r), (.int .i64 (32 : Int)), (.func (.func 40) #[(.pointer r)] #[])] w17 fun v22 w23 => asS v22 fun p24 n25 c26 => (hd w23 (Addr.add (⟨r1, 0, none⟩ : Addr) 1) (.slice p19 n20 c21) (nw w23 (.cells #[(.slice p19 n20 c21), (.slice p24 n25 c26)] 23) fun r27 w28 => (clz Z Tryz.prog 44 #[(.slice (some (⟨r27, 0, none⟩ : Addr)) 2 2)] w28 fun v29 w30 => asS v29 fun p31 n32 c33 => (st w30 (Addr.add (⟨r1, 0, none⟩ : Addr) 3) (.slice p31 n32 c33) fun w34 =>
(clz Z Tryz.prog 45 #[(.pointer r), (.int .i64 (32768 : Int)), (.func (.func 46) #[(.pointer r)] #[])] w34 fun v35 w36 => asS v35 fun p37 n38 c39 => (st w36 (Addr.add (⟨r1, 0, none⟩ : Addr) 4) (.slice p37 n38 c39) fun w40 =>
(ld w40 (⟨r1, 0, none⟩ : Addr) fun v41 => asY v41 fun s42 => (ld w40 (Addr.add (⟨r1, 0, none⟩ : Addr) 1) fun v43 => asS v43 fun p44 n45 c46 => (ld w40 (Addr.add (⟨r1, 0, none⟩ : Addr) 2) fun v47 => asI .i64 v47 fun x48 => (ld w40 (Addr.add (⟨r1, 0, none⟩ : Addr) 3) fun v49 => asS v49 fun p50 n51 c52 => (ld w40 (Addr.add (⟨r1, 0, none⟩ : Addr) 4) fun v53 => asS v53 fun p54 n55 c56 => (st w40 (⟨r1, 0, none⟩ : Addr) (.string s42) fun w57 => (st w57 (Addr.add (⟨r1, 0, none⟩ : Addr) 1) (.slice p44 n45 c46) fun w58 => (st w58 (Addr.add (⟨r1, 0, none⟩ : Addr) 2) (.int .i64 x48) fun w59 => (st w59 (Addr.add (⟨r1, 0, none⟩ : Addr) 3) (.slice p50 n51 c52) fun w60 => (st w60 (Addr.add (⟨r1, 0, none⟩ : Addr) 4) (.slice p54 n55 c56) fun w61 =>
(ld w61 (⟨r1, 0, none⟩ : Addr) fun v62 => asY v62 fun s63 => (ld w61 (Addr.add (⟨r1, 0, none⟩ : Addr) 1) fun v64 => asS v64 fun p65 n66 c67 => (ld w61 (Addr.add (⟨r1, 0, none⟩ : Addr) 2) fun v68 => asI .i64 v68 fun x69 => (ld w61 (Addr.add (⟨r1, 0, none⟩ : Addr) 3) fun v70 => asS v70 fun p71 n72 c73 => (ld w61 (Addr.add (⟨r1, 0, none⟩ : Addr) 4) fun v74 => asS v74 fun p75 n76 c77 => (Q (.agg #[(.string s63), (.slice p65 n66 c67), (.int .i64 x69), (.slice p71 n72 c73), (.slice p75 n76 c77)]) w61))))))))))))))))))))))))))))))))
theorem F16_link (Z : List PanicEntry → World → Prop) (r : Option Addr) (w : World) (Q : Value → World → Prop) : fnEvY Z Tryz.prog Tryz.f16 7 [.d, .z, .z, .z, (.s .z (.o (ofL [0, 1, 2, 3, 4, 5, 6, 7, 8, 9] .nil))), .z, .d, .d] [(.pointer r)] w Q = F16 Z r w Q := by kernel_rfl
theorem F16_calls {Z : List PanicEntry → World → Prop} {r : Option Addr} {w : World} {Q : Value → World → Prop} (hF_ : F16 Z r w Q) : clz Z Tryz.prog 16 #[(.pointer r)] w Q :=
  calls_of_evY (fn := Tryz.f16) Tryz.func16 7 [.d, .z, .z, .z, (.s .z (.o (ofL [0, 1, 2, 3, 4, 5, 6, 7, 8, 9] .nil))), .z, .d, .d] (args := [(.pointer r)]) (by rw [F16_link]; exact hF_)
def h13 : Hint := (.s .d (.s .z (.j [] (.s .d (.s .z .d)) (.s .d (.s (.s .d (.l [(8, 28), (16, 3)] (.s .d (.s .d (.s .z .d))))) .d)))))
set_option linter.unusedVariables false in
def F13 (Z : List PanicEntry → World → Prop) (r : Option Addr) (most : Int) (one : Nat) (one_fs one_cs : Array Value) (w : World) (Q : Value → World → Prop) : Prop :=
(clz Z Tryz.prog 40 #[(.pointer r)] w fun v1 w2 => asI .i64 v1 fun x3 => (lv x3 fun n_4 =>
(jn (fun s5 w6 =>
(lp [(.slice none 0 0), (.int .i64 (0 : Int))] w6 fun J12 s10 w11 => asS (s10.getD 0 undef) fun p13 n14 c15 => asI .i64 (s10.getD 1 undef) fun x16 =>
(cond (decide (x16 < n_4))
(cond (callOk Tryz.prog one) (clz Z Tryz.prog one (one_fs ++ #[] ++ one_cs) w11 fun v17 w18 => asA 3 v17 fun a19 => asI .i64 (a19 0) fun x20 => asI .i64 (a19 1) fun x21 => asI .i64 (a19 2) fun x22 => (nw w18 (.cells #[(.int .i64 x20), (.int .i64 x21), (.int .i64 x22)] 65) fun r23 w24 => (rn Tryz.prog (Builtin.append_ #[28, 28] 28 #[(.slice p13 n14 c15), (.slice (some (⟨r23, 0, none⟩ : Addr)) 1 1)]) w24 fun v25 w26 => asS v25 fun p27 n28 c29 =>
(J12 [(.slice p27 n28 c29), (.int .i64 (IntKind.wrap .i64 (x16 + (1 : Int))))] w26)))) (xt Tryz.prog one (one_fs ++ #[] ++ one_cs) w11 fun v17 w18 => asA 3 v17 fun a19 => asI .i64 (a19 0) fun x20 => asI .i64 (a19 1) fun x21 => asI .i64 (a19 2) fun x22 => (nw w18 (.cells #[(.int .i64 x20), (.int .i64 x21), (.int .i64 x22)] 65) fun r23 w24 => (rn Tryz.prog (Builtin.append_ #[28, 28] 28 #[(.slice p13 n14 c15), (.slice (some (⟨r23, 0, none⟩ : Addr)) 1 1)]) w24 fun v25 w26 => asS v25 fun p27 n28 c29 =>
(J12 [(.slice p27 n28 c29), (.int .i64 (IntKind.wrap .i64 (x16 + (1 : Int))))] w26)))))
(Q (.slice p13 n14 c15) w11))))
 (fun J7 =>
(cond (decide (n_4 > most)) (rn Tryz.prog (Instr.makeInterface 32 (.int .i64 (150 : Int))) w2 fun v8 w9 => (cond (isIface v8) (Z [{ v := v8, recovered := false }] w9) False)) (J7 [] w2))))))
theorem F13_link (Z : List PanicEntry → World → Prop) (r : Option Addr) (most : Int) (one : Nat) (one_fs one_cs : Array Value) (w : World) (Q : Value → World → Prop) : fnEvZ Z Tryz.prog Tryz.f13 h13 [(.pointer r), (.int .i64 most), (.func (.func one) one_fs one_cs)] w Q = F13 Z r most one one_fs one_cs w Q := by kernel_rfl
theorem F13_calls {Z : List PanicEntry → World → Prop} {r : Option Addr} {most : Int} {one : Nat} {one_fs one_cs : Array Value} {w : World} {Q : Value → World → Prop} (hF_ : F13 Z r most one one_fs one_cs w Q) : clz Z Tryz.prog 13 #[(.pointer r), (.int .i64 most), (.func (.func one) one_fs one_cs)] w Q :=
  calls_of_evZ (fn := Tryz.f13) Tryz.func13 h13 (args := [(.pointer r), (.int .i64 most), (.func (.func one) one_fs one_cs)]) (by rw [F13_link]; exact hF_)
def h15 : Hint := (.s .d (.s .z (.j [] (.s .d (.s .z .d)) (.s .d (.s (.s .d (.l [(8, 29), (16, 3)] (.s .d (.s .d (.s .z .d))))) .d)))))
set_option linter.unusedVariables false in
def F15 (Z : List PanicEntry → World → Prop) (r : Option Addr) (most : Int) (one : Nat) (one_fs one_cs : Array Value) (w : World) (Q : Value → World → Prop) : Prop :=
(clz Z Tryz.prog 40 #[(.pointer r)] w fun v1 w2 => asI .i64 v1 fun x3 => (lv x3 fun n_4 =>
(jn (fun s5 w6 =>
(lp [(.slice none 0 0), (.int .i64 (0 : Int))] w6 fun J12 s10 w11 => asS (s10.getD 0 undef) fun p13 n14 c15 => asI .i64 (s10.getD 1 undef) fun x16 =>
(cond (decide (x16 < n_4))
(cond (callOk Tryz.prog one) (clz Z Tryz.prog one (one_fs ++ #[] ++ one_cs) w11 fun v17 w18 => asA 5 v17 fun a19 => asY (a19 0) fun s20 => asS (a19 1) fun p21 n22 c23 => asI .i64 (a19 2) fun x24 => asS (a19 3) fun p25 n26 c27 => asS (a19 4) fun p28 n29 c30 => (nw w18 (.cells #[(.string s20), (.slice p21 n22 c23), (.int .i64 x24), (.slice p25 n26 c27), (.slice p28 n29 c30)] 42) fun r31 w32 => (rn Tryz.prog (Builtin.append_ #[29, 29] 29 #[(.slice p13 n14 c15), (.slice (some (⟨r31, 0, none⟩ : Addr)) 1 1)]) w32 fun v33 w34 => asS v33 fun p35 n36 c37 =>
(J12 [(.slice p35 n36 c37), (.int .i64 (IntKind.wrap .i64 (x16 + (1 : Int))))] w34)))) (xt Tryz.prog one (one_fs ++ #[] ++ one_cs) w11 fun v17 w18 => asA 5 v17 fun a19 => asY (a19 0) fun s20 => asS (a19 1) fun p21 n22 c23 => asI .i64 (a19 2) fun x24 => asS (a19 3) fun p25 n26 c27 => asS (a19 4) fun p28 n29 c30 => (nw w18 (.cells #[(.string s20), (.slice p21 n22 c23), (.int .i64 x24), (.slice p25 n26 c27), (.slice p28 n29 c30)] 42) fun r31 w32 => (rn Tryz.prog (Builtin.append_ #[29, 29] 29 #[(.slice p13 n14 c15), (.slice (some (⟨r31, 0, none⟩ : Addr)) 1 1)]) w32 fun v33 w34 => asS v33 fun p35 n36 c37 =>
(J12 [(.slice p35 n36 c37), (.int .i64 (IntKind.wrap .i64 (x16 + (1 : Int))))] w34)))))
(Q (.slice p13 n14 c15) w11))))
 (fun J7 =>
(cond (decide (n_4 > most)) (rn Tryz.prog (Instr.makeInterface 32 (.int .i64 (150 : Int))) w2 fun v8 w9 => (cond (isIface v8) (Z [{ v := v8, recovered := false }] w9) False)) (J7 [] w2))))))
theorem F15_link (Z : List PanicEntry → World → Prop) (r : Option Addr) (most : Int) (one : Nat) (one_fs one_cs : Array Value) (w : World) (Q : Value → World → Prop) : fnEvZ Z Tryz.prog Tryz.f15 h15 [(.pointer r), (.int .i64 most), (.func (.func one) one_fs one_cs)] w Q = F15 Z r most one one_fs one_cs w Q := by kernel_rfl
theorem F15_calls {Z : List PanicEntry → World → Prop} {r : Option Addr} {most : Int} {one : Nat} {one_fs one_cs : Array Value} {w : World} {Q : Value → World → Prop} (hF_ : F15 Z r most one one_fs one_cs w Q) : clz Z Tryz.prog 15 #[(.pointer r), (.int .i64 most), (.func (.func one) one_fs one_cs)] w Q :=
  calls_of_evZ (fn := Tryz.f15) Tryz.func15 h15 (args := [(.pointer r), (.int .i64 most), (.func (.func one) one_fs one_cs)]) (by rw [F15_link]; exact hF_)
def h43 : Hint := (.s .d (.s .z (.j [] (.s .d (.s .z .d)) (.s .d (.s (.s .d (.l [(8, 23), (16, 3)] (.s .d (.s .d (.s .z .d))))) .d)))))
set_option linter.unusedVariables false in
def F43 (Z : List PanicEntry → World → Prop) (r : Option Addr) (most : Int) (one : Nat) (one_fs one_cs : Array Value) (w : World) (Q : Value → World → Prop) : Prop :=
(clz Z Tryz.prog 40 #[(.pointer r)] w fun v1 w2 => asI .i64 v1 fun x3 => (lv x3 fun n_4 =>
(jn (fun s5 w6 =>
(lp [(.slice none 0 0), (.int .i64 (0 : Int))] w6 fun J12 s10 w11 => asS (s10.getD 0 undef) fun p13 n14 c15 => asI .i64 (s10.getD 1 undef) fun x16 =>
(cond (decide (x16 < n_4))
(cond (callOk Tryz.prog one) (clz Z Tryz.prog one (one_fs ++ #[] ++ one_cs) w11 fun v17 w18 => asI .i64 v17 fun x19 => (nw w18 (.cells #[(.int .i64 x19)] 3) fun r20 w21 => (rn Tryz.prog (Builtin.append_ #[23, 23] 23 #[(.slice p13 n14 c15), (.slice (some (⟨r20, 0, none⟩ : Addr)) 1 1)]) w21 fun v22 w23 => asS v22 fun p24 n25 c26 =>
(J12 [(.slice p24 n25 c26), (.int .i64 (IntKind.wrap .i64 (x16 + (1 : Int))))] w23)))) (xt Tryz.prog one (one_fs ++ #[] ++ one_cs) w11 fun v17 w18 => asI .i64 v17 fun x19 => (nw w18 (.cells #[(.int .i64 x19)] 3) fun r20 w21 => (rn Tryz.prog (Builtin.append_ #[23, 23] 23 #[(.slice p13 n14 c15), (.slice (some (⟨r20, 0, none⟩ : Addr)) 1 1)]) w21 fun v22 w23 => asS v22 fun p24 n25 c26 =>
(J12 [(.slice p24 n25 c26), (.int .i64 (IntKind.wrap .i64 (x16 + (1 : Int))))] w23)))))
(Q (.slice p13 n14 c15) w11))))
 (fun J7 =>
(cond (decide (n_4 > most)) (rn Tryz.prog (Instr.makeInterface 32 (.int .i64 (150 : Int))) w2 fun v8 w9 => (cond (isIface v8) (Z [{ v := v8, recovered := false }] w9) False)) (J7 [] w2))))))
theorem F43_link (Z : List PanicEntry → World → Prop) (r : Option Addr) (most : Int) (one : Nat) (one_fs one_cs : Array Value) (w : World) (Q : Value → World → Prop) : fnEvZ Z Tryz.prog Tryz.f43 h43 [(.pointer r), (.int .i64 most), (.func (.func one) one_fs one_cs)] w Q = F43 Z r most one one_fs one_cs w Q := by kernel_rfl
theorem F43_calls {Z : List PanicEntry → World → Prop} {r : Option Addr} {most : Int} {one : Nat} {one_fs one_cs : Array Value} {w : World} {Q : Value → World → Prop} (hF_ : F43 Z r most one one_fs one_cs w Q) : clz Z Tryz.prog 43 #[(.pointer r), (.int .i64 most), (.func (.func one) one_fs one_cs)] w Q :=
  calls_of_evZ (fn := Tryz.f43) Tryz.func43 h43 (args := [(.pointer r), (.int .i64 most), (.func (.func one) one_fs one_cs)]) (by rw [F43_link]; exact hF_)
def h45 : Hint := (.s .d (.s .z (.j [] (.s .d (.s .z .d)) (.s .d (.s (.s .d (.l [(8, 40), (16, 3)] (.s .d (.s .d (.s .z .d))))) .d)))))
set_option linter.unusedVariables false in
def F45 (Z : List PanicEntry → World → Prop) (r : Option Addr) (most : Int) (one : Nat) (one_fs one_cs : Array Value) (w : World) (Q : Value → World → Prop) : Prop :=
(clz Z Tryz.prog 40 #[(.pointer r)] w fun v1 w2 => asI .i64 v1 fun x3 => (lv x3 fun n_4 =>
(jn (fun s5 w6 =>
(lp [(.slice none 0 0), (.int .i64 (0 : Int))] w6 fun J12 s10 w11 => asS (s10.getD 0 undef) fun p13 n14 c15 => asI .i64 (s10.getD 1 undef) fun x16 =>
(cond (decide (x16 < n_4))
(cond (callOk Tryz.prog one) (clz Z Tryz.prog one (one_fs ++ #[] ++ one_cs) w11 fun v17 w18 => asA 3 v17 fun a19 => asI .i64 (a19 0) fun x20 => asI .i64 (a19 1) fun x21 => asI .i64 (a19 2) fun x22 => (nw w18 (.cells #[(.int .i64 x20), (.int .i64 x21), (.int .i64 x22)] 81) fun r23 w24 => (rn Tryz.prog (Builtin.append_ #[40, 40] 40 #[(.slice p13 n14 c15), (.slice (some (⟨r23, 0, none⟩ : Addr)) 1 1)]) w24 fun v25 w26 => asS v25 fun p27 n28 c29 =>
(J12 [(.slice p27 n28 c29), (.int .i64 (IntKind.wrap .i64 (x16 + (1 : Int))))] w26)))) (xt Tryz.prog one (one_fs ++ #[] ++ one_cs) w11 fun v17 w18 => asA 3 v17 fun a19 => asI .i64 (a19 0) fun x20 => asI .i64 (a19 1) fun x21 => asI .i64 (a19 2) fun x22 => (nw w18 (.cells #[(.int .i64 x20), (.int .i64 x21), (.int .i64 x22)] 81) fun r23 w24 => (rn Tryz.prog (Builtin.append_ #[40, 40] 40 #[(.slice p13 n14 c15), (.slice (some (⟨r23, 0, none⟩ : Addr)) 1 1)]) w24 fun v25 w26 => asS v25 fun p27 n28 c29 =>
(J12 [(.slice p27 n28 c29), (.int .i64 (IntKind.wrap .i64 (x16 + (1 : Int))))] w26)))))
(Q (.slice p13 n14 c15) w11))))
 (fun J7 =>
(cond (decide (n_4 > most)) (rn Tryz.prog (Instr.makeInterface 32 (.int .i64 (150 : Int))) w2 fun v8 w9 => (cond (isIface v8) (Z [{ v := v8, recovered := false }] w9) False)) (J7 [] w2))))))
theorem F45_link (Z : List PanicEntry → World → Prop) (r : Option Addr) (most : Int) (one : Nat) (one_fs one_cs : Array Value) (w : World) (Q : Value → World → Prop) : fnEvZ Z Tryz.prog Tryz.f45 h45 [(.pointer r), (.int .i64 most), (.func (.func one) one_fs one_cs)] w Q = F45 Z r most one one_fs one_cs w Q := by kernel_rfl
theorem F45_calls {Z : List PanicEntry → World → Prop} {r : Option Addr} {most : Int} {one : Nat} {one_fs one_cs : Array Value} {w : World} {Q : Value → World → Prop} (hF_ : F45 Z r most one one_fs one_cs w Q) : clz Z Tryz.prog 45 #[(.pointer r), (.int .i64 most), (.func (.func one) one_fs one_cs)] w Q :=
  calls_of_evZ (fn := Tryz.f45) Tryz.func45 h45 (args := [(.pointer r), (.int .i64 most), (.func (.func one) one_fs one_cs)]) (by rw [F45_link]; exact hF_)
def h44 : Hint := (.s .d (.s .d (.s (.s .d (.l [(3, 3), (11, 3)] (.s .d (.s .d (.j [(3, 3)] (.s .d (.s .d (.s .d (.s .z .d)))) .d))))) (.s .z (.s (.s .d (.l [(6, 23), (27, 3)] .d)) .d)))))
set_option linter.unusedVariables false in
def F44 (Z : List PanicEntry → World → Prop) (slices : Option Addr) (slices_n slices_c : Nat) (w : World) (Q : Value → World → Prop) : Prop :=
(lv (0 : Int) fun size_1 =>
(lp [(.int .i64 size_1), (.int .i64 (0 : Int))] w fun J4 s2 w3 => asI .i64 (s2.getD 0 undef) fun x5 => asI .i64 (s2.getD 1 undef) fun x6 =>
(cond (decide (x6 < (slices_n : Int)))
(jn (fun s7 w8 => asI .i64 (s7.getD 0 undef) fun x18 => (J4 [(.int .i64 x18), (.int .i64 (IntKind.wrap .i64 (x6 + (1 : Int))))] w8))
 (fun J9 => (dr slices fun a10 => (bnd x6 slices_n (ld w3 (Addr.add a10 (Int.toNat x6 * 1)) fun v11 => asS v11 fun p12 n13 c14 =>
(lv (IntKind.wrap .i64 (x5 + (n13 : Int))) fun size_15 =>
(cond (decide (size_15 < (0 : Int))) (rn Tryz.prog (Instr.makeInterface 9 (.string (⟨#[108, 101, 110, 32, 111, 117, 116, 32, 111, 102, 32, 114, 97, 110, 103, 101]⟩ : ByteArray))) w3 fun v16 w17 => (cond (isIface v16) (Z [{ v := v16, recovered := false }] w17) False)) (J9 [(.int .i64 size_15)] w3))))))))
(clz Z Tryz.prog 95 #[(.slice none 0 0), (.int .i64 x5)] w3 fun v19 w20 => asS v19 fun p21 n22 c23 =>
(lp [(.slice p21 n22 c23), (.int .i64 (0 : Int))] w20 fun J26 s24 w25 => asS (s24.getD 0 undef) fun p27 n28 c29 => asI .i64 (s24.getD 1 undef) fun x30 =>
(cond (decide (x30 < (slices_n : Int)))
(dr slices fun a31 => (bnd x30 slices_n (ld w25 (Addr.add a31 (Int.toNat x30 * 1)) fun v32 => asS v32 fun p33 n34 c35 =>
(rn Tryz.prog (Builtin.append_ #[23, 23] 23 #[(.slice p27 n28 c29), (.slice p33 n34 c35)]) w25 fun v36 w37 => asS v36 fun p38 n39 c40 =>
(J26 [(.slice p38 n39 c40), (.int .i64 (IntKind.wrap .i64 (x30 + (1 : Int))))] w37)))))
(Q (.slice p27 n28 c29) w25)))))))
theorem F44_link (Z : List PanicEntry → World → Prop) (slices : Option Addr) (slices_n slices_c : Nat) (w : World) (Q : Value → World → Prop) : fnEvZ Z Tryz.prog Tryz.f44 h44 [(.slice slices slices_n slices_c)] w Q = F44 Z slices slices_n slices_c w Q := by kernel_rfl
theorem F44_calls {Z : List PanicEntry → World → Prop} {slices : Option Addr} {slices_n slices_c : Nat} {w : World} {Q : Value → World → Prop} (hF_ : F44 Z slices slices_n slices_c w Q) : clz Z Tryz.prog 44 #[(.slice slices slices_n slices_c)] w Q :=
  calls_of_evZ (fn := Tryz.f44) Tryz.func44 h44 (args := [(.slice slices slices_n slices_c)]) (by rw [F44_link]; exact hF_)
def h89 : Hint := (.s .d (.s .d (.s (.s .d (.l [(3, 3), (11, 3)] (.s .d (.s .d (.j [(3, 3)] (.s .d (.s .d (.s .d (.s .z .d)))) .d))))) (.s .z (.s (.s .d (.l [(6, 22), (27, 3)] .d)) .d)))))
set_option linter.unusedVariables false in
def F89 (Z : List PanicEntry → World → Prop) (slices : Option Addr) (slices_n slices_c : Nat) (w : World) (Q : Value → World → Prop) : Prop :=
(lv (0 : Int) fun size_1 =>
(lp [(.int .i64 size_1), (.int .i64 (0 : Int))] w fun J4 s2 w3 => asI .i64 (s2.getD 0 undef) fun x5 => asI .i64 (s2.getD 1 undef) fun x6 =>
(cond (decide (x6 < (slices_n : Int)))
(jn (fun s7 w8 => asI .i64 (s7.getD 0 undef) fun x18 => (J4 [(.int .i64 x18), (.int .i64 (IntKind.wrap .i64 (x6 + (1 : Int))))] w8))
 (fun J9 => (dr slices fun a10 => (bnd x6 slices_n (ld w3 (Addr.add a10 (Int.toNat x6 * 1)) fun v11 => asS v11 fun p12 n13 c14 =>
(lv (IntKind.wrap .i64 (x5 + (n13 : Int))) fun size_15 =>
(cond (decide (size_15 < (0 : Int))) (rn Tryz.prog (Instr.makeInterface 9 (.string (⟨#[108, 101, 110, 32, 111, 117, 116, 32, 111, 102, 32, 114, 97, 110, 103, 101]⟩ : ByteArray))) w3 fun v16 w17 => (cond (isIface v16) (Z [{ v := v16, recovered := false }] w17) False)) (J9 [(.int .i64 size_15)] w3))))))))
(clz Z Tryz.prog 140 #[(.slice none 0 0), (.int .i64 x5)] w3 fun v19 w20 => asS v19 fun p21 n22 c23 =>
(lp [(.slice p21 n22 c23), (.int .i64 (0 : Int))] w20 fun J26 s24 w25 => asS (s24.getD 0 undef) fun p27 n28 c29 => asI .i64 (s24.getD 1 undef) fun x30 =>
(cond (decide (x30 < (slices_n : Int)))
(dr slices fun a31 => (bnd x30 slices_n (ld w25 (Addr.add a31 (Int.toNat x30 * 1)) fun v32 => asS v32 fun p33 n34 c35 =>
(rn Tryz.prog (Builtin.append_ #[22, 22] 22 #[(.slice p27 n28 c29), (.slice p33 n34 c35)]) w25 fun v36 w37 => asS v36 fun p38 n39 c40 =>
(J26 [(.slice p38 n39 c40), (.int .i64 (IntKind.wrap .i64 (x30 + (1 : Int))))] w37)))))
(Q (.slice p27 n28 c29) w25)))))))
theorem F89_link (Z : List PanicEntry → World → Prop) (slices : Option Addr) (slices_n slices_c : Nat) (w : World) (Q : Value → World → Prop) : fnEvZ Z Tryz.prog Tryz.f89 h89 [(.slice slices slices_n slices_c)] w Q = F89 Z slices slices_n slices_c w Q := by kernel_rfl
theorem F89_calls {Z : List PanicEntry → World → Prop} {slices : Option Addr} {slices_n slices_c : Nat} {w : World} {Q : Value → World → Prop} (hF_ : F89 Z slices slices_n slices_c w Q) : clz Z Tryz.prog 89 #[(.slice slices slices_n slices_c)] w Q :=
  calls_of_evZ (fn := Tryz.f89) Tryz.func89 h89 (args := [(.slice slices slices_n slices_c)]) (by rw [F89_link]; exact hF_)
def h95 : Hint := (.s .d (.j [] (.s .d (.s .z .d)) (.j [(0, 23)] .d .d)))
set_option linter.unusedVariables false in
def F95 (Z : List PanicEntry → World → Prop) (s : Option Addr) (s_n s_c : Nat) (n : Int) (w : World) (Q : Value → World → Prop) : Prop :=
(jn (fun s1 w2 => (jn (fun s6 w7 => asS (s6.getD 0 undef) fun p15 n16 c17 =>
(Q (.slice p15 n16 c17) w7))
 (fun J8 => (lv (IntKind.wrap .i64 (n - (IntKind.wrap .i64 ((s_c : Int) - (s_n : Int))))) fun n_9 =>
(cond (decide (n_9 > (0 : Int))) (bn2 (s_c : Int) s_c (rn Tryz.prog (Builtin.append_ #[23, 3] 23 #[(.slice s (Int.toNat (s_c : Int)) s_c), (.int .i64 n_9)]) w2 fun v10 w11 => asS v10 fun p12 n13 c14 => (bn2 (s_n : Int) c14 (J8 [(.slice p12 (Int.toNat (s_n : Int)) c14)] w11)))) (J8 [(.slice s s_n s_c)] w2))))))
 (fun J3 =>
(cond (decide (n < (0 : Int))) (rn Tryz.prog (Instr.makeInterface 9 (.string (⟨#[99, 97, 110, 110, 111, 116, 32, 98, 101, 32, 110, 101, 103, 97, 116, 105, 118, 101]⟩ : ByteArray))) w fun v4 w5 => (cond (isIface v4) (Z [{ v := v4, recovered := false }] w5) False)) (J3 [] w))))
theorem F95_link (Z : List PanicEntry → World → Prop) (s : Option Addr) (s_n s_c : Nat) (n : Int) (w : World) (Q : Value → World → Prop) : fnEvZ Z Tryz.prog Tryz.f95 h95 [(.slice s s_n s_c), (.int .i64 n)] w Q = F95 Z s s_n s_c n w Q := by kernel_rfl
theorem F95_calls {Z : List PanicEntry → World → Prop} {s : Option Addr} {s_n s_c : Nat} {n : Int} {w : World} {Q : Value → World → Prop} (hF_ : F95 Z s s_n s_c n w Q) : clz Z Tryz.prog 95 #[(.slice s s_n s_c), (.int .i64 n)] w Q :=
  calls_of_evZ (fn := Tryz.f95) Tryz.func95 h95 (args := [(.slice s s_n s_c), (.int .i64 n)]) (by rw [F95_link]; exact hF_)
def h140 : Hint := (.s .d (.j [] (.s .d (.s .z .d)) (.j [(0, 22)] .d .d)))
set_option linter.unusedVariables false in
def F140 (Z : List PanicEntry → World → Prop) (s : Option Addr) (s_n s_c : Nat) (n : Int) (w : World) (Q : Value → World → Prop) : Prop :=
(jn (fun s1 w2 => (jn (fun s6 w7 => asS (s6.getD 0 undef) fun p15 n16 c17 =>
(Q (.slice p15 n16 c17) w7))
 (fun J8 => (lv (IntKind.wrap .i64 (n - (IntKind.wrap .i64 ((s_c : Int) - (s_n : Int))))) fun n_9 =>
(cond (decide (n_9 > (0 : Int))) (bn2 (s_c : Int) s_c (rn Tryz.prog (Builtin.append_ #[22, 3] 22 #[(.slice s (Int.toNat (s_c : Int)) s_c), (.int .i64 n_9)]) w2 fun v10 w11 => asS v10 fun p12 n13 c14 => (bn2 (s_n : Int) c14 (J8 [(.slice p12 (Int.toNat (s_n : Int)) c14)] w11)))) (J8 [(.slice s s_n s_c)] w2))))))
 (fun J3 =>
(cond (decide (n < (0 : Int))) (rn Tryz.prog (Instr.makeInterface 9 (.string (⟨#[99, 97, 110, 110, 111, 116, 32, 98, 101, 32, 110, 101, 103, 97, 116, 105, 118, 101]⟩ : ByteArray))) w fun v4 w5 => (cond (isIface v4) (Z [{ v := v4, recovered := false }] w5) False)) (J3 [] w))))
theorem F140_link (Z : List PanicEntry → World → Prop) (s : Option Addr) (s_n s_c : Nat) (n : Int) (w : World) (Q : Value → World → Prop) : fnEvZ Z Tryz.prog Tryz.f140 h140 [(.slice s s_n s_c), (.int .i64 n)] w Q = F140 Z s s_n s_c n w Q := by kernel_rfl
theorem F140_calls {Z : List PanicEntry → World → Prop} {s : Option Addr} {s_n s_c : Nat} {n : Int} {w : World} {Q : Value → World → Prop} (hF_ : F140 Z s s_n s_c n w Q) : clz Z Tryz.prog 140 #[(.slice s s_n s_c), (.int .i64 n)] w Q :=
  calls_of_evZ (fn := Tryz.f140) Tryz.func140 h140 (args := [(.slice s s_n s_c), (.int .i64 n)]) (by rw [F140_link]; exact hF_)
def h216 : Hint := (.s .d (.j [] (.s .d (.s .z .d)) (.j [] (.s .d (.s .z .d)) (.s (.s .d (.s (.s (.o (ofL [0, 1, 2, 3, 4, 5, 6, 7] .nil)) .d) .d)) (.s .d (.s .d (.s .d (.s .d (.s .d (.s .d (.s .d (.s .d (.s .d (.s .d (.j [(15, 252)] (.l [(15, 252), (16, 252)] (.s (.j [(78, 4)] .d .d) .d)) (.s .d (.s .d (.s .d (.j [(18, 252)] (.l [(16, 252), (18, 252)] (.s (.j [(113, 4)] .d .d) .d)) .d)))))))))))))))))))
set_option linter.unusedVariables false in
def F216 (Z : List PanicEntry → World → Prop) (hi : Int) (lo : Int) (y : Int) (w : World) (Q : Value → World → Prop) : Prop :=
 (lv (0 : Int) fun quo_1 => (lv (0 : Int) fun rem_2 =>
(jn (fun s3 w4 => (jn (fun s7 w8 =>
(cond (hi == (0 : Int)) (dw w8 fun w11 => (nz y (nz y (lv (IntKind.wrap .u64 (Int.tdiv lo y)) fun quo_12 => (lv (Int.tmod lo y) fun rem_13 =>
(Q (.tuple #[(.int .u64 quo_12), (.int .u64 rem_13)]) w11))))))
(cl Tryz.prog 256 #[(.int .u64 y)] w8 fun v14 w15 => asI .i64 v14 fun x16 => (lv (IntKind.wrap .u64 x16) fun s_17 =>
(nn s_17 (lv (IntKind.wrap .u64 (y * 2 ^ (min (Int.toNat s_17) 64))) fun y_18 =>
(lv (Int.fdiv y_18 (2 ^ (min (Int.toNat (32 : Int)) 64))) fun yn1_19 =>
(lv (Go.bits .and .u64 y_18 (4294967295 : Int)) fun yn0_20 =>
(nn s_17 (nn (IntKind.wrap .u64 ((64 : Int) - s_17)) (lv (Go.bits .or .u64 (IntKind.wrap .u64 (hi * 2 ^ (min (Int.toNat s_17) 64))) (Int.fdiv lo (2 ^ (min (Int.toNat (IntKind.wrap .u64 ((64 : Int) - s_17))) 64)))) fun un32_21 =>
(nn s_17 (lv (IntKind.wrap .u64 (lo * 2 ^ (min (Int.toNat s_17) 64))) fun un10_22 =>
(lv (Int.fdiv un10_22 (2 ^ (min (Int.toNat (32 : Int)) 64))) fun un1_23 =>
(lv (Go.bits .and .u64 un10_22 (4294967295 : Int)) fun un0_24 =>
(nz yn1_19 (lv (IntKind.wrap .u64 (Int.tdiv un32_21 yn1_19)) fun q1_25 =>
(lv (IntKind.wrap .u64 (un32_21 - (IntKind.wrap .u64 (q1_25 * yn1_19)))) fun rhat_26 =>
(jn (fun s27 w28 => asI .u64 (s27.getD 0 undef) fun x41 => (lv (IntKind.wrap .u64 ((IntKind.wrap .u64 ((IntKind.wrap .u64 (un32_21 * (4294967296 : Int))) + un1_23)) - (IntKind.wrap .u64 (x41 * y_18)))) fun un21_42 =>
(nz yn1_19 (lv (IntKind.wrap .u64 (Int.tdiv un21_42 yn1_19)) fun q0_43 =>
(lv (IntKind.wrap .u64 (un21_42 - (IntKind.wrap .u64 (q0_43 * yn1_19)))) fun rhat_44 =>
(jn (fun s45 w46 => asI .u64 (s45.getD 0 undef) fun x59 => (nn s_17 (lv (IntKind.wrap .u64 ((IntKind.wrap .u64 (x41 * (4294967296 : Int))) + x59)) fun quo_60 => (lv (Int.fdiv (IntKind.wrap .u64 ((IntKind.wrap .u64 ((IntKind.wrap .u64 (un21_42 * (4294967296 : Int))) + un0_24)) - (IntKind.wrap .u64 (x59 * y_18)))) (2 ^ (min (Int.toNat s_17) 64))) fun rem_61 =>
(Q (.tuple #[(.int .u64 quo_60), (.int .u64 rem_61)]) w46)))))
 (fun J47 => (lp [(.int .u64 rhat_44), (.int .u64 q0_43)] w28 fun J50 s48 w49 => asI .u64 (s48.getD 0 undef) fun x51 => asI .u64 (s48.getD 1 undef) fun x52 => (jn (fun s53 w54 => asB (s53.getD 0 undef) fun b56 => (cond b56
(lv (IntKind.wrap .u64 (x52 - (1 : Int))) fun q0_57 =>
(lv (IntKind.wrap .u64 (x51 + yn1_19)) fun rhat_58 =>
(cond (decide (rhat_58 ≥ (4294967296 : Int))) (J47 [(.int .u64 q0_57)] w54) (J50 [(.int .u64 rhat_58), (.int .u64 q0_57)] w54)))) (J47 [(.int .u64 x52)] w54)))
 (fun J55 => (cond (decide (x52 ≥ (4294967296 : Int))) (J55 [(.bool true)] w49) (J55 [(.bool (decide ((IntKind.wrap .u64 (x52 * yn0_20)) > (IntKind.wrap .u64 ((IntKind.wrap .u64 ((4294967296 : Int) * x51)) + un0_24)))))] w49))))))))))))
 (fun J29 => (lp [(.int .u64 q1_25), (.int .u64 rhat_26)] w15 fun J32 s30 w31 => asI .u64 (s30.getD 0 undef) fun x33 => asI .u64 (s30.getD 1 undef) fun x34 => (jn (fun s35 w36 => asB (s35.getD 0 undef) fun b38 => (cond b38
(lv (IntKind.wrap .u64 (x33 - (1 : Int))) fun q1_39 =>
(lv (IntKind.wrap .u64 (x34 + yn1_19)) fun rhat_40 =>
(cond (decide (rhat_40 ≥ (4294967296 : Int))) (J29 [(.int .u64 q1_39)] w36) (J32 [(.int .u64 q1_39), (.int .u64 rhat_40)] w36)))) (J29 [(.int .u64 x33)] w36)))
 (fun J37 => (cond (decide (x33 ≥ (4294967296 : Int))) (J37 [(.bool true)] w31) (J37 [(.bool (decide ((IntKind.wrap .u64 (x33 * yn0_20)) > (IntKind.wrap .u64 ((IntKind.wrap .u64 ((4294967296 : Int) * x34)) + un1_23)))))] w31)))))))))))))))))))))))))
 (fun J9 =>
(cond (decide (y ≤ hi)) (ld w4 (⟨4, 0, none⟩ : Addr) fun v10 => (cond (isIface v10) (Z [{ v := v10, recovered := false }] w4) False)) (J9 [] w4)))))
 (fun J5 =>
(cond (y == (0 : Int)) (ld w (⟨3, 0, none⟩ : Addr) fun v6 => (cond (isIface v6) (Z [{ v := v6, recovered := false }] w) False)) (J5 [] w))))))
theorem F216_link (Z : List PanicEntry → World → Prop) (hi : Int) (lo : Int) (y : Int) (w : World) (Q : Value → World → Prop) : fnEvZ Z Tryz.prog Tryz.f216 h216 [(.int .u64 hi), (.int .u64 lo), (.int .u64 y)] w Q = F216 Z hi lo y w Q := by kernel_rfl
theorem F216_calls {Z : List PanicEntry → World → Prop} {hi : Int} {lo : Int} {y : Int} {w : World} {Q : Value → World → Prop} (hF_ : F216 Z hi lo y w Q) : clz Z Tryz.prog 216 #[(.int .u64 hi), (.int .u64 lo), (.int .u64 y)] w Q :=
  calls_of_evZ (fn := Tryz.f216) Tryz.func216 h216 (args := [(.int .u64 hi), (.int .u64 lo), (.int .u64 y)]) (by rw [F216_link]; exact hF_)
def h58 : Hint := (.s .d (.s (.o (ofL [0, 1, 2, 3, 4, 5, 6, 7, 8, 9, 10] .nil)) (.s (.s .d (.l [(7, 4)] (.s (.j [(29, 4)] .d .d) .z))) (.s (.o (ofL [0, 1, 2, 3, 4, 5, 6, 7, 8, 9] .nil)) .d))))
set_option linter.unusedVariables false in
def F58 (Z : List PanicEntry → World → Prop) (x_0 : Option Addr) (x_0_n x_0_c : Nat) (x_1 : Option Addr) (x_1_n x_1_c : Nat) (n : Int) (w : World) (Q : Value → World → Prop) : Prop :=
 (nw w (.cells #[(.slice x_0 x_0_n x_0_c), (.slice x_1 x_1_n x_1_c)] 31) fun r1 w2 => (nw w2 (.cells #[(.int .i64 (0 : Int)), (.int .i64 (0 : Int))] 54) fun r3 w4 => (lv (0 : Int) fun y5 =>
(dw w4 fun w6 => (ld w6 (⟨r1, 0, none⟩ : Addr) fun v7 => asS v7 fun p8 n9 c10 => (ld w6 (Addr.add (⟨r1, 0, none⟩ : Addr) 1) fun v11 => asS v11 fun p12 n13 c14 => (ld w6 (Addr.add (⟨r1, 0, none⟩ : Addr) 1) fun v15 => asS v15 fun p16 n17 c18 => (dr p16 fun a19 => (bnd n n17 (ld w6 (Addr.add a19 (Int.toNat n * 5)) fun v20 => asY v20 fun s21 => (ld w6 (Addr.add (Addr.add a19 (Int.toNat n * 5)) 1) fun v22 => asS v22 fun p23 n24 c25 => (ld w6 (Addr.add (Addr.add a19 (Int.toNat n * 5)) 2) fun v26 => asI .i64 v26 fun x27 => (ld w6 (Addr.add (Addr.add a19 (Int.toNat n * 5)) 3) fun v28 => asS v28 fun p29 n30 c31 => (ld w6 (Addr.add (Addr.add a19 (Int.toNat n * 5)) 4) fun v32 => asS v32 fun p33 n34 c35 => (rn Tryz.prog (Instr.makeMap 206 none) w6 fun v36 w37 => asM v36 fun r38 => (hd w37 (Addr.add a19 (Int.toNat n * 5)) (.string s21) (hd w37 (Addr.add (Addr.add a19 (Int.toNat n * 5)) 1) (.slice p23 n24 c25) (hd w37 (Addr.add (Addr.add a19 (Int.toNat n * 5)) 2) (.int .i64 x27) (hd w37 (Addr.add (Addr.add a19 (Int.toNat n * 5)) 3) (.slice p29 n30 c31) (hd w37 (Addr.add (Addr.add a19 (Int.toNat n * 5)) 4) (.slice p33 n34 c35) (hd w37 (Addr.add (⟨r1, 0, none⟩ : Addr) 1) (.slice p16 n17 c18) (hd w37 (⟨r1, 0, none⟩ : Addr) (.slice p8 n9 c10) (hd w37 (Addr.add (⟨r1, 0, none⟩ : Addr) 1) (.slice p12 n13 c14) (nw w37 (.cells #[(.slice p8 n9 c10), (.slice p12 n13 c14), (.string s21), (.slice p23 n24 c25), (.int .i64 x27), (.slice p29 n30 c31), (.slice p33 n34 c35), (.int .i64 n), (.map r38), (.slice none 0 0), (.int .i64 (0 : Int)), (.int .i64 (0 : Int)), (.int .i64 (0 : Int))] 211) fun r39 w40 => (hd w40 (Addr.add a19 (Int.toNat n * 5)) (.string s21) (hd w40 (Addr.add (Addr.add a19 (Int.toNat n * 5)) 1) (.slice p23 n24 c25) (hd w40 (Addr.add (Addr.add a19 (Int.toNat n * 5)) 2) (.int .i64 x27) (hd w40 (Addr.add (Addr.add a19 (Int.toNat n * 5)) 3) (.slice p29 n30 c31) (hd w40 (Addr.add (Addr.add a19 (Int.toNat n * 5)) 4) (.slice p33 n34 c35) (hd w40 (Addr.add (⟨r1, 0, none⟩ : Addr) 1) (.slice p16 n17 c18) (hd w40 (⟨r1, 0, none⟩ : Addr) (.slice p8 n9 c10) (hd w40 (Addr.add (⟨r1, 0, none⟩ : Addr) 1) (.slice p12 n13 c14)
(cl Tryz.prog 105 #[(.pointer (some (⟨r39, 0, none⟩ : Addr))), (.int .i64 (0 : Int)), (.int .i64 (0 : Int)), (.string (⟨#[]⟩ : ByteArray))] w40 fun v41 w42 => asB v41 fun b43 =>
(lp [(.bool b43)] w42 fun J46 s44 w45 => asB (s44.getD 0 undef) fun b47 => (jn (fun s48 w49 => asB (s48.getD 0 undef) fun b58 => (cond b58
(rn Tryz.prog (Instr.makeInterface 214 (.pointer (some (Addr.add (⟨r39, 0, none⟩ : Addr) 9)))) w49 fun v59 w60 => (clz Z Tryz.prog 108 #[v59] w60 fun v61 w62 => (rn Tryz.prog (Instr.typeAssert v61 20 3 false) w62 fun v63 w64 => asI .i64 v63 fun x65 => (clz Z Tryz.prog 107 #[(.pointer (some (⟨r39, 0, none⟩ : Addr))), (.int .i64 x65)] w64 fun v66 w67 => asB v66 fun b68 => (J46 [(.bool b68)] w67)))))
(dw w49 fun w69 => (ld w69 (Addr.add (⟨r39, 0, none⟩ : Addr) 11) fun v70 => asI .i64 v70 fun x71 => (ld w69 (Addr.add (Addr.add (⟨r39, 0, none⟩ : Addr) 11) 1) fun v72 => asI .i64 v72 fun x73 => (ld w69 (Addr.add (⟨r39, 0, none⟩ : Addr) 10) fun v74 => asI .i64 v74 fun x75 => (st w69 (⟨r3, 0, none⟩ : Addr) (.int .i64 x71) fun w76 => (st w76 (Addr.add (⟨r3, 0, none⟩ : Addr) 1) (.int .i64 x73) fun w77 => (hd w77 (Addr.add (⟨r39, 0, none⟩ : Addr) 10) (.int .i64 x75) (lv x75 fun y78 =>
(ld w77 (⟨r3, 0, none⟩ : Addr) fun v79 => asI .i64 v79 fun x80 => (ld w77 (Addr.add (⟨r3, 0, none⟩ : Addr) 1) fun v81 => asI .i64 v81 fun x82 => (Q (.tuple #[(.agg #[(.int .i64 x80), (.int .i64 x82)]), (.int .i64 y78)]) w77)))))))))))))
 (fun J50 => (cond b47 (ld w45 (Addr.add (⟨r39, 0, none⟩ : Addr) 9) fun v51 => asS v51 fun p52 n53 c54 => (cl Tryz.prog 106 #[(.slice p52 n53 c54)] w45 fun v55 w56 => asI .i64 v55 fun x57 => (J50 [(.bool (decide (x57 > (0 : Int))))] w56))) (J50 [(.bool false)] w45))))))))))))))))))))))))))))))))))))))
theorem F58_link (Z : List PanicEntry → World → Prop) (x_0 : Option Addr) (x_0_n x_0_c : Nat) (x_1 : Option Addr) (x_1_n x_1_c : Nat) (n : Int) (w : World) (Q : Value → World → Prop) : fnEvZ Z Tryz.prog Tryz.f58 h58 [(.agg #[(.slice x_0 x_0_n x_0_c), (.slice x_1 x_1_n x_1_c)]), (.int .i64 n)] w Q = F58 Z x_0 x_0_n x_0_c x_1 x_1_n x_1_c n w Q := by kernel_rfl
theorem F58_calls {Z : List PanicEntry → World → Prop} {x_0 : Option Addr} {x_0_n x_0_c : Nat} {x_1 : Option Addr} {x_1_n x_1_c : Nat} {n : Int} {w : World} {Q : Value → World → Prop} (hF_ : F58 Z x_0 x_0_n x_0_c x_1 x_1_n x_1_c n w Q) : clz Z Tryz.prog 58 #[(.agg #[(.slice x_0 x_0_n x_0_c), (.slice x_1 x_1_n x_1_c)]), (.int .i64 n)] w Q :=
  calls_of_evZ (fn := Tryz.f58) Tryz.func58 h58 (args := [(.agg #[(.slice x_0 x_0_n x_0_c), (.slice x_1 x_1_n x_1_c)]), (.int .i64 n)]) (by rw [F58_link]; exact hF_)
def h107 : Hint := (.s .d (.s (.o (ofL [0, 1, 2, 3, 4, 5, 6, 7, 8, 9, 10, 11, 12, 13, 14, 15, 16] .nil)) (.s .z (.j [(10, 4)] .d (.s (.j [(40, 4)] .d .d) (.s .d (.s .z (.s (.j [(93, 4)] .d .d) (.s .d (.s (.j [(116, 4)] .d .d) (.j [(4, 4)] .d .d)))))))))))
set_option linter.unusedVariables false in
def F107 (Z : List PanicEntry → World → Prop) (l : Option Addr) (at' : Int) (w : World) (Q : Value → World → Prop) : Prop :=
(dw w fun w1 => (dr l fun a2 => (ld w1 (Addr.add (Addr.add a2 2) 4) fun v3 => asS v3 fun p4 n5 c6 => (dr p4 fun a7 => (bnd at' n5 (ld w1 (Addr.add a7 (Int.toNat at' * 3)) fun v8 => asI .i64 v8 fun x9 => (ld w1 (Addr.add (Addr.add a7 (Int.toNat at' * 3)) 1) fun v10 => asI .i64 v10 fun x11 => (ld w1 (Addr.add (Addr.add a7 (Int.toNat at' * 3)) 2) fun v12 => asI .i64 v12 fun x13 => (dr l fun a14 => (ld w1 (Addr.add a14 8) fun v15 => asM v15 fun r16 => (rq Tryz.prog (Instr.lookup 206 (.map r16) (.int .i64 at') false) w1 fun v17 => asY v17 fun s18 => (nw w1 (.cells #[(.int .i64 (0 : Int)), (.int .i64 (0 : Int)), (.int .i64 (0 : Int))] 81) fun r19 w20 => (hr Tryz.prog w20 (Instr.lookup 206 (.map r16) (.int .i64 at') false) (.string s18) (hd w20 (Addr.add a14 8) (.map r16) (hd w20 (Addr.add a7 (Int.toNat at' * 3)) (.int .i64 x9) (hd w20 (Addr.add (Addr.add a7 (Int.toNat at' * 3)) 1) (.int .i64 x11) (hd w20 (Addr.add (Addr.add a7 (Int.toNat at' * 3)) 2) (.int .i64 x13) (hd w20 (Addr.add (Addr.add a2 2) 4) (.slice p4 n5 c6) (st w20 (⟨r19, 0, none⟩ : Addr) (.int .i64 x9) fun w21 => (st w21 (Addr.add (⟨r19, 0, none⟩ : Addr) 1) (.int .i64 x11) fun w22 => (st w22 (Addr.add (⟨r19, 0, none⟩ : Addr) 2) (.int .i64 x13) fun w23 => (hr Tryz.prog w23 (Instr.lookup 206 (.map r16) (.int .i64 at') false) (.string s18) (hd w23 (Addr.add a14 8) (.map r16)
(ld w23 (⟨r19, 0, none⟩ : Addr) fun v24 => asI .i64 v24 fun x25 => (ld w23 (Addr.add (⟨r19, 0, none⟩ : Addr) 1) fun v26 => asI .i64 v26 fun x27 => (ld w23 (Addr.add (⟨r19, 0, none⟩ : Addr) 2) fun v28 => asI .i64 v28 fun x29 => (clz Z Tryz.prog 157 #[(.pointer l), (.agg #[(.int .i64 x25), (.int .i64 x27), (.int .i64 x29)])] w23 fun v30 w31 => asT 3 v30 fun t32 => asY (t32 0) fun s33 => asY (t32 1) fun s34 => asB (t32 2) fun b35 =>
(jn (fun s36 w37 => asB (s36.getD 0 undef) fun b43 => (jn (fun s44 w45 => asB (s44.getD 0 undef) fun b47 => (cond b47 (cl Tryz.prog 155 #[(.pointer l), (.int .i64 (161 : Int)), (.int .i64 at')] w45 fun v48 w49 => asB v48 fun b50 =>
(Q (.bool b50) w49))
(cond (!b35) (cl Tryz.prog 155 #[(.pointer l), (.int .i64 (163 : Int)), (.int .i64 at')] w45 fun v51 w52 => asB v51 fun b53 =>
(Q (.bool b53) w52)) (cl Tryz.prog 158 #[(.string s18), (.string s33)] w45 fun v54 w55 => asB v54 fun b56 =>
(cond (!b56) (cl Tryz.prog 155 #[(.pointer l), (.int .i64 (162 : Int)), (.int .i64 at')] w55 fun v57 w58 => asB v57 fun b59 =>
(Q (.bool b59) w58))
(dr l fun a60 => (ld w55 (Addr.add a60 10) fun v61 => asI .i64 v61 fun x62 => (dr l fun a63 => (st w55 (Addr.add a63 10) (.int .i64 (if (ByteArray.size s18 : Int) > x62 then (ByteArray.size s18 : Int) else x62)) fun w64 =>
(bn2 (IntKind.wrap .i64 ((ByteArray.size s18 : Int) - (ByteArray.size s33 : Int))) (ByteArray.size s18) (rn Tryz.prog (Op.stringOp .add (ByteArray.extract s18 0 (Int.toNat (IntKind.wrap .i64 ((ByteArray.size s18 : Int) - (ByteArray.size s33 : Int))))) s34) w64 fun v65 w66 => asY v65 fun s67 =>
(jn (fun s68 w69 => asB (s68.getD 0 undef) fun b73 => (cond b73 (cl Tryz.prog 155 #[(.pointer l), (.int .i64 (162 : Int)), (.int .i64 at')] w69 fun v74 w75 => asB v74 fun b76 =>
(Q (.bool b76) w75))
(dr l fun a77 => (ld w69 (Addr.add a77 10) fun v78 => asI .i64 v78 fun x79 => (dr l fun a80 => (st w69 (Addr.add a80 10) (.int .i64 (if (ByteArray.size s67 : Int) > x79 then (ByteArray.size s67 : Int) else x79)) fun w81 =>
(jn (fun s82 w83 => asB (s82.getD 0 undef) fun b90 => (cond b90
(Q (.bool false) w83)
(jn (fun s91 w92 => asB (s91.getD 0 undef) fun b101 => (Q (.bool b101) w92))
 (fun J93 => (ld w83 (⟨r19, 0, none⟩ : Addr) fun v94 => asI .i64 v94 fun x95 => (cond (x95 == (28 : Int)) (J93 [(.bool true)] w83) (ld w83 (⟨r19, 0, none⟩ : Addr) fun v96 => asI .i64 v96 fun x97 => (cond (x97 == (32 : Int)) (J93 [(.bool true)] w83) (cl Tryz.prog 105 #[(.pointer l), (.int .i64 at'), (.int .i64 (IntKind.wrap .i64 (at' + (1 : Int)))), (.string s67)] w83 fun v98 w99 => asB v98 fun b100 => (J93 [(.bool b100)] w99))))))))))
 (fun J84 => (cond b43 (ld w81 (Addr.add (⟨r19, 0, none⟩ : Addr) 1) fun v85 => asI .i64 v85 fun x86 => (cl Tryz.prog 105 #[(.pointer l), (.int .i64 at'), (.int .i64 x86), (.string s67)] w81 fun v87 w88 => asB v87 fun b89 => (J84 [(.bool (!b89))] w88))) (J84 [(.bool false)] w81))))))))))
 (fun J70 => (cond (decide ((ByteArray.size s67 : Int) > (400 : Int))) (J70 [(.bool true)] w66) (ld w66 (⟨r19, 0, none⟩ : Addr) fun v71 => asI .i64 v71 fun x72 => (cond (x72 == (32 : Int)) (J70 [(.bool (!(ByteArray.toList s67 == ByteArray.toList (⟨#[]⟩ : ByteArray))))] w66) (J70 [(.bool false)] w66)))))))))))))))))
 (fun J46 => (cond (!b35) (J46 [(.bool b43)] w37) (J46 [(.bool false)] w37)))))
 (fun J38 => (ld w31 (⟨r19, 0, none⟩ : Addr) fun v39 => asI .i64 v39 fun x40 => (cond (x40 == (28 : Int)) (J38 [(.bool true)] w31) (ld w31 (⟨r19, 0, none⟩ : Addr) fun v41 => asI .i64 v41 fun x42 => (J38 [(.bool (x42 == (29 : Int)))] w31)))))))))))))))))))))))))))))))))
theorem F107_link (Z : List PanicEntry → World → Prop) (l : Option Addr) (at' : Int) (w : World) (Q : Value → World → Prop) : fnEvZ Z Tryz.prog Tryz.f107 h107 [(.pointer l), (.int .i64 at')] w Q = F107 Z l at' w Q := by kernel_rfl
theorem F107_calls {Z : List PanicEntry → World → Prop} {l : Option Addr} {at' : Int} {w : World} {Q : Value → World → Prop} (hF_ : F107 Z l at' w Q) : clz Z Tryz.prog 107 #[(.pointer l), (.int .i64 at')] w Q :=
  calls_of_evZ (fn := Tryz.f107) Tryz.func107 h107 (args := [(.pointer l), (.int .i64 at')]) (by rw [F107_link]; exact hF_)
def h108 : Hint := (.s .d (.s .z (.s .z (.s .z (.s .z .d)))))
set_option linter.unusedVariables false in
def F108 (Z : List PanicEntry → World → Prop) (h : Value) (w : World) (Q : Value → World → Prop) : Prop :=
 (lvv Value.nilIface fun y1 =>
(clm Z Tryz.prog "Len" #[h] w fun v2 w3 => asI .i64 v2 fun x4 => (lv (IntKind.wrap .i64 (x4 - (1 : Int))) fun n_5 =>
(clm Z Tryz.prog "Swap" #[h, (.int .i64 (0 : Int)), (.int .i64 n_5)] w3 fun v6 w7 =>
(clz Z Tryz.prog 159 #[h, (.int .i64 (0 : Int)), (.int .i64 n_5)] w7 fun v8 w9 => asB v8 fun b10 =>
(clm Z Tryz.prog "Pop" #[h] w9 fun v11 w12 => (lvv v11 fun y13 =>
(Q y13 w12))))))))
theorem F108_link (Z : List PanicEntry → World → Prop) (h : Value) (w : World) (Q : Value → World → Prop) : fnEvZ Z Tryz.prog Tryz.f108 h108 [h] w Q = F108 Z h w Q := by kernel_rfl
theorem F108_calls {Z : List PanicEntry → World → Prop} {h : Value} {w : World} {Q : Value → World → Prop} (hF_ : F108 Z h w Q) : clz Z Tryz.prog 108 #[h] w Q :=
  calls_of_evZ (fn := Tryz.f108) Tryz.func108 h108 (args := [h]) (by rw [F108_link]; exact hF_)
def h156 : Hint := (.s .z .z)
set_option linter.unusedVariables false in
def F156 (Z : List PanicEntry → World → Prop) (h : Value) (x : Value) (w : World) (Q : Value → World → Prop) : Prop :=
 (clm Z Tryz.prog "Push" #[h, x] w fun v1 w2 =>
(clm Z Tryz.prog "Len" #[h] w2 fun v3 w4 => asI .i64 v3 fun x5 => (clz Z Tryz.prog 206 #[h, (.int .i64 (IntKind.wrap .i64 (x5 - (1 : Int))))] w4 fun v6 w7 => (Q (.tuple #[]) w7))))
theorem F156_link (Z : List PanicEntry → World → Prop) (h : Value) (x : Value) (w : World) (Q : Value → World → Prop) : fnEvZ Z Tryz.prog Tryz.f156 h156 [h, x] w Q = F156 Z h x w Q := by kernel_rfl
theorem F156_calls {Z : List PanicEntry → World → Prop} {h : Value} {x : Value} {w : World} {Q : Value → World → Prop} (hF_ : F156 Z h x w Q) : clz Z Tryz.prog 156 #[h, x] w Q :=
  calls_of_evZ (fn := Tryz.f156) Tryz.func156 h156 (args := [h, x]) (by rw [F156_link]; exact hF_)
def h157 : Hint := (.s .d (.s .d (.s (.s .d (.s .d (.s (.j [(8, 4)] .d .d) (.j [(58, 4)] .d (.s (.s (.j [(74, 4)] (.o (ofL [0, 1, 2, 3, 4, 5, 6, 7, 8, 9, 10, 11, 12, 13] .nil)) .d) (.s (.o (ofL [0, 1, 2, 3, 4, 5, 6, 7, 8, 9, 10, 11] .nil)) .d)) (.s .d (.s (.s .d (.j [(4, 9), (5, 9), (6, 4)] .d .d)) (.s .d (.s (.s .d (.j [(4, 9), (5, 9), (6, 4)] .d .d)) (.s .d (.s (.s .d (.j [(4, 9), (5, 9), (6, 4)] .d .d)) (.s .d (.s (.s .d (.j [(4, 9), (5, 9), (6, 4)] .z .d)) (.j [(142, 4)] .d (.s (.s .d (.j [(4, 9), (5, 9), (6, 4)] (.o (ofL [0, 1, 2, 3, 4, 5, 6, 7, 8, 9, 10, 11, 12, 13, 14, 15, 16, 17, 18, 19, 20] .nil)) .d)) (.s .d (.s (.s (.j [(182, 4)] (.o (ofL [0, 1, 2, 3, 4, 5, 6, 7, 8, 9, 10, 11, 12, 13] .nil)) .d) (.s (.o (ofL [0, 1, 2, 3, 4, 5, 6, 7, 8, 9, 10] .nil)) (.s (.o (ofL [0, 1, 3, 4, 6, 2, 5, 7, 8, 9] .nil)) .d))) (.s .d (.s (.s .d (.s (.j [(211, 4)] .d .d) (.s (.o (ofL [0, 1, 2, 3, 4, 5, 7, 8, 9, 10, 11, 12, 14, 6, 13, 15, 16, 17] .nil)) .d))) (.s .d (.s (.j [(4, 9), (5, 9), (6, 4)] (.o (ofL [0, 1, 2, 3, 4, 6, 5, 7, 8, 9, 10, 11, 12, 13, 14] .nil)) .d) .d))))))))))))))))))))) (.j [(4, 9), (5, 9), (6, 4)] (.o (ofL [0, 1, 2, 3, 4, 5, 6, 7, 8, 9, 10, 11, 12, 13, 14, 15, 16, 17, 18] .nil)) .d))))
set_option linter.unusedVariables false in
def F157 (Z : List PanicEntry → World → Prop) (l : Option Addr) (i_0 : Int) (i_1 : Int) (i_2 : Int) (w : World) (Q : Value → World → Prop) : Prop :=
 (nw w (.cells #[(.int .i64 i_0), (.int .i64 i_1), (.int .i64 i_2)] 81) fun r1 w2 =>
(ld w2 (Addr.add (⟨r1, 0, none⟩ : Addr) 2) fun v3 => asI .i64 v3 fun x4 =>
(ld w2 (⟨r1, 0, none⟩ : Addr) fun v5 => asI .i64 v5 fun x6 =>
(cond (x6 == (1 : Int)) (jn (fun s7 w8 => asB (s7.getD 0 undef) fun b26 => (ld w8 (Addr.add (⟨r1, 0, none⟩ : Addr) 2) fun v27 => asI .i64 v27 fun x28 => (nw w8 (.cells #[(.int .i64 x28)] 3) fun r29 w30 => (cl Tryz.prog 207 #[(.slice (some (⟨r29, 0, none⟩ : Addr)) 1 1)] w30 fun v31 w32 => asY v31 fun s33 =>
(Q (.tuple #[(.string (⟨#[]⟩ : ByteArray)), (.string s33), (.bool b26)]) w32)))))
 (fun J9 => (ld w2 (Addr.add (⟨r1, 0, none⟩ : Addr) 2) fun v10 => asI .i64 v10 fun x11 => (cond (x11 == (1 : Int)) (J9 [(.bool true)] w2) (ld w2 (Addr.add (⟨r1, 0, none⟩ : Addr) 2) fun v12 => asI .i64 v12 fun x13 => (cond (x13 == (2 : Int)) (J9 [(.bool true)] w2) (ld w2 (Addr.add (⟨r1, 0, none⟩ : Addr) 2) fun v14 => asI .i64 v14 fun x15 => (cond (x15 == (3 : Int)) (ld w2 (Addr.add (⟨r1, 0, none⟩ : Addr) 1) fun v16 => asI .i64 v16 fun x17 => (cond ((Go.bits .andNot .i64 x17 (1 : Int)) == (0 : Int)) (J9 [(.bool true)] w2) (ld w2 (Addr.add (⟨r1, 0, none⟩ : Addr) 2) fun v18 => asI .i64 v18 fun x19 => (cond (x19 == (4 : Int)) (ld w2 (Addr.add (⟨r1, 0, none⟩ : Addr) 1) fun v20 => asI .i64 v20 fun x21 => (J9 [(.bool (x21 == (0 : Int)))] w2)) (J9 [(.bool false)] w2))))) (ld w2 (Addr.add (⟨r1, 0, none⟩ : Addr) 2) fun v22 => asI .i64 v22 fun x23 => (cond (x23 == (4 : Int)) (ld w2 (Addr.add (⟨r1, 0, none⟩ : Addr) 1) fun v24 => asI .i64 v24 fun x25 => (J9 [(.bool (x25 == (0 : Int)))] w2)) (J9 [(.bool false)] w2))))))))))) (jn (fun s34 w35 => asB (s34.getD 0 undef) fun b37 => (cond b37 (jn (fun s38 w39 => asB (s38.getD 0 undef) fun b51 => (cond b51
(Q (.tuple #[(.string (⟨#[]⟩ : ByteArray)), (.string (⟨#[]⟩ : ByteArray)), (.bool false)]) w39)
(dw w39 fun w52 => (dr l fun a53 => (ld w52 (Addr.add (Addr.add a53 2) 3) fun v54 => asS v54 fun p55 n56 c57 => (ld w52 (Addr.add (⟨r1, 0, none⟩ : Addr) 1) fun v58 => asI .i64 v58 fun x59 => (dr p55 fun a60 => (bnd x59 n56 (ld w52 (Addr.add a60 (Int.toNat x59 * 1)) fun v61 => asI .i64 v61 fun x62 => (nw w52 (.cells #[(.int .i64 x62)] 3) fun r63 w64 => (hd w64 (Addr.add (⟨r1, 0, none⟩ : Addr) 1) (.int .i64 x59) (hd w64 (Addr.add (Addr.add a53 2) 3) (.slice p55 n56 c57) (cl Tryz.prog 207 #[(.slice (some (⟨r63, 0, none⟩ : Addr)) 1 1)] w64 fun v65 w66 => asY v65 fun s67 => (hd w66 (Addr.add (⟨r1, 0, none⟩ : Addr) 1) (.int .i64 x59) (hd w66 (Addr.add (Addr.add a53 2) 3) (.slice p55 n56 c57)
(ld w66 (⟨r1, 0, none⟩ : Addr) fun v68 => asI .i64 v68 fun x69 =>
(cond (x69 == (3 : Int))
(Q (.tuple #[(.string s67), (.string (⟨#[]⟩ : ByteArray)), (.bool (x4 == (0 : Int)))]) w66)
(Q (.tuple #[(.string (⟨#[]⟩ : ByteArray)), (.string s67), (.bool (x4 == (0 : Int)))]) w66))))))))))))))))))
 (fun J40 => (dw w35 fun w41 => (ld w41 (Addr.add (⟨r1, 0, none⟩ : Addr) 1) fun v42 => asI .i64 v42 fun x43 => (cond (decide (x43 < (0 : Int))) (J40 [(.bool true)] w41) (ld w41 (Addr.add (⟨r1, 0, none⟩ : Addr) 1) fun v44 => asI .i64 v44 fun x45 => (dr l fun a46 => (ld w41 (Addr.add (Addr.add a46 2) 3) fun v47 => asS v47 fun p48 n49 c50 => (J40 [(.bool (decide (x45 ≥ (n49 : Int))))] w41)))))))))
(cond (x6 == (4 : Int)) (ld w35 (Addr.add (⟨r1, 0, none⟩ : Addr) 1) fun v70 => asI .i64 v70 fun x71 => (cl Tryz.prog 208 #[(.pointer l), (.int .i64 x71), (.bool false)] w35 fun v72 w73 => asY v72 fun s74 =>
(jn (fun s75 w76 => asY (s75.getD 0 undef) fun s78 => asY (s75.getD 1 undef) fun s79 => asB (s75.getD 2 undef) fun b80 => (Q (.tuple #[(.string s78), (.string s79), (.bool b80)]) w76))
 (fun J77 => (cond (x4 == (0 : Int)) (J77 [(.string (⟨#[]⟩ : ByteArray)), (.string s74), (.bool (!(ByteArray.toList s74 == ByteArray.toList (⟨#[]⟩ : ByteArray))))] w73) (J77 [(.string (⟨#[]⟩ : ByteArray)), (.string s74), (.bool false)] w73))))))
(cond (x6 == (5 : Int)) (ld w35 (Addr.add (⟨r1, 0, none⟩ : Addr) 1) fun v81 => asI .i64 v81 fun x82 => (cl Tryz.prog 208 #[(.pointer l), (.int .i64 x82), (.bool false)] w35 fun v83 w84 => asY v83 fun s85 =>
(jn (fun s86 w87 => asY (s86.getD 0 undef) fun s89 => asY (s86.getD 1 undef) fun s90 => asB (s86.getD 2 undef) fun b91 => (Q (.tuple #[(.string s89), (.string s90), (.bool b91)]) w87))
 (fun J88 => (cond (x4 == (0 : Int)) (J88 [(.string s85), (.string (⟨#[]⟩ : ByteArray)), (.bool (!(ByteArray.toList s85 == ByteArray.toList (⟨#[]⟩ : ByteArray))))] w84) (J88 [(.string s85), (.string (⟨#[]⟩ : ByteArray)), (.bool false)] w84))))))
(cond (x6 == (6 : Int)) (ld w35 (Addr.add (⟨r1, 0, none⟩ : Addr) 1) fun v92 => asI .i64 v92 fun x93 => (cl Tryz.prog 208 #[(.pointer l), (.int .i64 x93), (.bool true)] w35 fun v94 w95 => asY v94 fun s96 =>
(jn (fun s97 w98 => asY (s97.getD 0 undef) fun s100 => asY (s97.getD 1 undef) fun s101 => asB (s97.getD 2 undef) fun b102 => (Q (.tuple #[(.string s100), (.string s101), (.bool b102)]) w98))
 (fun J99 => (cond (x4 == (0 : Int)) (J99 [(.string (⟨#[105]⟩ : ByteArray)), (.string s96), (.bool (!(ByteArray.toList s96 == ByteArray.toList (⟨#[]⟩ : ByteArray))))] w95) (J99 [(.string (⟨#[105]⟩ : ByteArray)), (.string s96), (.bool false)] w95))))))
(cond (x6 == (7 : Int)) (ld w35 (Addr.add (⟨r1, 0, none⟩ : Addr) 1) fun v103 => asI .i64 v103 fun x104 => (cl Tryz.prog 208 #[(.pointer l), (.int .i64 x104), (.bool true)] w35 fun v105 w106 => asY v105 fun s107 =>
(jn (fun s108 w109 => asY (s108.getD 0 undef) fun s114 => asY (s108.getD 1 undef) fun s115 => asB (s108.getD 2 undef) fun b116 => (Q (.tuple #[(.string s114), (.string s115), (.bool b116)]) w109))
 (fun J110 => (rn Tryz.prog (Op.stringOp .add (⟨#[105]⟩ : ByteArray) s107) w106 fun v111 w112 => asY v111 fun s113 => (cond (x4 == (0 : Int)) (J110 [(.string s113), (.string (⟨#[]⟩ : ByteArray)), (.bool (!(ByteArray.toList s107 == ByteArray.toList (⟨#[]⟩ : ByteArray))))] w112) (J110 [(.string s113), (.string (⟨#[]⟩ : ByteArray)), (.bool false)] w112))))))) (jn (fun s117 w118 => asB (s117.getD 0 undef) fun b120 => (cond b120 (ld w118 (⟨r1, 0, none⟩ : Addr) fun v121 => asI .i64 v121 fun x122 => (cl Tryz.prog 209 #[(.string (⟨#[98]⟩ : ByteArray)), (.int .i64 (IntKind.wrap .i64 (x122 - (28 : Int))))] w118 fun v123 w124 => asY v123 fun s125 =>
(jn (fun s126 w127 => asY (s126.getD 0 undef) fun s139 => asY (s126.getD 1 undef) fun s140 => asB (s126.getD 2 undef) fun b141 => (Q (.tuple #[(.string s139), (.string s140), (.bool b141)]) w127))
 (fun J128 => (dw w124 fun w129 => (cond (x4 == (0 : Int)) (ld w129 (Addr.add (⟨r1, 0, none⟩ : Addr) 1) fun v130 => asI .i64 v130 fun x131 => (cond (decide ((0 : Int) ≤ x131)) (ld w129 (Addr.add (⟨r1, 0, none⟩ : Addr) 1) fun v132 => asI .i64 v132 fun x133 => (dr l fun a134 => (ld w129 (Addr.add (Addr.add a134 2) 4) fun v135 => asS v135 fun p136 n137 c138 => (J128 [(.string s125), (.string (⟨#[]⟩ : ByteArray)), (.bool (decide (x133 < (n137 : Int))))] w129)))) (J128 [(.string s125), (.string (⟨#[]⟩ : ByteArray)), (.bool false)] w129))) (J128 [(.string s125), (.string (⟨#[]⟩ : ByteArray)), (.bool false)] w129)))))))
(cond (x6 == (30 : Int)) (jn (fun s142 w143 => asB (s142.getD 0 undef) fun b155 => (cond b155
(Q (.tuple #[(.string (⟨#[]⟩ : ByteArray)), (.string (⟨#[]⟩ : ByteArray)), (.bool false)]) w143)
(dw w143 fun w156 => (dr l fun a157 => (ld w156 (Addr.add a157 1) fun v158 => asS v158 fun p159 n160 c161 => (ld w156 (Addr.add (⟨r1, 0, none⟩ : Addr) 1) fun v162 => asI .i64 v162 fun x163 => (dr p159 fun a164 => (bnd x163 n160 (ld w156 (Addr.add a164 (Int.toNat x163 * 5)) fun v165 => asY v165 fun s166 => (ld w156 (Addr.add (Addr.add a164 (Int.toNat x163 * 5)) 1) fun v167 => asS v167 fun p168 n169 c170 => (ld w156 (Addr.add (Addr.add a164 (Int.toNat x163 * 5)) 2) fun v171 => asI .i64 v171 fun x172 => (ld w156 (Addr.add (Addr.add a164 (Int.toNat x163 * 5)) 3) fun v173 => asS v173 fun p174 n175 c176 => (ld w156 (Addr.add (Addr.add a164 (Int.toNat x163 * 5)) 4) fun v177 => asS v177 fun p178 n179 c180 => (nw w156 (.cells #[(.string ByteArray.empty), (.slice none 0 0), (.int .i64 (0 : Int)), (.slice none 0 0), (.slice none 0 0)] 42) fun r181 w182 => (hd w182 (Addr.add a164 (Int.toNat x163 * 5)) (.string s166) (hd w182 (Addr.add (Addr.add a164 (Int.toNat x163 * 5)) 1) (.slice p168 n169 c170) (hd w182 (Addr.add (Addr.add a164 (Int.toNat x163 * 5)) 2) (.int .i64 x172) (hd w182 (Addr.add (Addr.add a164 (Int.toNat x163 * 5)) 3) (.slice p174 n175 c176) (hd w182 (Addr.add (Addr.add a164 (Int.toNat x163 * 5)) 4) (.slice p178 n179 c180) (hd w182 (Addr.add (⟨r1, 0, none⟩ : Addr) 1) (.int .i64 x163) (hd w182 (Addr.add a157 1) (.slice p159 n160 c161) (st w182 (⟨r181, 0, none⟩ : Addr) (.string s166) fun w183 => (st w183 (Addr.add (⟨r181, 0, none⟩ : Addr) 1) (.slice p168 n169 c170) fun w184 => (st w184 (Addr.add (⟨r181, 0, none⟩ : Addr) 2) (.int .i64 x172) fun w185 => (st w185 (Addr.add (⟨r181, 0, none⟩ : Addr) 3) (.slice p174 n175 c176) fun w186 => (st w186 (Addr.add (⟨r181, 0, none⟩ : Addr) 4) (.slice p178 n179 c180) fun w187 =>
(dw w187 fun w188 => (ld w188 (Addr.add (⟨r181, 0, none⟩ : Addr) 1) fun v189 => asS v189 fun p190 n191 c192 => (ld w188 (Addr.add (⟨r181, 0, none⟩ : Addr) 2) fun v193 => asI .i64 v193 fun x194 => (cl Tryz.prog 207 #[(.slice p190 n191 c192)] w188 fun v195 w196 => asY v195 fun s197 => (hd w196 (Addr.add (⟨r181, 0, none⟩ : Addr) 2) (.int .i64 x194) (cl Tryz.prog 210 #[(.int .i64 x194)] w196 fun v198 w199 => asY v198 fun s200 =>
(Q (.tuple #[(.string s197), (.string s200), (.bool (x4 == (0 : Int)))]) w199)))))))))))))))))))))))))))))))))
 (fun J144 => (dw w118 fun w145 => (ld w145 (Addr.add (⟨r1, 0, none⟩ : Addr) 1) fun v146 => asI .i64 v146 fun x147 => (cond (decide (x147 < (0 : Int))) (J144 [(.bool true)] w145) (ld w145 (Addr.add (⟨r1, 0, none⟩ : Addr) 1) fun v148 => asI .i64 v148 fun x149 => (dr l fun a150 => (ld w145 (Addr.add a150 1) fun v151 => asS v151 fun p152 n153 c154 => (J144 [(.bool (decide (x149 ≥ (n153 : Int))))] w145)))))))))
(cond (x6 == (31 : Int)) (cl Tryz.prog 21 #[] w118 fun v201 w202 => asS v201 fun p203 n204 c205 =>
(jn (fun s206 w207 => asB (s206.getD 0 undef) fun b213 => (cond b213
(Q (.tuple #[(.string (⟨#[]⟩ : ByteArray)), (.string (⟨#[]⟩ : ByteArray)), (.bool false)]) w207)
(dw w207 fun w214 => (ld w214 (Addr.add (⟨r1, 0, none⟩ : Addr) 1) fun v215 => asI .i64 v215 fun x216 => (dr p203 fun a217 => (bnd x216 n204 (ld w214 (Addr.add (Addr.add a217 (Int.toNat x216 * 3)) 1) fun v218 => asS v218 fun p219 n220 c221 => (ld w214 (Addr.add (⟨r1, 0, none⟩ : Addr) 1) fun v222 => asI .i64 v222 fun x223 => (dr p203 fun a224 => (bnd x223 n204 (ld w214 (Addr.add (Addr.add a224 (Int.toNat x223 * 3)) 2) fun v225 => asI .i64 v225 fun x226 => (cl Tryz.prog 207 #[(.slice p219 n220 c221)] w214 fun v227 w228 => asY v227 fun s229 => (hd w228 (Addr.add (Addr.add a224 (Int.toNat x223 * 3)) 2) (.int .i64 x226) (hd w228 (Addr.add (⟨r1, 0, none⟩ : Addr) 1) (.int .i64 x223) (hd w228 (Addr.add (⟨r1, 0, none⟩ : Addr) 1) (.int .i64 x216) (cl Tryz.prog 210 #[(.int .i64 x226)] w228 fun v230 w231 => asY v230 fun s232 => (hd w231 (Addr.add (⟨r1, 0, none⟩ : Addr) 1) (.int .i64 x223) (hd w231 (Addr.add (⟨r1, 0, none⟩ : Addr) 1) (.int .i64 x216)
(Q (.tuple #[(.string s229), (.string s232), (.bool (x4 == (0 : Int)))]) w231)))))))))))))))))))
 (fun J208 => (ld w202 (Addr.add (⟨r1, 0, none⟩ : Addr) 1) fun v209 => asI .i64 v209 fun x210 => (cond (decide (x210 < (0 : Int))) (J208 [(.bool true)] w202) (ld w202 (Addr.add (⟨r1, 0, none⟩ : Addr) 1) fun v211 => asI .i64 v211 fun x212 => (J208 [(.bool (decide (x212 ≥ (n204 : Int))))] w202)))))))
(cond (x6 == (32 : Int)) (jn (fun s233 w234 => asY (s233.getD 0 undef) fun s245 => asY (s233.getD 1 undef) fun s246 => asB (s233.getD 2 undef) fun b247 => (Q (.tuple #[(.string s245), (.string s246), (.bool b247)]) w234))
 (fun J235 => (dw w118 fun w236 => (dr l fun a237 => (ld w236 (Addr.add (Addr.add a237 2) 2) fun v238 => asI .i64 v238 fun x239 => (cl Tryz.prog 210 #[(.int .i64 x239)] w236 fun v240 w241 => asY v240 fun s242 => (cond (x4 == (0 : Int)) (ld w241 (Addr.add (⟨r1, 0, none⟩ : Addr) 1) fun v243 => asI .i64 v243 fun x244 => (J235 [(.string s242), (.string (⟨#[]⟩ : ByteArray)), (.bool (x244 == (0 : Int)))] w241)) (J235 [(.string s242), (.string (⟨#[]⟩ : ByteArray)), (.bool false)] w241))))))))
(jn (fun s248 w249 => asY (s248.getD 0 undef) fun s262 => asY (s248.getD 1 undef) fun s263 => asB (s248.getD 2 undef) fun b264 => (Q (.tuple #[(.string s262), (.string s263), (.bool b264)]) w249))
 (fun J250 => (dw w118 fun w251 => (ld w251 (⟨r1, 0, none⟩ : Addr) fun v252 => asI .i64 v252 fun x253 => (bnd x253 34 (ld w251 (Addr.add (⟨1, 0, none⟩ : Addr) (Int.toNat x253 * 2)) fun v254 => asY v254 fun s255 => (ld w251 (⟨r1, 0, none⟩ : Addr) fun v256 => asI .i64 v256 fun x257 => (bnd x257 34 (ld w251 (Addr.add (Addr.add (⟨1, 0, none⟩ : Addr) (Int.toNat x257 * 2)) 1) fun v258 => asY v258 fun s259 => (cond (x4 == (0 : Int)) (ld w251 (Addr.add (⟨r1, 0, none⟩ : Addr) 1) fun v260 => asI .i64 v260 fun x261 => (J250 [(.string s255), (.string s259), (.bool (x261 == (0 : Int)))] w251)) (J250 [(.string s255), (.string s259), (.bool false)] w251))))))))))))))))
 (fun J119 =>
(cond (x6 == (28 : Int)) (J119 [(.bool (x6 == (28 : Int)))] w35) (J119 [(.bool (x6 == (29 : Int)))] w35))))))))))
 (fun J36 =>
(cond (x6 == (2 : Int)) (J36 [(.bool (x6 == (2 : Int)))] w2) (J36 [(.bool (x6 == (3 : Int)))] w2))))))))
theorem F157_link (Z : List PanicEntry → World → Prop) (l : Option Addr) (i_0 : Int) (i_1 : Int) (i_2 : Int) (w : World) (Q : Value → World → Prop) : fnEvZ Z Tryz.prog Tryz.f157 h157 [(.pointer l), (.agg #[(.int .i64 i_0), (.int .i64 i_1), (.int .i64 i_2)])] w Q = F157 Z l i_0 i_1 i_2 w Q := by kernel_rfl
theorem F157_calls {Z : List PanicEntry → World → Prop} {l : Option Addr} {i_0 : Int} {i_1 : Int} {i_2 : Int} {w : World} {Q : Value → World → Prop} (hF_ : F157 Z l i_0 i_1 i_2 w Q) : clz Z Tryz.prog 157 #[(.pointer l), (.agg #[(.int .i64 i_0), (.int .i64 i_1), (.int .i64 i_2)])] w Q :=
  calls_of_evZ (fn := Tryz.f157) Tryz.func157 h157 (args := [(.pointer l), (.agg #[(.int .i64 i_0), (.int .i64 i_1), (.int .i64 i_2)])]) (by rw [F157_link]; exact hF_)
def h159 : Hint := (.s .d (.s .d (.j [(7, 3)] (.l [(7, 3)] (.s .d (.s (.j [(21, 4)] .d .d) (.s .d (.j [(9, 3)] (.s .d (.j [(33, 4)] .z .d)) (.s (.s .z .d) (.s .z .d))))))) .d)))
set_option linter.unusedVariables false in
def F159 (Z : List PanicEntry → World → Prop) (h : Value) (i0' : Int) (n : Int) (w : World) (Q : Value → World → Prop) : Prop :=
(lv i0' fun i_1 =>
(jn (fun s2 w3 => asI .i64 (s2.getD 0 undef) fun x34 =>
(Q (.bool (decide (x34 > i0'))) w3))
 (fun J4 => (lp [(.int .i64 i_1)] w fun J7 s5 w6 => asI .i64 (s5.getD 0 undef) fun x8 => (lv (IntKind.wrap .i64 ((IntKind.wrap .i64 ((2 : Int) * x8)) + (1 : Int))) fun j1_9 =>
(jn (fun s10 w11 => asB (s10.getD 0 undef) fun b13 => (cond b13 (J4 [(.int .i64 x8)] w11)
(lv j1_9 fun j_14 =>
(jn (fun s15 w16 => asI .i64 (s15.getD 0 undef) fun x27 => (clm Z Tryz.prog "Less" #[h, (.int .i64 x27), (.int .i64 x8)] w16 fun v28 w29 => asB v28 fun b30 =>
(cond (!b30) (J4 [(.int .i64 x8)] w29)
(clm Z Tryz.prog "Swap" #[h, (.int .i64 x8), (.int .i64 x27)] w29 fun v31 w32 =>
(lv x27 fun i_33 => (J7 [(.int .i64 i_33)] w32))))))
 (fun J17 => (lv (IntKind.wrap .i64 (j1_9 + (1 : Int))) fun j2_18 =>
(jn (fun s19 w20 => asB (s19.getD 0 undef) fun b25 => (cond b25 (lv j2_18 fun j_26 => (J17 [(.int .i64 j_26)] w20)) (J17 [(.int .i64 j_14)] w20)))
 (fun J21 => (cond (decide (j2_18 < n)) (clm Z Tryz.prog "Less" #[h, (.int .i64 j2_18), (.int .i64 j1_9)] w11 fun v22 w23 => asB v22 fun b24 => (J21 [(.bool b24)] w23)) (J21 [(.bool false)] w11))))))))))
 (fun J12 => (cond (decide (j1_9 ≥ n)) (J12 [(.bool true)] w6) (J12 [(.bool (decide (j1_9 < (0 : Int))))] w6)))))))))
theorem F159_link (Z : List PanicEntry → World → Prop) (h : Value) (i0' : Int) (n : Int) (w : World) (Q : Value → World → Prop) : fnEvZ Z Tryz.prog Tryz.f159 h159 [h, (.int .i64 i0'), (.int .i64 n)] w Q = F159 Z h i0' n w Q := by kernel_rfl
theorem F159_calls {Z : List PanicEntry → World → Prop} {h : Value} {i0' : Int} {n : Int} {w : World} {Q : Value → World → Prop} (hF_ : F159 Z h i0' n w Q) : clz Z Tryz.prog 159 #[h, (.int .i64 i0'), (.int .i64 n)] w Q :=
  calls_of_evZ (fn := Tryz.f159) Tryz.func159 h159 (args := [h, (.int .i64 i0'), (.int .i64 n)]) (by rw [F159_link]; exact hF_)
def h205 : Hint := (.s .d (.g 2 [(1, 252), (6, 3)] [.d, .d] (.s .d (.s .d (.s .d (.s .z .d))))))
set_option linter.unusedVariables false in
def F205 (Z : List PanicEntry → World → Prop) (b : Option Addr) (b_n b_c : Nat) (z : Int) (w : World) (Q : Value → World → Prop) : Prop :=
(nw w (.cells #[(.int .u8 (0 : Int)), (.int .u8 (0 : Int)), (.int .u8 (0 : Int)), (.int .u8 (0 : Int)), (.int .u8 (0 : Int)), (.int .u8 (0 : Int)), (.int .u8 (0 : Int)), (.int .u8 (0 : Int)), (.int .u8 (0 : Int)), (.int .u8 (0 : Int))] 338) fun r1 w2 => (lv (0 : Int) fun n_3 => (lp [(.int .u64 z), (.int .i64 n_3)] w2 fun J6 s4 w5 => asI .u64 (s4.getD 0 undef) fun x7 => asI .i64 (s4.getD 1 undef) fun x8 => (bnd x8 10 (st w5 (Addr.add (⟨r1, 0, none⟩ : Addr) (Int.toNat x8 * 1)) (.int .u8 (IntKind.wrap .u8 (Go.bits .and .u64 x7 (127 : Int)))) fun w9 =>
(lv (Int.fdiv x7 (2 ^ (min (Int.toNat (7 : Int)) 64))) fun z_10 =>
(cond (decide (z_10 > (0 : Int))) (bnd x8 10 (ld w9 (Addr.add (⟨r1, 0, none⟩ : Addr) (Int.toNat x8 * 1)) fun v11 => asI .u8 v11 fun x12 => (bnd x8 10 (st w9 (Addr.add (⟨r1, 0, none⟩ : Addr) (Int.toNat x8 * 1)) (.int .u8 (Go.bits .or .u8 x12 (128 : Int))) fun w13 =>
(lv (IntKind.wrap .i64 (x8 + (1 : Int))) fun n_14 =>
(J6 [(.int .u64 z_10), (.int .i64 n_14)] w13))))))
(rn Tryz.prog (Instr.sliceAt 338 (.pointer (some (⟨r1, 0, none⟩ : Addr))) none (some (.int .i64 (IntKind.wrap .i64 (x8 + (1 : Int))))) none) w9 fun v15 w16 => asS v15 fun p17 n18 c19 => (nw w16 (.cells #[(.slice b b_n b_c), (.slice p17 n18 c19)] 22) fun r20 w21 => (clz Z Tryz.prog 89 #[(.slice (some (⟨r20, 0, none⟩ : Addr)) 2 2)] w21 fun v22 w23 => asS v22 fun p24 n25 c26 =>
(Q (.slice p24 n25 c26) w23)))))))))))
theorem F205_link (Z : List PanicEntry → World → Prop) (b : Option Addr) (b_n b_c : Nat) (z : Int) (w : World) (Q : Value → World → Prop) : fnEvZ Z Tryz.prog Tryz.f205 h205 [(.slice b b_n b_c), (.int .u64 z)] w Q = F205 Z b b_n b_c z w Q := by kernel_rfl
theorem F205_calls {Z : List PanicEntry → World → Prop} {b : Option Addr} {b_n b_c : Nat} {z : Int} {w : World} {Q : Value → World → Prop} (hF_ : F205 Z b b_n b_c z w Q) : clz Z Tryz.prog 205 #[(.slice b b_n b_c), (.int .u64 z)] w Q :=
  calls_of_evZ (fn := Tryz.f205) Tryz.func205 h205 (args := [(.slice b b_n b_c), (.int .u64 z)]) (by rw [F205_link]; exact hF_)
def h206 : Hint := (.l [(1, 3)] (.s .d (.s (.j [(17, 4)] .z .d) (.s .z .d))))
set_option linter.unusedVariables false in
def F206 (Z : List PanicEntry → World → Prop) (h : Value) (j : Int) (w : World) (Q : Value → World → Prop) : Prop :=
 (lp [(.int .i64 j)] w fun J3 s1 w2 => asI .i64 (s1.getD 0 undef) fun x4 => (lv (IntKind.wrap .i64 (Int.tdiv (IntKind.wrap .i64 (x4 - (1 : Int))) (2 : Int))) fun i_5 =>
(jn (fun s6 w7 => asB (s6.getD 0 undef) fun b12 => (cond b12 (Q (.tuple #[]) w7)
(clm Z Tryz.prog "Swap" #[h, (.int .i64 i_5), (.int .i64 x4)] w7 fun v13 w14 =>
(lv i_5 fun j_15 => (J3 [(.int .i64 j_15)] w14)))))
 (fun J8 => (cond (i_5 == x4) (J8 [(.bool true)] w2) (clm Z Tryz.prog "Less" #[h, (.int .i64 x4), (.int .i64 i_5)] w2 fun v9 w10 => asB v9 fun b11 => (J8 [(.bool (!b11))] w10)))))))
theorem F206_link (Z : List PanicEntry → World → Prop) (h : Value) (j : Int) (w : World) (Q : Value → World → Prop) : fnEvZ Z Tryz.prog Tryz.f206 h206 [h, (.int .i64 j)] w Q = F206 Z h j w Q := by kernel_rfl
theorem F206_calls {Z : List PanicEntry → World → Prop} {h : Value} {j : Int} {w : World} {Q : Value → World → Prop} (hF_ : F206 Z h j w Q) : clz Z Tryz.prog 206 #[h, (.int .i64 j)] w Q :=
  calls_of_evZ (fn := Tryz.f206) Tryz.func206 h206 (args := [h, (.int .i64 j)]) (by rw [F206_link]; exact hF_)
def h278 : Hint := (.s .z (.s .d (.s .z .d)))
set_option linter.unusedVariables false in
def F278 (Z : List PanicEntry → World → Prop) (b : Option Addr) (w : World) (Q : Value → World → Prop) : Prop :=
 (dr b fun a1 => (ld w a1 fun v2 => asP v2 fun p3 => (rn Tryz.prog (eqGuard .eql 329 (Go.Operand.tmp 5) (Go.Operand.const (Go.Value.pointer none)) (.pointer p3) (.pointer none) >>= fun _ => binOp .eql 329 (.pointer p3) (.pointer none)) w fun v4 w5 => asB v4 fun b6 =>
(cond b6 (rn Tryz.prog (Go.convert 329 367 (.pointer b)) w5 fun v7 w8 => (xt Tryz.prog 297 #[v7] w8 fun v9 w10 => (rn Tryz.prog (Go.convert 367 329 v9) w10 fun v11 w12 => asP v11 fun p13 => (dr b fun a14 => (st w12 a14 (.pointer p13) fun w15 => (Q (.tuple #[]) w15)))))) (dr b fun a16 => (ld w5 a16 fun v17 => asP v17 fun p18 => (rn Tryz.prog (eqGuard .neq 329 (Go.Operand.tmp 17) (Go.Operand.tmp 18) (.pointer p18) (.pointer b) >>= fun _ => binOp .neq 329 (.pointer p18) (.pointer b)) w5 fun v19 w20 => asB v19 fun b21 =>
(cond b21 False (Q (.tuple #[]) w20)))))))))
theorem F278_link (Z : List PanicEntry → World → Prop) (b : Option Addr) (w : World) (Q : Value → World → Prop) : fnEvZ Z Tryz.prog Tryz.f278 h278 [(.pointer b)] w Q = F278 Z b w Q := by kernel_rfl
theorem F278_calls {Z : List PanicEntry → World → Prop} {b : Option Addr} {w : World} {Q : Value → World → Prop} (hF_ : F278 Z b w Q) : clz Z Tryz.prog 278 #[(.pointer b)] w Q :=
  calls_of_evZ (fn := Tryz.f278) Tryz.func278 h278 (args := [(.pointer b)]) (by rw [F278_link]; exact hF_)
end Go.Proofs.YtndbhmmejjhcfaaGreatDoor
namespace Go.Proofs.YtndbhmmejjhcfaaGreatDoor
open Go Go.Sx
theorem clz_cl {P : Program} {f : FuncId} {args : Array Value} {w : World} {K : Value → World → Prop} (h : clz (fun _ _ => False) P f args w K) : cl P f args w K :=
  Calls.mono h fun _ _ h => h.elim (fun h => h) fun ⟨_, _, h⟩ => h.elim
attribute [local irreducible] jn lv ld st nw asI asB asP asS asY asM asF asA asT lp rn ru rq cl dw dr bnd bn2 nz nn hd hr so eqW
def tab8 : List Nat := [0, 1, 2, 2, 3, 3, 3, 3] ++ List.replicate 8 4 ++ List.replicate 16 5 ++ List.replicate 32 6 ++ List.replicate 64 7 ++ List.replicate 128 8
theorem tab8_ok : ∀ b : Fin 256, b.val ≠ 0 → 1 ≤ tab8.getD b.val 0 ∧ 2 ^ (tab8.getD b.val 0 - 1) ≤ b.val ∧ b.val < 2 ^ tab8.getD b.val 0 := by decide +kernel
theorem shr_nat (m s : Nat) (hs : s ≤ 64) : Int.fdiv (m : Int) (2 ^ (min (Int.toNat (s : Int)) 64)) = ((m / 2 ^ s : Nat) : Int) := by
  rw [Int.toNat_natCast, Nat.min_eq_left hs, fdiv_pow, Nat.shiftRight_eq_div_pow]
theorem wu {n : Int} (h : 0 ≤ n) (h' : n < 18446744073709551616) : IntKind.wrap .u64 n = n := by rw [IntKind.wrap_u64]; omega
theorem wu_lt (n : Int) : 0 ≤ IntKind.wrap .u64 n ∧ IntKind.wrap .u64 n < 18446744073709551616 := by rw [IntKind.wrap_u64]; omega
theorem tab_use {A : ByteArray} (h1 : A.size = 256) (h2 : ∀ b : Fin 256, byteAt A (b.val : Int) = ((tab8.getD b.val 0 : Nat) : Int)) {b z : Nat} (hb : b < 256) (hz : z ≤ 56) {t : Nat} (ht : tab8.getD b 0 = t) (ht8 : t ≤ 8) {K : Int → Prop} (hK : K ((z + t : Nat) : Int)) :
    bnd (b : Int) (ByteArray.size A) (lv (IntKind.wrap .i64 ((z : Int) + IntKind.wrap .i64 (byteAt A (b : Int)))) K) := by
  have e := h2 ⟨b, hb⟩
  simp only [ht] at e
  rw [e, wr64 (n := (t : Int)) (by omega) (by omega), wr64 (by omega) (by omega)]
  exact bnd_mk (by omega) (by omega) (sp (by rw [Int.natCast_add] at hK; exact hK))
theorem len_k {m : Nat} (h1 : 1 ≤ m) (h2 : m < 2 ^ 64) {w : World} {K : Value → World → Prop} (hK : ∀ n : Nat, 1 ≤ n → n ≤ 64 → 2 ^ (n - 1) ≤ m → m < 2 ^ n → K (.int .i64 (n : Int)) w) :
    cl Tryz.prog 282 #[.int .u64 (m : Int)] w K := by
  apply F282_calls
  unfold F282
  refine sp ?_
  refine jn_of (fun s w' => w' = w ∧ ∃ z : Nat, s = [.int .u64 ((m / 2 ^ z : Nat) : Int), .int .i64 (z : Int)] ∧ z ≤ 32 ∧ m / 2 ^ z < 2 ^ 32 ∧ 1 ≤ m / 2 ^ z) ?_ ?_
  rotate_left
  · intro J hJ
    refine cond_split (fun h => ?_) (fun h => ?_)
    · have hd := of_decide_eq_true h
      refine sp (sp (hJ _ _ ⟨rfl, 32, ?_, by decide, by omega, ?_⟩))
      · exact congrArg (fun x => [Value.int .u64 x, .int .i64 ((32 : Nat) : Int)]) (shr_nat m 32 (by decide))
      · have : 4294967296 ≤ m := by omega
        exact (Nat.le_div_iff_mul_le (by decide)).2 (by omega)
    · have hd := of_decide_eq_false h
      exact hJ _ _ ⟨rfl, 0, by simp, by decide, by simp; omega, by simpa using h1⟩
  rintro _ w1 ⟨rfl, z, rfl, hz, hlt, hpos⟩
  refine sp (sp ?_)
  refine jn_of (fun s w' => w' = w1 ∧ ∃ z : Nat, s = [.int .u64 ((m / 2 ^ z : Nat) : Int), .int .i64 (z : Int)] ∧ z ≤ 48 ∧ m / 2 ^ z < 2 ^ 16 ∧ 1 ≤ m / 2 ^ z) ?_ ?_
  rotate_left
  · intro J hJ
    refine cond_split (fun h => ?_) (fun h => ?_)
    · have hd := of_decide_eq_true h
      refine sp (sp (hJ _ _ ⟨rfl, z + 16, ?_, by omega, ?_, ?_⟩))
      · have e := shr_nat (m / 2 ^ z) 16 (by decide)
        rw [Nat.div_div_eq_div_mul, ← Nat.pow_add] at e
        rw [show ((16 : Int)) = ((16 : Nat) : Int) from rfl, e, wr64 (by omega) (by omega)]
        simp
      · rw [Nat.pow_add, ← Nat.div_div_eq_div_mul]; omega
      · rw [Nat.pow_add, ← Nat.div_div_eq_div_mul]; omega
    · have hd := of_decide_eq_false h
      exact hJ _ _ ⟨rfl, z, rfl, by omega, by omega, hpos⟩
  clear hz hlt hpos
  rintro _ w2 ⟨rfl, z, rfl, hz, hlt, hpos⟩
  refine sp (sp ?_)
  refine jn_of (fun s w' => w' = w2 ∧ ∃ z : Nat, s = [.int .u64 ((m / 2 ^ z : Nat) : Int), .int .i64 (z : Int)] ∧ z ≤ 56 ∧ m / 2 ^ z < 2 ^ 8 ∧ 1 ≤ m / 2 ^ z) ?_ ?_
  rotate_left
  · intro J hJ
    refine cond_split (fun h => ?_) (fun h => ?_)
    · have hd := of_decide_eq_true h
      refine sp (sp (hJ _ _ ⟨rfl, z + 8, ?_, by omega, ?_, ?_⟩))
      · have e := shr_nat (m / 2 ^ z) 8 (by decide)
        rw [Nat.div_div_eq_div_mul, ← Nat.pow_add] at e
        rw [show ((8 : Int)) = ((8 : Nat) : Int) from rfl, e, wr64 (by omega) (by omega)]
        simp
      · rw [Nat.pow_add, ← Nat.div_div_eq_div_mul]; omega
      · rw [Nat.pow_add, ← Nat.div_div_eq_div_mul]; omega
    · have hd := of_decide_eq_false h
      exact hJ _ _ ⟨rfl, z, rfl, by omega, by omega, hpos⟩
  clear hz hlt hpos
  rintro _ w3 ⟨rfl, z, rfl, hz, hlt, hpos⟩
  refine sp (sp ?_)
  generalize hb : m / 2 ^ z = b at hlt hpos
  rw [wr8 (by omega) (by omega)]
  have ht := tab8_ok ⟨b, hlt⟩ (by simp only; omega)
  simp only at ht
  generalize ht0 : tab8.getD b 0 = t at ht
  have ht8 : t ≤ 8 := by
    rcases Nat.lt_or_ge t 9 with h | h
    · omega
    · have : 2 ^ 8 ≤ 2 ^ (t - 1) := pow_le_of (by omega)
      omega
  refine tab_use (by decide +kernel) (by decide +kernel) hlt hz ht0 ht8 ?_
  have hp : 0 < 2 ^ z := Nat.pow_pos (by decide)
  have hdm := Nat.div_add_mod m (2 ^ z)
  have hml := Nat.mod_lt m hp
  rw [hb] at hdm
  have e1 : 2 ^ (z + t - 1) = 2 ^ z * 2 ^ (t - 1) := by rw [← Nat.pow_add]; congr 1; omega
  have e2 : 2 ^ (z + t) = 2 ^ z * 2 ^ t := Nat.pow_add ..
  exact hK (z + t) (by omega) (by omega) (by rw [e1]; have := Nat.mul_le_mul_left (2 ^ z) ht.2.1; omega) (by rw [e2]; have := Nat.mul_le_mul_left (2 ^ z) (show b + 1 ≤ 2 ^ t from ht.2.2); rw [Nat.mul_add] at this; omega)
theorem lz_k {m : Nat} (h1 : 1 ≤ m) (h2 : m < 2 ^ 64) {w : World} {K : Value → World → Prop} (hK : ∀ s : Nat, s ≤ 63 → 2 ^ 63 ≤ m * 2 ^ s → m * 2 ^ s < 2 ^ 64 → K (.int .i64 (s : Int)) w) :
    cl Tryz.prog 256 #[.int .u64 (m : Int)] w K := by
  apply F256_calls
  unfold F256
  refine sp (len_k h1 h2 fun n hn1 hn2 hlo hhi => sp (sp ?_))
  have e : IntKind.wrap .i64 ((64 : Int) - (n : Int)) = ((64 - n : Nat) : Int) := by rw [wr64 (by omega) (by omega)]; omega
  rw [e]
  have hp : 0 < 2 ^ (64 - n) := Nat.pow_pos (by decide)
  have e1 : 2 ^ (n - 1) * 2 ^ (64 - n) = 2 ^ 63 := by rw [← Nat.pow_add]; congr 1; omega
  have e2 : 2 ^ n * 2 ^ (64 - n) = 2 ^ 64 := by rw [← Nat.pow_add]; congr 1; omega
  exact hK _ (by omega) (by rw [← e1]; exact Nat.mul_le_mul_right _ hlo) (by rw [← e2]; exact Nat.mul_lt_mul_of_pos_right hhi hp)
theorem wu_nat (n : Int) : ∃ m : Nat, IntKind.wrap .u64 n = (m : Int) ∧ m < 18446744073709551616 := by
  obtain ⟨h1, h2⟩ := wu_lt n
  exact ⟨(IntKind.wrap .u64 n).toNat, by omega, by omega⟩
theorem or_nat (a b : Int) (ha : 0 ≤ a) (ha' : a < 18446744073709551616) (hb : 0 ≤ b) (hb' : b < 18446744073709551616) : ∃ m : Nat, Go.bits .or .u64 a b = (m : Int) ∧ m < 18446744073709551616 := by
  obtain ⟨x, rfl⟩ := Int.eq_ofNat_of_zero_le ha
  obtain ⟨y, rfl⟩ := Int.eq_ofNat_of_zero_le hb
  rw [bits_or_nat (by simp only [IntKind.bits]; omega) (by simp only [IntKind.bits]; omega)]
  exact wu_nat _
theorem qr_u {un yn : Nat} (hun : un < 18446744073709551616) (hyn : 0 < yn) : ∃ q r : Nat, IntKind.wrap .u64 (Int.tdiv (un : Int) (yn : Int)) = (q : Int) ∧ IntKind.wrap .u64 ((un : Int) - IntKind.wrap .u64 ((q : Int) * (yn : Int))) = (r : Int) ∧ r < yn := by
  have hq : un / yn * yn ≤ un := Nat.div_mul_le_self un yn
  have hqu : un / yn ≤ un := Nat.div_le_self _ _
  have hdm := Nat.div_add_mod un yn
  rw [Nat.mul_comm] at hdm
  have hml := Nat.mod_lt un hyn
  refine ⟨un / yn, un % yn, ?_, ?_, hml⟩
  · rw [tdiv_nat]
    generalize un / yn = q at hqu ⊢
    exact wu (by omega) (by omega)
  · clear hqu
    generalize un / yn = q0 at *
    generalize un % yn = r0 at *
    have e : (q0 : Int) * (yn : Int) = ((q0 * yn : Nat) : Int) := by simp
    rw [e, wu (n := ((q0 * yn : Nat) : Int)) (by omega) (by omega), wu (by omega) (by omega)]
    omega
set_option maxHeartbeats 1000000 in
theorem div64_k {Z : List PanicEntry → World → Prop} {hi lo y : Nat} (h1 : hi < y) (h2 : lo < 2 ^ 64) (h3 : y < 2 ^ 64) {w : World} {K : Value → World → Prop}
    (hK : ∀ q r w', Ext no w w' → K (.tuple #[.int .u64 q, .int .u64 r]) w') : clz Z Tryz.prog 216 #[.int .u64 (hi : Int), .int .u64 (lo : Int), .int .u64 (y : Int)] w K := by
  apply F216_calls
  unfold F216
  refine sp (sp (jn_of (fun s w' => w' = w) ?_ fun J hJ => cond_f (by simp only [beq_eq_false_iff_ne]; omega) (hJ _ _ rfl)))
  rintro s1 w1 rfl
  refine jn_of (fun s w' => w' = w1) ?_ fun J hJ => cond_f (decide_eq_false (by omega)) (hJ _ _ rfl)
  rintro s2 w2 rfl
  refine cond_split (fun _ => dw_mk (nz_mk (by omega) (nz_mk (by omega) (sp (sp (hK _ _ _ (Ext.drew _))))))) (fun _ => ?_)
  refine lz_k (by omega) h3 fun s hs hs1 hs2 => sp ?_
  rw [wu (n := (s : Int)) (by omega) (by omega)]
  refine sp (nn_mk (by omega) ?_)
  rw [Int.toNat_natCast, Nat.min_eq_left (show s ≤ 64 by omega)]
  have ey : IntKind.wrap .u64 ((y : Int) * 2 ^ s) = ((y * 2 ^ s : Nat) : Int) := by
    have e : (y : Int) * 2 ^ s = ((y * 2 ^ s : Nat) : Int) := by simp
    rw [e, wu (by omega) (by omega)]
  rw [ey]
  generalize y * 2 ^ s = y' at hs1 hs2 ⊢
  refine sp ?_
  have e32 : ∀ n : Nat, Int.fdiv (n : Int) (2 ^ (min (Int.toNat (32 : Int)) 64)) = ((n / 2 ^ 32 : Nat) : Int) := fun n => shr_nat n 32 (by decide)
  rw [e32]
  obtain ⟨yn, hyn⟩ : ∃ yn, yn = y' / 2 ^ 32 := ⟨_, rfl⟩
  rw [← hyn]
  have hyn1 : 2 ^ 31 ≤ yn := by rw [hyn]; omega
  have hyn2 : yn < 2 ^ 32 := by rw [hyn]; omega
  refine sp (sp (nn_mk (by omega) (nn_mk (wu_lt _).1 ?_)))
  obtain ⟨un, hun, hunl⟩ := or_nat (IntKind.wrap .u64 ((hi : Int) * 2 ^ s)) (Int.fdiv (lo : Int) (2 ^ (min (Int.toNat (IntKind.wrap .u64 ((64 : Int) - (s : Int)))) 64))) (wu_lt _).1 (wu_lt _).2
    (by rw [fdiv_pow]; exact Int.natCast_nonneg _) (by
      rw [fdiv_pow, Nat.shiftRight_eq_div_pow]
      have := Nat.div_le_self lo (2 ^ min (Int.toNat (IntKind.wrap .u64 ((64 : Int) - (s : Int)))) 64)
      omega)
  rw [hun]
  refine sp (nn_mk (by omega) (sp (sp (sp (nz_mk (by omega) ?_)))))
  obtain ⟨q0, r0, eq, er, hml⟩ := qr_u hunl (show 0 < yn by omega)
  rw [eq]
  refine sp ?_
  rw [er]
  refine sp ?_
  refine jn_of (fun s w' => w' = w2 ∧ ∃ q : Int, s = [.int .u64 q]) ?_ ?_
  rotate_left
  · intro J hJ
    refine lp_mk (fun x : Int × Nat => [.int .u64 x.1, .int .u64 (x.2 : Int)]) (fun n x w' => w' = w2 ∧ x.2 < 2 ^ 32 ∧ n = 2 ^ 32 - x.2) (2 ^ 32 - r0) ((q0 : Int), r0) rfl ⟨rfl, by simp only; omega, rfl⟩ ?_
    rintro n ⟨q, r⟩ w' ⟨rfl, hr, rfl⟩ J2 hJ2
    refine sp (sp (jn_of (fun s w'' => w'' = w' ∧ ∃ b, s = [.bool b]) ?_ fun J3 hJ3 => cond_split (fun _ => hJ3 _ _ ⟨rfl, _, rfl⟩) fun _ => hJ3 _ _ ⟨rfl, _, rfl⟩))
    rintro _ w3 ⟨rfl, b, rfl⟩
    refine sp (cond_split (fun _ => sp (sp ?_)) fun _ => hJ _ _ ⟨rfl, _, rfl⟩)
    simp only at hr
    have e : IntKind.wrap .u64 ((r : Int) + (yn : Int)) = ((r + yn : Nat) : Int) := by rw [wu (by omega) (by omega)]; simp
    simp only [e]
    refine cond_split (fun _ => hJ _ _ ⟨rfl, _, rfl⟩) fun h => ?_
    have h := of_decide_eq_false h
    exact hJ2 (2 ^ 32 - (r + yn)) (_, r + yn) _ (by simp only; omega) ⟨rfl, by simp only; omega, rfl⟩
  rintro _ w3 ⟨rfl, q, rfl⟩
  refine sp ?_
  obtain ⟨u, hu, hul⟩ := wu_nat (IntKind.wrap .u64 (IntKind.wrap .u64 ((un : Int) * 4294967296) + Int.fdiv (IntKind.wrap .u64 ((lo : Int) * 2 ^ s)) (2 ^ (min (Int.toNat (32 : Int)) 64))) - IntKind.wrap .u64 (q * (y' : Int)))
  rw [hu]
  refine sp (nz_mk (by omega) ?_)
  clear eq er hml
  obtain ⟨q1, r1, eq, er, hml⟩ := qr_u hul (show 0 < yn by omega)
  rw [eq]
  refine sp ?_
  rw [er]
  refine sp ?_
  refine jn_of (fun s w' => w' = w3 ∧ ∃ q : Int, s = [.int .u64 q]) ?_ ?_
  rotate_left
  · intro J hJ
    refine lp_mk (fun x : Nat × Int => [.int .u64 (x.1 : Int), .int .u64 x.2]) (fun n x w' => w' = w3 ∧ x.1 < 2 ^ 32 ∧ n = 2 ^ 32 - x.1) (2 ^ 32 - r1) (r1, (q1 : Int)) rfl ⟨rfl, by simp only; omega, rfl⟩ ?_
    rintro n ⟨r, q⟩ w' ⟨rfl, hr, rfl⟩ J2 hJ2
    refine sp (sp (jn_of (fun s w'' => w'' = w' ∧ ∃ b, s = [.bool b]) ?_ fun J3 hJ3 => cond_split (fun _ => hJ3 _ _ ⟨rfl, _, rfl⟩) fun _ => hJ3 _ _ ⟨rfl, _, rfl⟩))
    rintro _ w3 ⟨rfl, b, rfl⟩
    refine sp (cond_split (fun _ => sp (sp ?_)) fun _ => hJ _ _ ⟨rfl, _, rfl⟩)
    simp only at hr
    have e : IntKind.wrap .u64 ((r : Int) + (yn : Int)) = ((r + yn : Nat) : Int) := by rw [wu (by omega) (by omega)]; simp
    simp only [e]
    refine cond_split (fun _ => hJ _ _ ⟨rfl, _, rfl⟩) fun h => ?_
    have h := of_decide_eq_false h
    exact hJ2 (2 ^ 32 - (r + yn)) (r + yn, _) _ (by simp only; omega) ⟨rfl, by simp only; omega, rfl⟩
  rintro _ w4 ⟨rfl, q2, rfl⟩
  exact sp (nn_mk (by omega) (sp (sp (hK _ _ _ (Ext.refl _ _)))))
def I64 (n : Int) : Prop := -9223372036854775808 ≤ n ∧ n ≤ 9223372036854775807
theorem I64.w (n : Int) : I64 (IntKind.wrap .i64 n) := by unfold I64; rw [IntKind.wrap_i64]; omega
theorem I64.z : I64 0 := ⟨by decide, by decide⟩
abbrev Any (K : Value → World → Prop) (w : World) : Prop := ∀ (v : Int) (w' : World), I64 v → Ext no w w' → K (.int .i64 v) w'
theorem size_k {a : Int} {w : World} {K : Value → World → Prop} (hK : ∀ m : Nat, m < 2 ^ 64 → (a ≠ 0 → -9223372036854775808 ≤ a → a ≤ 9223372036854775807 → m ≠ 0) → K (.int .u64 (m : Int)) w) : cl Tryz.prog 213 #[.int .i64 a] w K := by
  apply F213_calls
  unfold F213
  refine sp (cond_split (fun h => sp ?_) fun h => sp ?_)
  · obtain ⟨m, hm, hl⟩ := wu_nat ((0 : Int) - IntKind.wrap .u64 a)
    rw [hm]
    refine hK m hl fun h1 h2 h3 => ?_
    rw [IntKind.wrap_u64, IntKind.wrap_u64] at hm
    have := of_decide_eq_true h
    omega
  · obtain ⟨m, hm, hl⟩ := wu_nat a
    rw [hm]
    refine hK m hl fun h1 h2 h3 => ?_
    rw [IntKind.wrap_u64] at hm
    have := of_decide_eq_false h
    omega
theorem end_k {b : Bool} {w : World} {K : Value → World → Prop} (hK : Any K w) : cl Tryz.prog 212 #[.bool b] w K := by
  apply F212_calls
  unfold F212
  exact sp (cond_split (fun _ => sp (hK _ _ ⟨by decide, by decide⟩ (Ext.refl _ _))) fun _ => sp (hK _ _ ⟨by decide, by decide⟩ (Ext.refl _ _)))
theorem signed_k {hi lo : Int} {b : Bool} {w : World} {K : Value → World → Prop} (hK : Any K w) : cl Tryz.prog 214 #[.int .u64 hi, .int .u64 lo, .bool b] w K := by
  apply F214_calls
  unfold F214
  refine sp (jn_of (fun s w' => w' = w ∧ ∃ b, s = [.bool b]) ?_ fun J hJ => cond_split (fun _ => hJ _ _ ⟨rfl, _, rfl⟩) fun _ => hJ _ _ ⟨rfl, _, rfl⟩)
  rintro _ w1 ⟨rfl, c, rfl⟩
  exact sp (cond_split (fun _ => cond_split (fun _ => sp (hK _ _ ⟨by decide, by decide⟩ (Ext.refl _ _))) fun _ => sp (hK _ _ ⟨by decide, by decide⟩ (Ext.refl _ _))) fun _ => cond_split (fun _ => sp (hK _ _ (I64.w _) (Ext.refl _ _))) fun _ => sp (hK _ _ (I64.w _) (Ext.refl _ _)))
theorem fadd_k {a b : Int} {w : World} {K : Value → World → Prop} (hK : Any K w) : cl Tryz.prog 169 #[.int .i64 a, .int .i64 b] w K := by
  apply F169_calls
  unfold F169
  refine sp (sp (jn_of (fun s w' => w' = w ∧ ∃ b, s = [.bool b]) ?_ fun J hJ => cond_split (fun _ => hJ _ _ ⟨rfl, _, rfl⟩) fun _ => hJ _ _ ⟨rfl, _, rfl⟩))
  rintro _ w1 ⟨rfl, c, rfl⟩
  exact sp (cond_split (fun _ => end_k fun v w' hi hx => sp (sp (hK _ _ hi hx))) fun _ => sp (hK _ _ (I64.w _) (Ext.refl _ _)))
theorem fsub_k {a b : Int} {w : World} {K : Value → World → Prop} (hK : Any K w) : cl Tryz.prog 161 #[.int .i64 a, .int .i64 b] w K := by
  apply F161_calls
  unfold F161
  refine sp (sp (jn_of (fun s w' => w' = w ∧ ∃ b, s = [.bool b]) ?_ fun J hJ => cond_split (fun _ => hJ _ _ ⟨rfl, _, rfl⟩) fun _ => hJ _ _ ⟨rfl, _, rfl⟩))
  rintro _ w1 ⟨rfl, c, rfl⟩
  exact sp (cond_split (fun _ => end_k fun v w' hi hx => sp (sp (hK _ _ hi hx))) fun _ => sp (hK _ _ (I64.w _) (Ext.refl _ _)))
theorem from_k {a : Int} {w : World} {K : Value → World → Prop} (hK : Any K w) : cl Tryz.prog 162 #[.int .i64 a] w K := by
  apply F162_calls
  unfold F162
  exact sp (size_k fun m _ _ => sp (sp (signed_k fun v w' hi hx => sp (sp (hK _ _ hi hx)))))
theorem to_k {a : Int} {w : World} {K : Value → World → Prop} (hK : Any K w) : cl Tryz.prog 163 #[.int .i64 a] w K := by
  apply F163_calls
  unfold F163
  exact sp (size_k fun m _ _ => sp (signed_k fun v w' hi hx => sp (sp (hK _ _ hi hx))))
theorem fmul_k {a b : Int} {w : World} {K : Value → World → Prop} (hK : Any K w) : cl Tryz.prog 170 #[.int .i64 a, .int .i64 b] w K := by
  apply F170_calls
  unfold F170
  refine sp (size_k fun m _ _ => sp (size_k fun n _ _ => sp ?_))
  apply F215_calls
  unfold F215
  iterate 13 refine sp ?_
  exact asT_i rfl rfl (sp (sp (sp (sp (signed_k fun v w' hi hx => sp (sp (hK _ _ hi hx)))))))
theorem fdiv_k {a b : Int} (hb : b ≠ 0) (h1 : I64 b) {w : World} {K : Value → World → Prop} (hK : Any K w) : cl Tryz.prog 171 #[.int .i64 a, .int .i64 b] w K := by
  apply F171_calls
  unfold F171
  refine sp ?_
  apply F172_calls
  unfold F172
  refine sp (sp (cond_f (by simpa using hb) ?_))
  refine size_k fun m hm _ => sp (size_k fun n hn hn0 => sp (sp (sp ?_)))
  have hn1 := hn0 hb h1.1 h1.2
  rw [show Int.fdiv (m : Int) (2 ^ (min (Int.toNat (32 : Int)) 64)) = ((m / 2 ^ 32 : Nat) : Int) from shr_nat m 32 (by decide)]
  refine sp (sp (nz_mk (by omega) (sp (nz_mk (by omega) ?_))))
  obtain ⟨l, hl, hll⟩ := wu_nat ((m : Int) * 2 ^ (min (Int.toNat (32 : Int)) 64))
  rw [hl, tmod_nat]
  refine clz_cl (div64_k (Nat.mod_lt _ (by omega)) hll hn fun q r w' hx => ?_)
  refine asT_i rfl rfl (sp (sp (sp (sp (signed_k fun v w2 hi hx2 => sp (sp (sp ?_)))))))
  exact asT_i rfl rfl (sp (sp (sp (sp (sp (hK _ _ hi (hx.trans hx2)))))))
end Go.Proofs.YtndbhmmejjhcfaaGreatDoor
namespace Go.Proofs.YtndbhmmejjhcfaaGreatDoor
open Go Go.Sx Go.Vp
attribute [local irreducible] jn lv ld st nw asI asB asP asS asY asM asF asA asT lp rn ru rq cl dw dr bnd bn2 nz nn hd hr so eqW
section
variable {w0 w : World} {R : Rg}
theorem Rg.sti {k : Nat} {s : Sv} (hs : R.st[k]? = some s) : R.rows[6 + R.fs.length + k]? = some ⟨3, 1, s.p, s.c, s.l.length, iw s.l⟩ := by
  have hk : k < R.st.length := (List.getElem?_eq_some_iff.1 hs).1
  have e : 6 + R.fs.length + k = (R.fs.length + k) + 6 := by omega
  rw [e]
  show R.tl[R.fs.length + k]? = _
  rw [List.getElem?_append_right (by simp), List.length_map, Nat.add_sub_cancel_left, List.getElem?_append_left (by simpa using hk)]
  simp [hs, Sv.row]
theorem Rg.sts {k : Nat} {s : Sv} (hs : R.st[k]? = some s) {l : List Int} (hl : l.length = s.l.length) : R.rows.set (6 + R.fs.length + k) ⟨3, 1, s.p, s.c, s.l.length, iw l⟩ = { R with st := R.st.set k { s with l := l } }.rows := by
  have hk : k < R.st.length := (List.getElem?_eq_some_iff.1 hs).1
  have e : 6 + R.fs.length + k = (R.fs.length + k) + 6 := by omega
  have e1 : (R.st.set k { s with l := l }).map svC = R.st.map svC := by
    apply List.ext_getElem?
    intro i
    by_cases hi : i = k
    · subst hi
      have := (List.getElem?_eq_some_iff.1 hs).2
      simp [svC, hl, hk, this]
    · rw [List.map_set, List.getElem?_set_ne (fun e => hi e.symm)]
  have e2 : R.tl.set (R.fs.length + k) ⟨3, 1, s.p, s.c, s.l.length, iw l⟩ = R.fs.map Fr.row ++ ((R.st.set k { s with l := l }).map Sv.row ++ (R.aq.map As.row ++ R.ex)) := by
    rw [List.set_append_right _ _ (by simp), List.length_map, Nat.add_sub_cancel_left, List.set_append_left _ _ (by simpa using hk)]
    simp [List.map_set, Sv.row, hl]
  rw [e]
  simp only [Rg.rows, Rg.or, List.set_cons_succ, e1, e2, List.length_set]
theorem Rg.setl (R : Rg) (l : List Int) (e : l.length = R.f.l.length) : { R with f := { R.f with l := l } }.rows = R.rows.set 5 ⟨3, 1, R.f.lp, R.f.lc, R.f.l.length, iw l⟩ := by simp [Rg.rows, Rg.ff, Rg.lr, frC, e]
theorem _root_.Go.Sx.Hs.cast {Rs Rs' : List Rw} (h : Hs w0 w Rs) (e : Rs' = Rs) : Hs w0 w Rs' := e ▸ h
theorem one_k (h : Hs w0 w R.rows) {l : List Int} {v : Int} (hs : R.sk = l ++ [v]) (hb : R.sk.length ≤ 100000) {op : Int} (ho : op = 13 ∨ op = 18 ∨ op = 25 ∨ op = 26 ∨ op = 27) (h25 : op = 25 → v = 0 ∨ v = 1) {K : Value → World → Prop}
    (hK : ∀ u p c w', I64 u → (op = 25 → u = 0 ∨ u = 1) → Hs w0 w' { R with sk := l ++ [u], sp := p, sc := c }.rows → K (.tuple #[]) w') : cl Tryz.prog 111 #[.pointer (some ⟨R.q, 0, none⟩), i6 op] w K := by
  have hl : R.sk.length = l.length + 1 := by simp [hs]
  apply F111_calls
  unfold F111
  refine pop_k h hs (by omega) fun w1 h => sp (sp ?_)
  refine jn_of (fun s w' => ∃ u, s = [i6 u] ∧ I64 u ∧ (op = 25 → u = 0 ∨ u = 1) ∧ Hs w0 w' { R with sk := l }.rows) ?_ ?_
  · rintro _ w2 ⟨u, rfl, hi, hu, h⟩
    refine sp ?_
    exact push_k h (show l.length ≤ _ by omega) fun p c w' h => hK u p c w' hi hu h
  · intro J hJ
    rcases ho with rfl | rfl | rfl | rfl | rfl
    · exact cond_t rfl (sp (hJ _ _ ⟨_, rfl, I64.w _, by simp, h⟩))
    · exact cond_f rfl (cond_t rfl (fsub_k fun u w' hi hx => sp (sp (hJ _ _ ⟨u, rfl, hi, by simp, h.to hx⟩))))
    · refine cond_f rfl (cond_f rfl (cond_t rfl (sp ?_)))
      rcases h25 rfl with rfl | rfl
      · exact hJ _ _ ⟨1, rfl, ⟨by decide, by decide⟩, fun _ => .inr rfl, h⟩
      · exact hJ _ _ ⟨0, rfl, I64.z, fun _ => .inl rfl, h⟩
    · exact cond_f rfl (cond_f rfl (cond_f rfl (cond_t rfl (from_k fun u w' hi hx => sp (sp (hJ _ _ ⟨u, rfl, hi, by simp, h.to hx⟩))))))
    · exact cond_f rfl (cond_f rfl (cond_f rfl (cond_f rfl (cond_t rfl (to_k fun u w' hi hx => sp (sp (hJ _ _ ⟨u, rfl, hi, by simp, h.to hx⟩)))))))
abbrev pA (R : Rg) (i : Ins) : Array Value := #[.pointer (some ⟨R.q, 0, none⟩), .pointer (some ⟨R.fp, R.fs.length * 4, none⟩), .agg #[i6 i.op, i6 i.a, i6 i.b]]
variable {K : Value → World → Prop}
theorem plain1 (h : Hs w0 w R.rows) (hb : R.sk.length ≤ 100000) {a b : Int} (hK : ∀ p c w', Hs w0 w' { R with sk := R.sk ++ [a], sp := p, sc := c }.rows → K (.tuple #[]) w') : cl Tryz.prog 110 (pA R ⟨1, a, b⟩) w K := by
  apply F110_calls
  unfold F110
  repeat first|refine sp ?_|refine cond_t rfl ?_|refine cond_f rfl ?_|refine asT_i rfl rfl ?_|refine asA_i rfl rfl ?_|refine h.l rfl ?_|refine h.hd rfl ?_|(refine h.sb rfl rfl ?_;clear h;intro _ h)|(refine h.dw ?_;clear h;intro _ h)|(refine h.nw ?_;clear h;intro _ _ h)
  exact push_k h.tail (by omega) hK
theorem plain2 (h : Hs w0 w R.rows) (hb : R.sk.length ≤ 100000) {k : Nat} {b : Int} (hk : k < R.f.l.length) (hK : ∀ p c w', Hs w0 w' { R with sk := R.sk ++ [R.f.l.getD k 0], sp := p, sc := c }.rows → K (.tuple #[]) w') :
    cl Tryz.prog 110 (pA R ⟨2, k, b⟩) w K := by
  apply F110_calls
  unfold F110
  repeat first|refine sp ?_|refine cond_t rfl ?_|refine cond_f rfl ?_|refine asT_i rfl rfl ?_|refine asA_i rfl rfl ?_|refine h.l rfl ?_|refine h.hd rfl ?_|(refine h.sb rfl rfl ?_;clear h;intro _ h)|(refine h.dw ?_;clear h;intro _ h)|(refine h.nw ?_;clear h;intro _ _ h)|refine h.l (fl_at (frC_len _ _) rfl) ?_
  refine h.ix R.f.lp rfl hk rfl fun bl hbl hc => ?_
  rw [Int.toNat_natCast, Nat.mul_one, add_mk, Nat.zero_add]
  refine ld_mk (hc _ _ (iw_at hk)) (sp ?_)
  refine push_k h.in2 (by omega) ?_
  clear h
  intro p c w1 h
  replace h := h.out2
  repeat first|refine sp ?_|refine cond_t rfl ?_|refine cond_f rfl ?_|refine asT_i rfl rfl ?_|refine asA_i rfl rfl ?_|refine h.l rfl ?_|refine h.hd rfl ?_|(refine h.sb rfl rfl ?_;clear h;intro _ h)|(refine h.dw ?_;clear h;intro _ h)|refine h.hd (fl_at (frC_len _ _) rfl) ?_
  exact hK p c _ h.tail
theorem plain3 (h : Hs w0 w R.rows) (hb : R.sk.length ≤ 100000) {k : Nat} {b : Int} (hk : k < R.f.l.length) {l : List Int} {v : Int} (hs : R.sk = l ++ [v])
    (hK : ∀ w', Hs w0 w' { R with sk := l, f := { R.f with l := R.f.l.set k v } }.rows → K (.tuple #[]) w') : cl Tryz.prog 110 (pA R ⟨3, k, b⟩) w K := by
  apply F110_calls
  unfold F110
  repeat first|refine sp ?_|refine cond_t rfl ?_|refine cond_f rfl ?_|refine asT_i rfl rfl ?_|refine asA_i rfl rfl ?_|refine h.l rfl ?_|refine h.hd rfl ?_|(refine h.sb rfl rfl ?_;clear h;intro _ h)|(refine h.dw ?_;clear h;intro _ h)|(refine h.nw ?_;clear h;intro _ _ h)|refine h.l (fl_at (frC_len _ _) rfl) ?_
  refine pop_k h.in2 hs (by omega) ?_
  clear h
  intro w1 h
  replace h := h.out2
  repeat first|refine sp ?_|refine cond_t rfl ?_|refine cond_f rfl ?_|refine asT_i rfl rfl ?_|refine asA_i rfl rfl ?_|refine h.l rfl ?_|refine h.hd rfl ?_|(refine h.sb rfl rfl ?_;clear h;intro _ h)|(refine h.dw ?_;clear h;intro _ h)|refine h.hd (fl_at (frC_len _ _) rfl) ?_
  refine h.tail.ixs 5 rfl rfl hk rfl fun bl hbl hc hst => ?_
  rw [Int.toNat_natCast, Nat.mul_one, add_mk, Nat.zero_add]
  refine hst _ _ _ (by simpa [iv] using hk) rfl fun w2 h => hK w2 ?_
  have e : (iw R.f.l).set k (i6 v) = iw (R.f.l.set k v) := by simp [iv, List.map_set]
  rw [e] at h
  exact h.cast (Rg.setl { R with sk := l } (R.f.l.set k v) (by simp))
theorem plain4 (h : Hs w0 w R.rows) (hb : R.sk.length ≤ 100000) {k : Nat} {b : Int} {s : Sv} (hk : R.st[k]? = some s) (hs : 0 < s.l.length) (hK : ∀ p c w', Hs w0 w' { R with sk := R.sk ++ [s.l.getD 0 0], sp := p, sc := c }.rows → K (.tuple #[]) w') :
    cl Tryz.prog 110 (pA R ⟨4, k, b⟩) w K := by
  have hkl : k < R.st.length := (List.getElem?_eq_some_iff.1 hk).1
  apply F110_calls
  unfold F110
  repeat first|refine sp ?_|refine cond_t rfl ?_|refine cond_f rfl ?_|refine asT_i rfl rfl ?_|refine asA_i rfl rfl ?_|refine h.l rfl ?_|refine h.hd rfl ?_|(refine h.sb rfl rfl ?_;clear h;intro _ h)|(refine h.dw ?_;clear h;intro _ h)|(refine h.nw ?_;clear h;intro _ _ h)
  refine h.ix R.op rfl hkl rfl fun bo hbo ho => ?_
  rw [Int.toNat_natCast, Nat.mul_one, add_mk, Nat.zero_add]
  have hv : (R.st.map svC)[k]? = some (.slice s.p s.l.length s.c) := by simp [hk, svC]
  refine ld_mk (ho _ _ hv) (sp ?_)
  refine h.tail.ixs (6 + R.fs.length + k) (Rg.sti hk) rfl hs rfl fun bl hbl hc _ => ?_
  refine ld_mk (hc 0 _ (iw_at hs)) (sp ?_)
  refine push_k h.in2 (by omega) ?_
  clear h ho
  intro p c w1 h
  replace h := h.out2
  refine hd_i (h.cell (r := R.or) (by simp) hbo hv) ?_
  repeat first|refine sp ?_|refine cond_t rfl ?_|refine cond_f rfl ?_|refine asT_i rfl rfl ?_|refine asA_i rfl rfl ?_|refine h.l rfl ?_|refine h.hd rfl ?_|(refine h.sb rfl rfl ?_;clear h;intro _ h)|(refine h.dw ?_;clear h;intro _ h)
  exact hK p c _ h.tail
theorem plain5 (h : Hs w0 w R.rows) (hb : R.sk.length ≤ 100000) {k : Nat} {b : Int} {s : Sv} (hk : R.st[k]? = some s) (hs : 0 < s.l.length) {l : List Int} {v : Int} (hsk : R.sk = l ++ [v])
    (hK : ∀ w', Hs w0 w' { R with sk := l, st := R.st.set k { s with l := s.l.set 0 v } }.rows → K (.tuple #[]) w') : cl Tryz.prog 110 (pA R ⟨5, k, b⟩) w K := by
  have hkl : k < R.st.length := (List.getElem?_eq_some_iff.1 hk).1
  apply F110_calls
  unfold F110
  repeat first|refine sp ?_|refine cond_t rfl ?_|refine cond_f rfl ?_|refine asT_i rfl rfl ?_|refine asA_i rfl rfl ?_|refine h.l rfl ?_|refine h.hd rfl ?_|(refine h.sb rfl rfl ?_;clear h;intro _ h)|(refine h.dw ?_;clear h;intro _ h)|(refine h.nw ?_;clear h;intro _ _ h)
  refine h.ix R.op rfl hkl rfl fun bo hbo ho => ?_
  rw [Int.toNat_natCast, Nat.mul_one, add_mk, Nat.zero_add]
  have hv : (R.st.map svC)[k]? = some (.slice s.p s.l.length s.c) := by simp [hk, svC]
  refine ld_mk (ho _ _ hv) (sp ?_)
  refine pop_k h.in2 hsk (by omega) ?_
  clear h ho
  intro w1 h
  replace h := h.out2
  refine sp (hd_i (h.cell (r := R.or) (by simp) hbo hv) ?_)
  repeat first|refine sp ?_|refine cond_t rfl ?_|refine cond_f rfl ?_|refine asT_i rfl rfl ?_|refine asA_i rfl rfl ?_|refine h.l rfl ?_|refine h.hd rfl ?_|(refine h.sb rfl rfl ?_;clear h;intro _ h)|(refine h.dw ?_;clear h;intro _ h)
  refine h.tail.ixs (6 + R.fs.length + k) (Rg.sti (R := { R with sk := l }) hk) rfl hs rfl fun bl hbl hc hst => ?_
  refine hst 0 _ _ (by simpa [iv] using hs) rfl fun w2 h => hK w2 ?_
  have e : (iw s.l).set 0 (i6 v) = iw (s.l.set 0 v) := by simp [iv, List.map_set]
  rw [e] at h
  exact h.cast (Rg.sts (R := { R with sk := l }) hk (l := s.l.set 0 v) (by simp)).symm
theorem plain28 (h : Hs w0 w R.rows) {a : Nat} {b : Int} (hK : ∀ w', Hs w0 w' { R with f := { R.f with at' := a } }.rows → K (.tuple #[]) w') : cl Tryz.prog 110 (pA R ⟨28, a, b⟩) w K := by
  apply F110_calls
  unfold F110
  repeat first|refine sp ?_|refine cond_t rfl ?_|refine cond_f rfl ?_|refine asT_i rfl rfl ?_|refine asA_i rfl rfl ?_|refine h.l rfl ?_|refine h.hd rfl ?_|(refine h.sb rfl rfl ?_;clear h;intro _ h)|(refine h.dw ?_;clear h;intro _ h)|(refine h.nw ?_;clear h;intro _ _ h)
  refine h.sx (by rw [fl_lenN (frC_len _ _)]; simp; omega) rfl ?_
  clear h
  intro w1 h
  rw [fl_set (frC_len _ _) (y := { R.f with at' := a }) rfl] at h
  exact hK _ h.tail
theorem plain29 (h : Hs w0 w R.rows) (hb : R.sk.length ≤ 100000) {a : Nat} {b : Int} {l : List Int} {v : Int} (hsk : R.sk = l ++ [v])
    (hK : ∀ w', v ≠ 0 → Hs w0 w' { R with sk := l }.rows → K (.tuple #[]) w') (hK0 : ∀ w', v = 0 → Hs w0 w' { R with sk := l, f := { R.f with at' := a } }.rows → K (.tuple #[]) w') : cl Tryz.prog 110 (pA R ⟨29, a, b⟩) w K := by
  apply F110_calls
  unfold F110
  repeat first|refine sp ?_|refine cond_t rfl ?_|refine cond_f rfl ?_|refine asT_i rfl rfl ?_|refine asA_i rfl rfl ?_|refine h.l rfl ?_|refine h.hd rfl ?_|(refine h.sb rfl rfl ?_;clear h;intro _ h)|(refine h.dw ?_;clear h;intro _ h)|(refine h.nw ?_;clear h;intro _ _ h)
  refine pop_k h.in2 hsk (by omega) ?_
  clear h
  intro w1 h
  replace h := h.out2
  refine sp (cond_split (fun hv => ?_) fun hv => hK _ (by simpa using hv) h.tail)
  repeat first|refine sp ?_|refine cond_t rfl ?_|refine cond_f rfl ?_|refine asT_i rfl rfl ?_|refine asA_i rfl rfl ?_|refine h.l rfl ?_|refine h.hd rfl ?_|(refine h.sb rfl rfl ?_;clear h;intro _ h)|(refine h.dw ?_;clear h;intro _ h)
  refine h.sx (by rw [fl_lenN (frC_len _ _)]; simp; omega) rfl ?_
  clear h
  intro w1 h
  rw [fl_set (frC_len _ _) (y := { R.f with at' := a }) rfl] at h
  exact hK0 _ (by simpa using hv) h.tail
theorem plain33 (h : Hs w0 w R.rows) (hb : R.sk.length ≤ 100000) {a b : Int} {l : List Int} {v : Int} (hsk : R.sk = l ++ [v]) (hK : ∀ w', Hs w0 w' { R with sk := l }.rows → K (.tuple #[]) w') : cl Tryz.prog 110 (pA R ⟨33, a, b⟩) w K := by
  apply F110_calls
  unfold F110
  repeat first|refine sp ?_|refine cond_t rfl ?_|refine cond_f rfl ?_|refine asT_i rfl rfl ?_|refine asA_i rfl rfl ?_|refine h.l rfl ?_|refine h.hd rfl ?_|(refine h.sb rfl rfl ?_;clear h;intro _ h)|(refine h.dw ?_;clear h;intro _ h)|(refine h.nw ?_;clear h;intro _ _ h)
  refine pop_k h.in2 hsk (by omega) ?_
  clear h
  intro w1 h
  replace h := h.out2
  exact sp (hK _ h.tail)
end
end Go.Proofs.YtndbhmmejjhcfaaGreatDoor
namespace Go.Proofs.YtndbhmmejjhcfaaGreatDoor
open Go Go.Sx Go.Vp
attribute [local irreducible] jn lv ld st nw asI asB asP asS asY asM asF asA asT lp rn ru rq cl dw dr bnd bn2 nz nn hd hr so eqW
section
variable {w0 w : World} {R : Rg} {K : Value → World → Prop}
theorem el6 (h : Hs w0 w R.rows) (hb : R.sk.length ≤ 100000) {k : Nat} {b : Int} {s : Sv} (hk : R.st[k]? = some s) {l : List Int} {n : Int} (hn : I64 n) (hsk : R.sk = l ++ [n])
    (hF : ∀ w', Hs w0 w' { R with sk := l }.rows → K (.bool false) w') (hK : ∀ i p c w', i < s.l.length → Hs w0 w' { R with sk := l ++ [s.l.getD i 0], sp := p, sc := c }.rows → K (.bool true) w') :
    cl Tryz.prog 112 #[.pointer (some ⟨R.q, 0, none⟩), .agg #[i6 6, i6 (k : Int), i6 b]] w K := by
  have hkl : k < R.st.length := (List.getElem?_eq_some_iff.1 hk).1
  have hl : R.sk.length = l.length + 1 := by simp [hsk]
  apply F112_calls
  unfold F112
  refine h.nw ?_
  clear h
  intro q w1 h
  repeat first|refine sp ?_|refine cond_t rfl ?_|refine cond_f rfl ?_|refine asT_i rfl rfl ?_|refine asA_i rfl rfl ?_|refine h.l rfl ?_|refine h.hd rfl ?_|(refine h.sb rfl rfl ?_;clear h;intro _ h)|(refine h.dw ?_;clear h;intro _ h)
  refine jn_of (fun s w' => ∃ x, s = [i6 x] ∧ Hs w0 w' (bk 81 q [i6 6, i6 (k : Int), i6 b] :: R.rows)) ?_ ?_
  rotate_left
  · intro J hJ
    repeat first|refine sp ?_|refine cond_t rfl ?_|refine cond_f rfl ?_|refine asT_i rfl rfl ?_|refine asA_i rfl rfl ?_|refine h.l rfl ?_|refine h.hd rfl ?_|(refine h.sb rfl rfl ?_;clear h;intro _ h)|(refine h.dw ?_;clear h;intro _ h)
    exact hJ _ _ ⟨_, rfl, h⟩
  clear h
  rintro _ w1 ⟨x, rfl, h⟩
  repeat first|refine sp ?_|refine cond_t rfl ?_|refine cond_f rfl ?_|refine asT_i rfl rfl ?_|refine asA_i rfl rfl ?_|refine h.l rfl ?_|refine h.hd rfl ?_|(refine h.sb rfl rfl ?_;clear h;intro _ h)|(refine h.dw ?_;clear h;intro _ h)
  refine h.ix R.op rfl hkl rfl fun bo hbo ho => ?_
  rw [Int.toNat_natCast, Nat.mul_one, add_mk, Nat.zero_add]
  have hv : (R.st.map svC)[k]? = some (.slice s.p s.l.length s.c) := by simp [hk, svC]
  refine ld_mk (ho _ _ hv) (sp ?_)
  refine pop_k h.in2 hsk (by omega) ?_
  clear h ho
  intro w1 h
  replace h := h.out2
  refine sp (hd_i (h.cell (r := R.or) (by simp) hbo hv) ?_)
  repeat first|refine sp ?_|refine cond_t rfl ?_|refine cond_f rfl ?_|refine asT_i rfl rfl ?_|refine asA_i rfl rfl ?_|refine h.l rfl ?_|refine h.hd rfl ?_|(refine h.sb rfl rfl ?_;clear h;intro _ h)|(refine h.dw ?_;clear h;intro _ h)
  refine jn_of (fun t w' => ∃ o, t = [.bool o] ∧ (o = false → 0 ≤ n ∧ n < s.l.length) ∧ w' = w1) ?_ ?_
  rotate_left
  · intro J hJ
    refine cond_split (fun _ => hJ _ _ ⟨_, rfl, by simp, rfl⟩) fun h1 => hJ _ _ ⟨_, rfl, fun h2 => ?_, rfl⟩
    have h1 := of_decide_eq_false h1
    have h2 := of_decide_eq_false h2
    omega
  rintro _ w2 ⟨o, rfl, ho, rfl⟩
  refine sp (cond_split (fun _ => hF _ h.tail) fun h0 => ?_)
  obtain ⟨h1, h2⟩ := ho h0
  obtain ⟨i, rfl⟩ := Int.eq_ofNat_of_zero_le h1
  have hi : i < s.l.length := by omega
  refine jn_of (fun t w' => ∃ p c, Hs w0 w' { R with sk := l ++ [s.l.getD i 0], sp := p, sc := c }.rows) (fun _ w' ⟨p, c, h⟩ => hK i p c _ hi h) ?_
  intro J hJ
  repeat first|refine sp ?_|refine cond_t rfl ?_|refine cond_f rfl ?_|refine asT_i rfl rfl ?_|refine asA_i rfl rfl ?_|refine h.l rfl ?_|refine h.hd rfl ?_|(refine h.sb rfl rfl ?_;clear h;intro _ h)|(refine h.dw ?_;clear h;intro _ h)
  refine h.tail.ixs (6 + R.fs.length + k) (Rg.sti (R := { R with sk := l }) hk) rfl hi rfl fun bl hbl hc _ => ?_
  rw [Int.toNat_natCast, Nat.mul_one, add_mk, Nat.zero_add]
  refine ld_mk (hc _ _ (iw_at hi)) (sp ?_)
  exact push_k h.tail (by omega) fun p c w' h => hJ _ _ ⟨p, c, h⟩
theorem el7 (h : Hs w0 w R.rows) (hb : R.sk.length ≤ 100000) {k : Nat} {b : Int} {s : Sv} (hk : R.st[k]? = some s) {l : List Int} {n v : Int} (hn : I64 n) (hsk : R.sk = l ++ [n, v])
    (hF : ∀ w', Hs w0 w' { R with sk := l }.rows → K (.bool false) w') (hK : ∀ i w', i < s.l.length → Hs w0 w' { R with sk := l, st := R.st.set k { s with l := s.l.set i v } }.rows → K (.bool true) w') :
    cl Tryz.prog 112 #[.pointer (some ⟨R.q, 0, none⟩), .agg #[i6 7, i6 (k : Int), i6 b]] w K := by
  have hkl : k < R.st.length := (List.getElem?_eq_some_iff.1 hk).1
  have hl : R.sk.length = l.length + 2 := by simp [hsk]
  apply F112_calls
  unfold F112
  refine h.nw ?_
  clear h
  intro q w1 h
  repeat first|refine sp ?_|refine cond_t rfl ?_|refine cond_f rfl ?_|refine asT_i rfl rfl ?_|refine asA_i rfl rfl ?_|refine h.l rfl ?_|refine h.hd rfl ?_|(refine h.sb rfl rfl ?_;clear h;intro _ h)|(refine h.dw ?_;clear h;intro _ h)
  refine jn_of (fun s w' => s = [i6 v] ∧ Hs w0 w' (bk 81 q [i6 7, i6 (k : Int), i6 b] :: { R with sk := l ++ [n] }.rows)) ?_ ?_
  rotate_left
  · intro J hJ
    repeat first|refine sp ?_|refine cond_t rfl ?_|refine cond_f rfl ?_|refine asT_i rfl rfl ?_|refine asA_i rfl rfl ?_|refine h.l rfl ?_|refine h.hd rfl ?_|(refine h.sb rfl rfl ?_;clear h;intro _ h)|(refine h.dw ?_;clear h;intro _ h)
    refine pop_k h.in2 (l := l ++ [n]) (v := v) (by simp [hsk]) (by omega) ?_
    clear h
    intro w1 h
    exact sp (sp (hJ _ _ ⟨rfl, h.out2⟩))
  clear h
  rintro _ w1 ⟨rfl, h⟩
  repeat first|refine sp ?_|refine cond_t rfl ?_|refine cond_f rfl ?_|refine asT_i rfl rfl ?_|refine asA_i rfl rfl ?_|refine h.l rfl ?_|refine h.hd rfl ?_|(refine h.sb rfl rfl ?_;clear h;intro _ h)|(refine h.dw ?_;clear h;intro _ h)
  refine h.ix R.op rfl hkl rfl fun bo hbo ho => ?_
  rw [Int.toNat_natCast, Nat.mul_one, add_mk, Nat.zero_add]
  have hv : (R.st.map svC)[k]? = some (.slice s.p s.l.length s.c) := by simp [hk, svC]
  refine ld_mk (ho _ _ hv) (sp ?_)
  refine pop_k h.in2 (l := l) rfl (by simp; omega) ?_
  clear h ho
  intro w1 h
  replace h := h.out2
  refine sp (hd_i (h.cell (r := R.or) (by simp) hbo hv) ?_)
  repeat first|refine sp ?_|refine cond_t rfl ?_|refine cond_f rfl ?_|refine asT_i rfl rfl ?_|refine asA_i rfl rfl ?_|refine h.l rfl ?_|refine h.hd rfl ?_|(refine h.sb rfl rfl ?_;clear h;intro _ h)|(refine h.dw ?_;clear h;intro _ h)
  refine jn_of (fun t w' => ∃ o, t = [.bool o] ∧ (o = false → 0 ≤ n ∧ n < s.l.length) ∧ w' = w1) ?_ ?_
  rotate_left
  · intro J hJ
    refine cond_split (fun _ => hJ _ _ ⟨_, rfl, by simp, rfl⟩) fun h1 => hJ _ _ ⟨_, rfl, fun h2 => ?_, rfl⟩
    have h1 := of_decide_eq_false h1
    have h2 := of_decide_eq_false h2
    omega
  rintro _ w2 ⟨o, rfl, ho, rfl⟩
  refine sp (cond_split (fun _ => hF _ h.tail) fun h0 => ?_)
  obtain ⟨h1, h2⟩ := ho h0
  obtain ⟨i, rfl⟩ := Int.eq_ofNat_of_zero_le h1
  have hi : i < s.l.length := by omega
  refine jn_of (fun t w' => Hs w0 w' { R with sk := l, st := R.st.set k { s with l := s.l.set i v } }.rows) (fun _ w' h => hK i _ hi h) ?_
  intro J hJ
  repeat first|refine sp ?_|refine cond_t rfl ?_|refine cond_f rfl ?_|refine asT_i rfl rfl ?_|refine asA_i rfl rfl ?_|refine h.l rfl ?_|refine h.hd rfl ?_|(refine h.sb rfl rfl ?_;clear h;intro _ h)|(refine h.dw ?_;clear h;intro _ h)
  refine h.tail.ixs (6 + R.fs.length + k) (Rg.sti (R := { R with sk := l }) hk) rfl hi rfl fun bl hbl hc hst => ?_
  rw [Int.toNat_natCast, Nat.mul_one, add_mk, Nat.zero_add]
  refine hst _ _ _ (by simpa [iv] using hi) rfl fun w2 h => hJ _ _ ?_
  have e : (iw s.l).set i (i6 v) = iw (s.l.set i v) := by simp [iv, List.map_set]
  rw [e] at h
  exact h.cast (Rg.sts (R := { R with sk := l }) hk (l := s.l.set i v) (by simp)).symm
def Fin (w0 w : World) (R : Rg) : Prop := ∃ c3 c4, Hs w0 w (⟨150, 10, some ⟨R.q, 0, none⟩, 1, 1, [.pointer (some ⟨R.M.mb, 0, none⟩), .slice R.op R.st.length R.oc, i6 R.fu, c3, c4, .slice R.ap R.aq.length R.ac, .bool R.wa, .bool R.en, i6 R.tr, i6 R.va]⟩ :: R.ar :: R.or :: (R.st.map Sv.row ++ (R.aq.map As.row ++ R.ex)))
theorem Fin.of (h : Hs w0 w R.rows) : Fin w0 w R := by
  refine ⟨_, _, h.sub (List.Sublist.cons_cons _ (List.Sublist.cons _ (List.Sublist.cons _ (List.Sublist.cons_cons _ (List.Sublist.cons_cons _ (List.Sublist.cons _ ?_))))))⟩
  exact List.sublist_append_right _ _
theorem back_k (h : Hs w0 w R.rows) (hC : Ctx w0 R.M R.fb R.fo) {x : Fs} (hx : R.M.I.fs[R.f.fn]? = some x) (hb : R.sk.length ≤ 100000) (hfs : R.fs.length ≤ 64) {l r : List Int} (hsk : R.sk = l ++ r) (hr : (x.f.res = 0 → r = []) ∧ (x.f.res ≠ 0 → ∃ v, r = [v])) (hl : l.length = R.f.base)
    (hT : R.fs = [] → ∀ va w', Fin w0 w' { R with va := va } → K (.bool true) w')
    (hF : ∀ f2 fs2, R.fs = f2 :: fs2 → ∀ va p c w', Hs w0 w' { R with f := f2, fs := fs2, sk := l ++ r, sp := p, sc := c, va := va }.rows → K (.bool false) w') :
    cl Tryz.prog 114 #[.pointer (some ⟨R.q, 0, none⟩), .pointer (some ⟨R.fp, R.fs.length * 4, none⟩)] w K := by
  apply F114_calls
  unfold F114
  refine sp (h.l (fl_at0 (frC_len _ _) rfl) (sp (sp (ld_mk (hC.fc h hx rfl) (sp ?_)))))
  have hlr : R.sk.length = l.length + r.length := by simp [hsk]
  refine jn_of (fun s w' => ∃ va, (x.f.res ≠ 0 → r = [va]) ∧ Hs w0 w' { R with sk := l, va := va }.rows) ?_ ?_
  rotate_left
  · intro J hJ
    refine cond_split (fun h1 => ?_) fun h1 => ?_
    · have h1 : x.f.res ≠ 0 := by simpa using h1
      obtain ⟨v, rfl⟩ := hr.2 h1
      refine pop_k h hsk (by omega) ?_
      clear h
      intro w1 h
      repeat first|refine sp ?_|refine cond_t rfl ?_|refine cond_f rfl ?_|refine asT_i rfl rfl ?_|refine asA_i rfl rfl ?_|refine h.l rfl ?_|refine h.hd rfl ?_|(refine h.sb rfl rfl ?_;clear h;intro _ h)|(refine h.dw ?_;clear h;intro _ h)
      exact hJ _ _ ⟨v, fun _ => rfl, h⟩
    · have h1 : x.f.res = 0 := by simpa using h1
      obtain rfl := hr.1 h1
      rw [List.append_nil] at hsk
      exact hJ _ _ ⟨R.va, fun h2 => absurd h1 h2, hsk ▸ h⟩
  clear h
  rintro s w1 ⟨va, hva, h⟩
  have hsc : l.length ≤ R.sc := RowN.le_max (h.row ⟨3, 1, R.sp, R.sc, l.length, iw l⟩ (by simp))
  have hfc : R.fs.length + 1 ≤ R.fc := RowN.le_max (h.row R.ff (by simp))
  have ef : IntKind.wrap .i64 (((R.fs.length + 1 : Nat) : Int) - 1) = (R.fs.length : Nat) := by rw [wr64 (by omega) (by omega)]; omega
  repeat first|refine sp ?_|refine cond_t rfl ?_|refine cond_f rfl ?_|refine asT_i rfl rfl ?_|refine asA_i rfl rfl ?_|refine h.l rfl ?_|refine h.hd rfl ?_|(refine h.sb rfl rfl ?_;clear h;intro _ h)|(refine h.dw ?_;clear h;intro _ h)|refine h.l (fl_at (frC_len _ _) rfl) ?_
  refine bn2_mk (by omega) (by dsimp only; omega) ?_
  rw [Int.toNat_natCast, ← hl]
  repeat first|refine sp ?_|refine cond_t rfl ?_|refine cond_f rfl ?_|refine asT_i rfl rfl ?_|refine asA_i rfl rfl ?_|refine h.l rfl ?_|refine h.hd rfl ?_|(refine h.sb rfl rfl ?_;clear h;intro _ h)|(refine h.dw ?_;clear h;intro _ h)
  rw [ef]
  refine bn2_mk (show (0 : Int) ≤ (R.fs.length : Nat) by omega) (show ((R.fs.length : Nat) : Int) ≤ (R.fc : Nat) by omega) ?_
  repeat first|refine sp ?_|refine cond_t rfl ?_|refine cond_f rfl ?_|refine asT_i rfl rfl ?_|refine asA_i rfl rfl ?_|refine h.l rfl ?_|refine h.hd rfl ?_|(refine h.sb rfl rfl ?_;clear h;intro _ h)|(refine h.dw ?_;clear h;intro _ h)
  replace h := h.cut (some ⟨R.fp, 0, none⟩) R.fs.length (by dsimp only; omega)
  rw [show (((R.f :: R.fs).reverse.flatMap (frC R.fb R.fo)).take (R.fs.length * 4)) = R.fs.reverse.flatMap (frC R.fb R.fo) by
    rw [List.reverse_cons, List.flatMap_append]; exact List.take_left' (by rw [fl_lenN (frC_len _ _), List.length_reverse])] at h
  rcases hR : R.fs with _ | ⟨f2, fs2⟩
  · refine cond_t rfl ?_
    refine hT hR va _ ⟨_, _, h.sub (List.Sublist.cons_cons _ (List.Sublist.cons _ (List.Sublist.cons _ (List.Sublist.cons_cons _ (List.Sublist.cons_cons _ (List.Sublist.cons _ ?_))))))⟩
    exact List.sublist_append_right _ _
  · rw [hR] at h
    refine cond_f (by simp; omega) (jn_of (fun s w' => ∃ va p c, Hs w0 w' { R with f := f2, fs := fs2, sk := l ++ r, sp := p, sc := c, va := va }.rows) (fun _ w' ⟨va, p, c, h⟩ => hF f2 fs2 hR va p c _ h) ?_)
    replace h : Hs w0 _ { R with f := f2, fs := fs2, sk := l, va := va }.rows := h.sub (List.Sublist.cons_cons _ (List.Sublist.cons_cons _ (List.Sublist.cons_cons _ (List.Sublist.cons_cons _ (List.Sublist.cons_cons _ (List.sublist_cons_self _ _))))))
    intro J hJ
    refine cond_split (fun h1 => ?_) fun h1 => ?_
    · have h1 : x.f.res ≠ 0 := by simpa using h1
      obtain rfl := hva h1
      repeat first|refine sp ?_|refine cond_t rfl ?_|refine cond_f rfl ?_|refine asT_i rfl rfl ?_|refine asA_i rfl rfl ?_|refine h.l rfl ?_|refine h.hd rfl ?_|(refine h.sb rfl rfl ?_;clear h;intro _ h)|(refine h.dw ?_;clear h;intro _ h)
      refine push_k h (by dsimp only; omega) ?_
      clear h
      intro p c w2 h
      repeat first|refine sp ?_|refine cond_t rfl ?_|refine cond_f rfl ?_|refine asT_i rfl rfl ?_|refine asA_i rfl rfl ?_|refine h.l rfl ?_|refine h.hd rfl ?_|(refine h.sb rfl rfl ?_;clear h;intro _ h)|(refine h.dw ?_;clear h;intro _ h)
      exact hJ _ _ ⟨_, _, _, h⟩
    · have h1 : x.f.res = 0 := by simpa using h1
      obtain rfl := hr.1 h1
      exact hJ _ _ ⟨_, _, _, (List.append_nil l).symm ▸ h⟩
end
end Go.Proofs.YtndbhmmejjhcfaaGreatDoor
namespace Go.Proofs.YtndbhmmejjhcfaaGreatDoor
open Go Go.Sx Go.Vp
def okV (c : UInt8) (v : Int) : Prop := I64 v ∧ (c = 98 → v = 0 ∨ v = 1)
def Ty : Lt → List Int → Prop
  | [], [] => True
  | c :: s, v :: vs => okV c v ∧ Ty s vs
  | _, _ => False
theorem Ty.len : ∀ {s : Lt} {vs : List Int}, Ty s vs → vs.length = s.length
  | [], [], _ => rfl
  | c :: s, v :: vs, h => by simp [Ty.len h.2]
  | [], _ :: _, h => h.elim
  | _ :: _, [], h => h.elim
theorem Ty.app : ∀ {s t : Lt} {vs us : List Int}, Ty s vs → Ty t us → Ty (s ++ t) (vs ++ us)
  | [], _, [], _, _, k => k
  | c :: s, _, v :: vs, _, h, k => ⟨h.1, Ty.app h.2 k⟩
  | [], _, _ :: _, _, h, _ => h.elim
  | _ :: _, _, [], _, h, _ => h.elim
theorem Ty.split : ∀ {s t : Lt} {vs : List Int}, Ty (s ++ t) vs → ∃ a b, vs = a ++ b ∧ Ty s a ∧ Ty t b
  | [], t, vs, h => ⟨[], vs, rfl, trivial, h⟩
  | c :: s, t, v :: vs, h => by
    obtain ⟨a, b, rfl, h1, h2⟩ := Ty.split (s := s) h.2
    exact ⟨v :: a, b, rfl, ⟨h.1, h1⟩, h2⟩
  | c :: s, t, [], h => h.elim
theorem Ty.nil {vs : List Int} (h : Ty [] vs) : vs = [] := List.eq_nil_of_length_eq_zero h.len
theorem Ty.one {c : UInt8} {vs : List Int} (h : Ty [c] vs) : ∃ v, vs = [v] ∧ okV c v := by
  match vs, h with
  | [v], h => exact ⟨v, rfl, h.1⟩
theorem Ty.two {c d : UInt8} {vs : List Int} (h : Ty [c, d] vs) : ∃ v u, vs = [v, u] ∧ okV c v ∧ okV d u := by
  match vs, h with
  | [v, u], h => exact ⟨v, u, rfl, h.1, h.2.1⟩
theorem Ty.at {s : Lt} {vs : List Int} (h : Ty s vs) : ∀ {i : Nat} {c : UInt8}, s[i]? = some c → okV c (vs.getD i 0) := by
  induction s generalizing vs with
  | nil => intro i c hi; simp at hi
  | cons a s ih =>
    match vs, h with
    | v :: vs, h =>
      intro i c hi
      cases i with
      | zero => simp at hi; subst hi; exact h.1
      | succ i => simpa using ih h.2 (by simpa using hi)
theorem Ty.set {s : Lt} {vs : List Int} (h : Ty s vs) : ∀ {i : Nat} {c : UInt8} {v : Int}, s[i]? = some c → okV c v → Ty s (vs.set i v) := by
  induction s generalizing vs with
  | nil => intro i c v hi; simp at hi
  | cons a s ih =>
    match vs, h with
    | u :: vs, h =>
      intro i c v hi hv
      cases i with
      | zero => simp at hi; subst hi; exact ⟨hv, h.2⟩
      | succ i => exact ⟨h.1, ih h.2 (by simpa using hi) hv⟩
theorem okV.z (c : UInt8) : okV c 0 := ⟨I64.z, fun _ => .inl rfl⟩
theorem Ty.zeros : ∀ s : Lt, Ty s (List.replicate s.length 0)
  | [] => trivial
  | c :: s => ⟨okV.z c, Ty.zeros s⟩
def fits (got tk : Lt) : Prop := got.length = tk.length ∧ (tk.head? ≠ some 84 → tk ≠ [78, 78] → got = tk)
theorem ends_split {s tk : Lt} (h : endsM s tk = true) : ∃ s0 got, s = s0 ++ got ∧ fits got tk ∧ ∀ pu, newL s tk pu = s0 ++ pu := by
  unfold endsM at h
  split at h
  · cases h
  rename_i hl
  refine ⟨s.take (s.length - tk.length), s.drop (s.length - tk.length), (List.take_append_drop _ _).symm, ⟨by simp; omega, fun h1 h2 => ?_⟩, fun pu => rfl⟩
  simp only [h1, h2, if_false] at h
  simpa using h
def Below (X : Im) (T : Nat → Nat → Option Lt) : Int → List Fr → List Int → Prop
  | _, [], sk => sk = []
  | res, f :: fs, sk => ∃ g s seg sk', X.fn[f.fn]? = some g ∧ sk = sk' ++ seg ∧ f.base = sk'.length ∧ Ty s seg ∧ T f.fn f.at' = some (s ++ resL res) ∧ Ty (rowL g.loc) f.l ∧ Below X T g.res fs sk'
def Top (X : Im) (T : Nat → Nat → Option Lt) (f : Fr) (fs : List Fr) (sk : List Int) : Prop := Below X T 0 (f :: fs) sk
theorem resL0 : resL 0 = [] := rfl
theorem Below.top {X : Im} {T : Nat → Nat → Option Lt} {res : Int} {f : Fr} {fs : List Fr} {sk vs : List Int} (h : Below X T res (f :: fs) sk) (hv : Ty (resL res) vs) : Top X T f fs (sk ++ vs) := by
  obtain ⟨g, s, seg, sk', h1, rfl, h3, h4, h5, h6, h7⟩ := h
  exact ⟨g, s ++ resL res, seg ++ vs, sk', h1, by simp, h3, h4.app hv, by rw [h5, resL0, List.append_nil], h6, h7⟩
section
variable {X : Im} {T : Nat → Nat → Option Lt} {f : Fr} {fs : List Fr} {sk : List Int}
theorem Top.view (hT : ∀ k g, X.fn[k]? = some g → Typing X g (T k)) (h : Top X T f fs sk) :
    ∃ g i s0 got pre tak, X.fn[f.fn]? = some g ∧ g.code[f.at']? = some i ∧ StepOK X g (T f.fn) f.at' (s0 ++ got) i ∧ (∀ pu, newL (s0 ++ got) (meansM X g i).1 pu = s0 ++ pu) ∧ fits got (meansM X g i).1 ∧
      sk = pre ++ tak ∧ Ty got tak ∧ f.base ≤ pre.length ∧ Ty (rowL g.loc) f.l ∧
      (∀ (f2 : Fr) (vs : List Int) (t : Lt) (res : Int), f2.fn = f.fn → f2.base = f.base → Ty (rowL g.loc) f2.l → Ty t vs → T f.fn f2.at' = some (s0 ++ t ++ resL res) → Below X T res (f2 :: fs) (pre ++ vs)) ∧
      (s0 = [] → pre.length = f.base ∧ Below X T g.res fs pre) := by
  obtain ⟨g, s, seg, sk', h1, rfl, h3, h4, h5, h6, h7⟩ := h
  rw [resL0, List.append_nil] at h5
  obtain ⟨i, hi, hs⟩ := (hT _ _ h1).step _ _ h5
  obtain ⟨s0, got, rfl, hf, hn⟩ := ends_split hs.ends
  obtain ⟨seg0, tak, rfl, h8, h9⟩ := h4.split
  refine ⟨g, i, s0, got, sk' ++ seg0, tak, h1, hi, hs, hn, hf, by simp, h9, by simp; omega, h6, fun f2 vs t res e1 e2 e3 e4 e5 => ?_, fun h0 => ?_⟩
  · exact ⟨g, s0 ++ t, seg0 ++ vs, sk', by rw [e1]; exact h1, by simp, by rw [e2]; exact h3, h8.app e4, by rw [e1]; exact e5, e3, h7⟩
  · subst h0
    rw [h8.nil, List.append_nil]
    exact ⟨h3.symm, h7⟩
end
def sizeG (g : Gl) : Int := if g.z > 1 then g.z else 1
def StOK (X : Im) (st : List Sv) : Prop := st.length = X.gl.length ∧ ∀ (k : Nat) (g : Gl) (s : Sv), X.gl[k]? = some g → st[k]? = some s → (s.l.length : Int) = sizeG g ∧ ∀ v ∈ s.l, okV (l5 g.t) v
theorem StOK.set {X : Im} {st : List Sv} (h : StOK X st) {k : Nat} {g : Gl} {s : Sv} (hg : X.gl[k]? = some g) (hs : st[k]? = some s) {i : Nat} {v : Int} (hv : okV (l5 g.t) v) : StOK X (st.set k { s with l := s.l.set i v }) := by
  refine ⟨by rw [List.length_set]; exact h.1, fun j g' s' hg' hs' => ?_⟩
  by_cases hj : j = k
  · subst hj
    rw [List.getElem?_set_self (List.getElem?_eq_some_iff.1 hs).1] at hs'
    rw [hg] at hg'
    cases hg'
    cases hs'
    have := h.2 j g s hg hs
    refine ⟨by simpa using this.1, fun u hu => ?_⟩
    rcases List.mem_or_eq_of_mem_set hu with hu | rfl
    · exact this.2 u hu
    · exact hv
  · rw [List.getElem?_set_ne (fun e => hj e.symm)] at hs'
    exact h.2 j g' s' hg' hs'
theorem StOK.get {X : Im} {st : List Sv} (h : StOK X st) {k : Nat} {g : Gl} (hg : X.gl[k]? = some g) : ∃ s, st[k]? = some s ∧ (s.l.length : Int) = sizeG g ∧ ∀ v ∈ s.l, okV (l5 g.t) v := by
  have hk : k < st.length := by rw [h.1]; exact (List.getElem?_eq_some_iff.1 hg).1
  exact ⟨st[k], List.getElem?_eq_getElem hk, h.2 k g _ hg (List.getElem?_eq_getElem hk)⟩
theorem globL_some {X : Im} {n : Int} {el : Bool} (h : globL X n el ≠ []) : ∃ (k : Nat) (g : Gl), n = (k : Int) ∧ X.gl[k]? = some g ∧ globL X n el = [l5 g.t] := by
  unfold globL at h ⊢
  split at h
  · exact absurd rfl h
  rename_i hn
  split at h
  · rename_i g hg
    split at h
    · rename_i he
      refine ⟨n.toNat, g, by omega, hg, ?_⟩
      simp [he]; omega
    · exact absurd rfl h
  · exact absurd rfl h
theorem l5_cases (t : Int) : l5 t = 46 ∨ l5 t = 105 ∨ l5 t = 102 ∨ l5 t = 98 ∨ l5 t = 101 ∨ l5 t = 0 := by
  unfold l5
  generalize t.toNat = n
  match n with
  | 0 => simp
  | 1 => simp
  | 2 => simp
  | 3 => simp
  | 4 => simp
  | n + 5 => simp
theorem l5_ne {t : Int} : [l5 t].head? ≠ some 84 := by
  have := l5_cases t
  intro h
  simp only [List.head?_cons, Option.some.injEq] at h
  rw [h] at this
  revert this
  decide
structure Verified (X : Im) (T : Nat → Nat → Option Lt) : Prop where
  typ : ∀ k g, X.fn[k]? = some g → Typing X g (T k)
  par : ∀ g ∈ X.fn, ∃ r, g.loc = g.par ++ r
  i64 : ∀ g ∈ X.fn, ∀ i ∈ g.code, I64 i.a ∧ 1 ≤ i.op ∧ i.op ≤ 33
structure Mid (X : Im) (T : Nat → Nat → Option Lt) (f : Fr) (fs : List Fr) (sk : List Int) (g : Fi) (i : Ins) (s0 got : Lt) (pre tak : List Int) : Prop where
  ver : Verified X T
  hg : X.fn[f.fn]? = some g
  hi : g.code[f.at' - 1]? = some i
  one : 1 ≤ f.at'
  ok : StepOK X g (T f.fn) (f.at' - 1) (s0 ++ got) i
  new : ∀ pu, newL (s0 ++ got) (meansM X g i).1 pu = s0 ++ pu
  fit : fits got (meansM X g i).1
  sk : sk = pre ++ tak
  ty : Ty got tak
  loc : Ty (rowL g.loc) f.l
  go : ∀ (f2 : Fr) (vs : List Int) (t : Lt) (res : Int), f2.fn = f.fn → f2.base = f.base → Ty (rowL g.loc) f2.l → Ty t vs → T f.fn f2.at' = some (s0 ++ t ++ resL res) → Below X T res (f2 :: fs) (pre ++ vs)
  ret : s0 = [] → pre.length = f.base ∧ Below X T g.res fs pre
theorem Top.mid {X : Im} {T : Nat → Nat → Option Lt} {f : Fr} {fs : List Fr} {sk : List Int} (hV : Verified X T) (h : Top X T f fs sk) :
    ∃ g i s0 got pre tak, X.fn[f.fn]? = some g ∧ g.code[f.at']? = some i ∧ Mid X T { f with at' := f.at' + 1 } fs sk g i s0 got pre tak := by
  obtain ⟨g, i, s0, got, pre, tak, hg, hi, hs, hn, hfit, hsk, htak, hbase, hloc, hnext, hret⟩ := Top.view hV.typ h
  exact ⟨g, i, s0, got, pre, tak, hg, hi, hV, hg, by simpa using hi, by simp, by simpa using hs, hn, hfit, hsk, htak, hloc, hnext, hret⟩
section
variable {X : Im} {T : Nat → Nat → Option Lt} {f : Fr} {fs : List Fr} {sk : List Int} {g : Fi} {i : Ins} {s0 got : Lt} {pre tak : List Int}
theorem Mid.has (h : Mid X T f fs sk g i s0 got pre tak) {tk : Lt} (ht : (meansM X g i).1 = tk) (h1 : tk.head? ≠ some 84) (h2 : tk ≠ [78, 78]) : Ty tk tak := by
  have := h.fit.2 (by rw [ht]; exact h1) (by rw [ht]; exact h2)
  rw [ht] at this
  exact this ▸ h.ty
theorem Mid.len (h : Mid X T f fs sk g i s0 got pre tak) {tk : Lt} (ht : (meansM X g i).1 = tk) : tak.length = tk.length := by
  rw [h.ty.len, h.fit.1, ht]
theorem Mid.next (h : Mid X T f fs sk g i s0 got pre tak) (h1 : i.op ≠ 28) (h2 : i.op ≠ 32) {pu : Lt} (hp : (meansM X g i).2.1 = pu) {vs : List Int} (hv : Ty pu vs) {l : List Int} (hl : Ty (rowL g.loc) l) : Top X T { f with l := l } fs (pre ++ vs) := by
  have h3 := h.ok.next h1 h2
  rw [h.new, hp, Nat.sub_add_cancel h.one] at h3
  exact h.go { f with l := l } vs pu 0 rfl rfl hl hv (by rw [resL0, List.append_nil]; exact h3)
theorem Mid.jump (h : Mid X T f fs sk g i s0 got pre tak) (h1 : i.op = 28 ∨ i.op = 29) {pu : Lt} (hp : (meansM X g i).2.1 = pu) {vs : List Int} (hv : Ty pu vs) : Top X T { f with at' := i.a.toNat } fs (pre ++ vs) := by
  have h3 := h.ok.jump h1
  rw [h.new, hp] at h3
  exact h.go { f with at' := i.a.toNat } vs pu 0 rfl rfl h.loc hv (by rw [resL0, List.append_nil]; exact h3)
theorem Mid.call (h : Mid X T f fs sk g i s0 got pre tak) (h1 : i.op ≠ 28) (h2 : i.op ≠ 32) {res : Int} (hp : (meansM X g i).2.1 = resL res) : Below X T res (f :: fs) pre := by
  have h3 := h.ok.next h1 h2
  rw [h.new, hp, Nat.sub_add_cancel h.one] at h3
  have := h.go f [] [] res rfl rfl h.loc trivial (by rw [List.append_nil]; exact h3)
  rwa [List.append_nil] at this
theorem Mid.leave (h : Mid X T f fs sk g i s0 got pre tak) (h1 : i.op = 32) : Ty (resL g.res) tak ∧ pre.length = f.base ∧ Below X T g.res fs pre := by
  have hm : (meansM X g i).1 = resL g.res := by simp [meansM, h1]
  have hm2 : (meansM X g i).2.1 = [] := by simp [meansM, h1]
  have h3 := h.ok.ret h1
  rw [h.new, hm2, List.append_nil] at h3
  refine ⟨h.has hm ?_ ?_, h.ret h3⟩
  · unfold resL; split
    · simp
    · exact l5_ne
  · unfold resL; split <;> simp
theorem Below.enter (hV : Verified X T) {res : Int} {sk : List Int} (h : Below X T res fs sk) {y : Fr} {g : Fi} (hg : X.fn[y.fn]? = some g) (hr : g.res = res) (hat : y.at' = 0) (hb : y.base = sk.length) {al : List Int} (ha : Ty (rowL g.par) al)
    (hl : y.l = al ++ List.replicate (g.loc.length - al.length) 0) : Top X T y fs sk := by
  refine ⟨g, [], [], sk, hg, by simp, hb, trivial, ?_, ?_, hr ▸ h⟩
  · rw [hat]; exact (hV.typ _ _ hg).start
  · obtain ⟨r, e⟩ := hV.par g (List.mem_of_getElem? hg)
    have hn := ha.len
    rw [hl, e]
    unfold rowL at *
    rw [List.map_append]
    refine ha.app ?_
    have := Ty.zeros (r.map l5)
    rw [List.length_map] at hn this
    rwa [show (g.par ++ r).length - al.length = r.length by simp; omega]
end
end Go.Proofs.YtndbhmmejjhcfaaGreatDoor
namespace Go.Proofs.YtndbhmmejjhcfaaGreatDoor
open Go Go.Sx Go.Vp
section
variable {X : Im} {T : Nat → Nat → Option Lt} {f : Fr} {fs : List Fr} {sk : List Int} {g : Fi} {i : Ins} {s0 got : Lt} {pre tak : List Int} {st : List Sv}
theorem okV_i {c : UInt8} {v : Int} (h : I64 v) (hc : c ≠ 98) : okV c v := ⟨h, fun e => absurd e hc⟩
theorem okV_b {v : Int} (h : v = 0 ∨ v = 1) : okV 98 v := ⟨by rcases h with rfl | rfl <;> exact ⟨by decide, by decide⟩, fun _ => h⟩
theorem Ty.of1 {c : UInt8} {v : Int} (h : okV c v) : Ty [c] [v] := ⟨h, trivial⟩
theorem Mid.m1 (h : Mid X T f fs sk g i s0 got pre tak) (ho : i.op = 1) : tak = [] ∧ Top X T f fs (pre ++ [i.a]) := by
  have hok := h.ok.ok
  have hm : meansM X g i = ([], [l5 i.b], decide (i.b = 1 ∨ i.b = 2 ∨ (i.b = 3 ∧ (i.a = 0 ∨ i.a = 1)) ∨ (i.b = 4 ∧ i.a = 0))) := by simp [meansM, ho]
  rw [hm] at hok
  have hok := of_decide_eq_true hok
  have hi := (h.ver.i64 g (List.mem_of_getElem? h.hg) i (List.mem_of_getElem? h.hi)).1
  refine ⟨(h.has (tk := []) (by rw [hm]) (by decide) (by decide)).nil, h.next (by omega) (by omega) (pu := [l5 i.b]) (by rw [hm]) (Ty.of1 ⟨hi, fun e => ?_⟩) h.loc⟩
  rcases hok with e1 | e1 | ⟨e1, e2⟩ | ⟨e1, e2⟩
  · rw [e1] at e; exact absurd e (by decide)
  · rw [e1] at e; exact absurd e (by decide)
  · exact e2
  · exact .inl e2
theorem loc_at (h : Ty (rowL g.loc) f.l) {a : Int} (h0 : 0 ≤ a) (h1 : a < g.loc.length) : ∃ k : Nat, a = (k : Int) ∧ k < f.l.length ∧ (rowL g.loc)[k]? = some (l5 (g.loc.getD a.toNat 0)) := by
  obtain ⟨k, rfl⟩ := Int.eq_ofNat_of_zero_le h0
  have hk : k < g.loc.length := by omega
  refine ⟨k, rfl, by rw [h.len]; simpa [rowL] using hk, ?_⟩
  simp [rowL, hk]
theorem Mid.m2 (h : Mid X T f fs sk g i s0 got pre tak) (ho : i.op = 2) : ∃ k : Nat, i.a = (k : Int) ∧ k < f.l.length ∧ tak = [] ∧ Top X T f fs (pre ++ [f.l.getD k 0]) := by
  have hok := h.ok.ok
  by_cases hb : i.a < 0 ∨ i.a ≥ g.loc.length
  · simp [meansM, ho, hb] at hok
  have hm : meansM X g i = ([], [l5 (g.loc.getD i.a.toNat 0)], decide (i.b = 0)) := by simp [meansM, ho, hb]
  obtain ⟨k, e, hk, hc⟩ := loc_at h.loc (a := i.a) (by omega) (by omega)
  exact ⟨k, e, hk, (h.has (tk := []) (by rw [hm]) (by decide) (by decide)).nil, h.next (by omega) (by omega) (pu := [l5 (g.loc.getD i.a.toNat 0)]) (by rw [hm]) (Ty.of1 (h.loc.at hc)) h.loc⟩
theorem Mid.m3 (h : Mid X T f fs sk g i s0 got pre tak) (ho : i.op = 3) : ∃ (k : Nat) (v : Int), i.a = (k : Int) ∧ k < f.l.length ∧ tak = [v] ∧ Top X T { f with l := f.l.set k v } fs pre := by
  have hok := h.ok.ok
  by_cases hb : i.a < 0 ∨ i.a ≥ g.loc.length
  · simp [meansM, ho, hb] at hok
  have hm : meansM X g i = ([l5 (g.loc.getD i.a.toNat 0)], [], decide (i.b = 0)) := by simp [meansM, ho, hb]
  obtain ⟨k, e, hk, hc⟩ := loc_at h.loc (a := i.a) (by omega) (by omega)
  obtain ⟨v, rfl, hv⟩ := (h.has (by rw [hm]) l5_ne (by simp)).one
  have := h.next (by omega) (by omega) (pu := []) (by rw [hm]) (vs := []) trivial (h.loc.set hc hv)
  exact ⟨k, v, e, hk, rfl, by simpa using this⟩
theorem Mid.gl (h : Mid X T f fs sk g i s0 got pre tak) (hst : StOK X st) {el : Bool} (hne : globL X i.a el ≠ []) : ∃ (k : Nat) (y : Gl) (s : Sv), i.a = (k : Int) ∧ X.gl[k]? = some y ∧ st[k]? = some s ∧ 0 < s.l.length ∧ s.l.length ≤ 100000 + s.l.length ∧ (∀ v ∈ s.l, okV (l5 y.t) v) ∧ globL X i.a el = [l5 y.t] := by
  obtain ⟨k, y, e, hy, hg⟩ := globL_some hne
  obtain ⟨s, hs, hl, ht⟩ := hst.get hy
  refine ⟨k, y, s, e, hy, hs, ?_, by omega, ht, hg⟩
  have : 1 ≤ sizeG y := by unfold sizeG; split <;> omega
  omega
theorem getD_mem {l : List Int} {i : Nat} (h : i < l.length) : l.getD i 0 ∈ l := by simp [h]
theorem Mid.m4 (h : Mid X T f fs sk g i s0 got pre tak) (hst : StOK X st) (ho : i.op = 4) : ∃ (k : Nat) (s : Sv), i.a = (k : Int) ∧ st[k]? = some s ∧ 0 < s.l.length ∧ tak = [] ∧ Top X T f fs (pre ++ [s.l.getD 0 0]) := by
  have hm : meansM X g i = ([], globL X i.a false, decide (i.b = 0) && !(globL X i.a false).isEmpty) := by simp [meansM, ho]
  have hok := h.ok.ok
  rw [hm] at hok
  obtain ⟨k, y, s, e, hy, hs, hl, _, ht, hg⟩ := h.gl hst (el := false) (by intro h; simp [h] at hok)
  exact ⟨k, s, e, hs, hl, (h.has (tk := []) (by rw [hm]) (by decide) (by decide)).nil, h.next (by omega) (by omega) (pu := [l5 y.t]) (by rw [hm, hg]) (Ty.of1 (ht _ (getD_mem hl))) h.loc⟩
theorem Mid.m5 (h : Mid X T f fs sk g i s0 got pre tak) (hst : StOK X st) (ho : i.op = 5) : ∃ (k : Nat) (s : Sv) (v : Int), i.a = (k : Int) ∧ st[k]? = some s ∧ 0 < s.l.length ∧ tak = [v] ∧ StOK X (st.set k { s with l := s.l.set 0 v }) ∧ Top X T f fs pre := by
  have hm : meansM X g i = (globL X i.a false, [], decide (i.b = 0) && !(globL X i.a false).isEmpty) := by simp [meansM, ho]
  have hok := h.ok.ok
  rw [hm] at hok
  obtain ⟨k, y, s, e, hy, hs, hl, _, ht, hg⟩ := h.gl hst (el := false) (by intro h; simp [h] at hok)
  obtain ⟨v, rfl, hv⟩ := (h.has (tk := [l5 y.t]) (by rw [hm, hg]) l5_ne (by simp)).one
  have := h.next (by omega) (by omega) (pu := []) (by rw [hm]) (vs := []) trivial h.loc
  exact ⟨k, s, v, e, hs, hl, rfl, hst.set hy hs hv, by simpa using this⟩
theorem Mid.m6 (h : Mid X T f fs sk g i s0 got pre tak) (hst : StOK X st) (ho : i.op = 6) : ∃ (k : Nat) (s : Sv) (n : Int), i.a = (k : Int) ∧ st[k]? = some s ∧ tak = [n] ∧ I64 n ∧ ∀ j, j < s.l.length → Top X T f fs (pre ++ [s.l.getD j 0]) := by
  have hm : meansM X g i = ([105], globL X i.a true, decide (i.b = 0) && !(globL X i.a true).isEmpty) := by simp [meansM, ho]
  have hok := h.ok.ok
  rw [hm] at hok
  obtain ⟨k, y, s, e, hy, hs, hl, _, ht, hg⟩ := h.gl hst (el := true) (by intro h; simp [h] at hok)
  obtain ⟨v, rfl, hv⟩ := (h.has (tk := [105]) (by rw [hm]) (by decide) (by decide)).one
  exact ⟨k, s, v, e, hs, rfl, hv.1, fun j hj => h.next (by omega) (by omega) (pu := [l5 y.t]) (by rw [hm, hg]) (Ty.of1 (ht _ (getD_mem hj))) h.loc⟩
theorem Mid.m7 (h : Mid X T f fs sk g i s0 got pre tak) (hst : StOK X st) (ho : i.op = 7) : ∃ (k : Nat) (s : Sv) (n v : Int), i.a = (k : Int) ∧ st[k]? = some s ∧ tak = [n, v] ∧ I64 n ∧ (∀ j, StOK X (st.set k { s with l := s.l.set j v })) ∧ Top X T f fs pre := by
  have hm : meansM X g i = (105 :: globL X i.a true, [], decide (i.b = 0) && !(globL X i.a true).isEmpty) := by simp [meansM, ho]
  have hok := h.ok.ok
  rw [hm] at hok
  obtain ⟨k, y, s, e, hy, hs, hl, _, ht, hg⟩ := h.gl hst (el := true) (by intro h; simp [h] at hok)
  obtain ⟨n, v, rfl, hn, hv⟩ := (h.has (tk := [105, l5 y.t]) (by rw [hm, hg]) (by simp) (by simp)).two
  have := h.next (by omega) (by omega) (pu := []) (by rw [hm]) (vs := []) trivial h.loc
  exact ⟨k, s, n, v, e, hs, rfl, hn.1, fun j => hst.set hy hs hv, by simpa using this⟩
theorem Mid.m28 (h : Mid X T f fs sk g i s0 got pre tak) (ho : i.op = 28) : 0 ≤ i.a ∧ tak = [] ∧ Top X T { f with at' := i.a.toNat } fs pre := by
  have hm : meansM X g i = ([], [], decide (i.b = 0) && decide (0 ≤ i.a ∧ i.a < g.code.length)) := by simp [meansM, ho]
  have hok := h.ok.ok
  rw [hm] at hok
  simp only [Bool.and_eq_true, decide_eq_true_eq] at hok
  have := h.jump (.inl ho) (pu := []) (by rw [hm]) (vs := []) trivial
  exact ⟨hok.2.1, (h.has (tk := []) (by rw [hm]) (by decide) (by decide)).nil, by simpa using this⟩
theorem Mid.m29 (h : Mid X T f fs sk g i s0 got pre tak) (ho : i.op = 29) : ∃ v, 0 ≤ i.a ∧ tak = [v] ∧ Top X T f fs pre ∧ Top X T { f with at' := i.a.toNat } fs pre := by
  have hm : meansM X g i = ([98], [], decide (i.b = 0) && decide (0 ≤ i.a ∧ i.a < g.code.length)) := by simp [meansM, ho]
  have hok := h.ok.ok
  rw [hm] at hok
  simp only [Bool.and_eq_true, decide_eq_true_eq] at hok
  obtain ⟨v, rfl, hv⟩ := (h.has (tk := [98]) (by rw [hm]) (by decide) (by decide)).one
  have h1 := h.jump (.inr ho) (pu := []) (by rw [hm]) (vs := []) trivial
  have h2 := h.next (by omega) (by omega) (pu := []) (by rw [hm]) (vs := []) trivial h.loc
  exact ⟨v, hok.2.1, rfl, by simpa using h2, by simpa using h1⟩
theorem Mid.m33 (h : Mid X T f fs sk g i s0 got pre tak) (ho : i.op = 33) : ∃ v, tak = [v] ∧ Top X T f fs pre := by
  have hm : meansM X g i = ([84], [], decide (i.b = 0) && decide (i.a = 0)) := by simp [meansM, ho, plainV]
  have hl := h.len (tk := [84]) (by rw [hm])
  obtain ⟨v, rfl⟩ : ∃ v, tak = [v] := by
    match tak, hl with
    | [v], _ => exact ⟨v, rfl⟩
  have h2 := h.next (by omega) (by omega) (pu := []) (by rw [hm]) (vs := []) trivial h.loc
  exact ⟨v, rfl, by simpa using h2⟩
theorem Mid.mOne (h : Mid X T f fs sk g i s0 got pre tak) (ho : i.op = 13 ∨ i.op = 18 ∨ i.op = 25 ∨ i.op = 26 ∨ i.op = 27) : ∃ v, tak = [v] ∧ (i.op = 25 → v = 0 ∨ v = 1) ∧ ∀ u, I64 u → (i.op = 25 → u = 0 ∨ u = 1) → Top X T f fs (pre ++ [u]) := by
  have key : ∀ c d : UInt8, c ≠ 84 → (meansM X g i).1 = [c] → (meansM X g i).2.1 = [d] → (i.op = 25 → c = 98) → (d = 98 → i.op = 25) → ∃ v, tak = [v] ∧ (i.op = 25 → v = 0 ∨ v = 1) ∧ ∀ u, I64 u → (i.op = 25 → u = 0 ∨ u = 1) → Top X T f fs (pre ++ [u]) := by
    intro c d hc h1 h2 h3 h4
    obtain ⟨v, rfl, hv⟩ := (h.has h1 (by simpa using hc) (by simp)).one
    exact ⟨v, rfl, fun e => hv.2 (h3 e), fun u hu hu2 => h.next (by omega) (by omega) h2 (Ty.of1 ⟨hu, fun e => hu2 (h4 e)⟩) h.loc⟩
  rcases ho with e | e | e | e | e
  · exact key 105 105 (by decide) (by simp [meansM, e, plainV]) (by simp [meansM, e, plainV]) (by omega) (by simp)
  · exact key 102 102 (by decide) (by simp [meansM, e, plainV]) (by simp [meansM, e, plainV]) (by omega) (by simp)
  · exact key 98 98 (by decide) (by simp [meansM, e, plainV]) (by simp [meansM, e, plainV]) (by simp) (by simp [e])
  · exact key 105 102 (by decide) (by simp [meansM, e, plainV]) (by simp [meansM, e, plainV]) (by omega) (by simp)
  · exact key 102 105 (by decide) (by simp [meansM, e, plainV]) (by simp [meansM, e, plainV]) (by omega) (by simp)
theorem Ty.i64 : ∀ {s : Lt} {vs : List Int}, Ty s vs → ∀ v ∈ vs, I64 v
  | [], [], _, _, hv => absurd hv (by simp)
  | [], _ :: _, h, _, _ => h.elim
  | _ :: _, [], h, _, _ => h.elim
  | c :: s, u :: us, h, v, hv => by
    rcases List.mem_cons.1 hv with rfl | hv
    · exact h.1.1
    · exact Ty.i64 h.2 v hv
theorem Mid.mBin (h : Mid X T f fs sk g i s0 got pre tak) (ho : (8 ≤ i.op ∧ i.op ≤ 12) ∨ (14 ≤ i.op ∧ i.op ≤ 17) ∨ (19 ≤ i.op ∧ i.op ≤ 24)) :
    ∃ a b, tak = [a, b] ∧ I64 a ∧ I64 b ∧ ∀ u, I64 u → (19 ≤ i.op → u = 0 ∨ u = 1) → Top X T f fs (pre ++ [u]) := by
  have key : ∀ (c1 c2 d : UInt8), (meansM X g i).1 = [c1, c2] → (meansM X g i).2.1 = [d] → (d = 98 → 19 ≤ i.op) → ∃ a b, tak = [a, b] ∧ I64 a ∧ I64 b ∧ ∀ u, I64 u → (19 ≤ i.op → u = 0 ∨ u = 1) → Top X T f fs (pre ++ [u]) := by
    intro c1 c2 d h1 h2 h4
    have hl := h.len h1
    obtain ⟨a, b, rfl⟩ : ∃ a b, tak = [a, b] := by
      match tak, hl with
      | [a, b], _ => exact ⟨a, b, rfl⟩
    have hi := h.ty.i64
    exact ⟨a, b, rfl, hi a (by simp), hi b (by simp), fun u hu hu2 => h.next (by omega) (by omega) h2 (Ty.of1 ⟨hu, fun e => hu2 (h4 e)⟩) h.loc⟩
  have hop : i.op = 8 ∨ i.op = 9 ∨ i.op = 10 ∨ i.op = 11 ∨ i.op = 12 ∨ i.op = 14 ∨ i.op = 15 ∨ i.op = 16 ∨ i.op = 17 ∨ i.op = 19 ∨ i.op = 20 ∨ i.op = 21 ∨ i.op = 22 ∨ i.op = 23 ∨ i.op = 24 := by omega
  rcases hop with e | e | e | e | e | e | e | e | e | e | e | e | e | e | e <;>
    exact key _ _ _ (by simp [meansM, e, plainV]; exact ⟨rfl, rfl⟩) (by simp [meansM, e, plainV]; rfl) (by simp [e])
theorem Mid.mCall (h : Mid X T f fs sk g i s0 got pre tak) (ho : i.op = 30) : ∃ (k : Nat) (y : Fi), i.a = (k : Int) ∧ X.fn[k]? = some y ∧ Ty (rowL y.par) tak ∧ Below X T y.res (f :: fs) pre := by
  have hok := h.ok.ok
  by_cases hb : i.a < 0 ∨ i.a ≥ X.fn.length
  · simp [meansM, ho, hb] at hok
  obtain ⟨k, e⟩ := Int.eq_ofNat_of_zero_le (show 0 ≤ i.a by omega)
  have hk : k < X.fn.length := by omega
  have hm : meansM X g i = (rowL X.fn[k].par, resL X.fn[k].res, decide (i.b = 0)) := by
    simp only [meansM, ho, hb]
    simp [e, hk]
  refine ⟨k, X.fn[k], e, List.getElem?_eq_getElem hk, h.has (by rw [hm]) ?_ ?_, h.call (by omega) (by omega) (by rw [hm])⟩
  · cases hp : X.fn[k].par with
    | nil => simp [rowL]
    | cons t r => have := @l5_ne t; simpa [rowL] using this
  · cases hp : X.fn[k].par with
    | nil => simp [rowL]
    | cons t r =>
      intro h
      have h1 : (rowL (t :: r)).head? = some 78 := by rw [h]; rfl
      have h2 : l5 t = 78 := by simpa [rowL] using h1
      have := l5_cases t
      rw [h2] at this
      revert this
      decide
theorem Mid.mSys (h : Mid X T f fs sk g i s0 got pre tak) (ho : i.op = 31) : ∃ (k : Nat) (p : List Int × Int), i.a = (k : Int) ∧ k < 16 ∧ sysL[k]? = some p ∧ tak.length = p.1.length ∧ Below X T p.2 (f :: fs) pre := by
  have hok := h.ok.ok
  by_cases hb : i.a < 0 ∨ i.a ≥ 16
  · simp [meansM, ho, hb] at hok
  obtain ⟨k, e⟩ := Int.eq_ofNat_of_zero_le (show 0 ≤ i.a by omega)
  have hk : k < sysL.length := by simp [sysL]; omega
  have hm : meansM X g i = (rowL sysL[k].1, resL sysL[k].2, decide (i.b = 0)) := by
    simp only [meansM, ho, hb]
    simp [e, hk]
  refine ⟨k, sysL[k], e, by omega, List.getElem?_eq_getElem hk, ?_, h.call (by omega) (by omega) (by rw [hm])⟩
  rw [h.len (by rw [hm])]
  simp [rowL]
end
end Go.Proofs.YtndbhmmejjhcfaaGreatDoor
namespace Go.Proofs.YtndbhmmejjhcfaaGreatDoor
open Go Go.Sx Go.Vp
attribute [local irreducible] jn lv ld st nw asI asB asP asS asY asM asF asA asT lp rn ru rq cl dw dr bnd bn2 nz nn hd hr so eqW
attribute [local irreducible] callOk
theorem cond_op {x k : Int} {A B : Prop} (h1 : x = k → A) (h2 : x ≠ k → B) : cond (x == k) A B :=
  cond_split (fun h => h1 (by simpa using h)) fun h => h2 (by simpa using h)
theorem bit_k {b : Bool} {w : World} {K : Value → World → Prop} (hK : ∀ v, v = 0 ∨ v = 1 → K (i6 v) w) : cl Tryz.prog 63 #[.bool b] w K := by
  apply F63_calls
  unfold F63
  exact sp (cond_split (fun _ => sp (hK 1 (.inr rfl))) fun _ => sp (hK 0 (.inl rfl)))
section
variable {a b : Int} {w : World} {K : Value → World → Prop}
theorem two_fin {k : Nat} (hk : callOk Tryz.prog k = true) (h : cl Tryz.prog k #[i6 a, i6 b] w K) :
    asN (.func (.func k) #[] #[]) fun k fs cs => cond (callOk Tryz.prog k) (cl Tryz.prog k (fs ++ #[i6 a, i6 b] ++ cs) w K) (xt Tryz.prog k (fs ++ #[i6 a, i6 b] ++ cs) w K) :=
  ⟨k, #[], #[], rfl, cond_t hk h⟩
theorem tmod_i {a b : Int} (hb : b ≠ 0) (h : I64 b) : I64 (Int.tmod a b) := by
  have h1 : (Int.tmod a b).natAbs = a.natAbs % b.natAbs := Int.natAbs_tmod a b
  have h2 : a.natAbs % b.natAbs < b.natAbs := Nat.mod_lt _ (by omega)
  unfold I64 at *
  omega
def binOp (op : Int) : Prop := (8 ≤ op ∧ op ≤ 12) ∨ (14 ≤ op ∧ op ≤ 17) ∨ (19 ≤ op ∧ op ≤ 24)
theorem two_k {op : Int} (hnz : op = 11 ∨ op = 12 ∨ op = 17 → b ≠ 0) (hb : I64 b) (hK : ∀ v w', I64 v → (19 ≤ op → v = 0 ∨ v = 1) → Ext no w w' → K (i6 v) w') :
    cl Tryz.prog 116 #[i6 op] w fun v1 w1 => asN v1 fun k fs cs => cond (callOk Tryz.prog k) (cl Tryz.prog k (fs ++ #[i6 a, i6 b] ++ cs) w1 K) (xt Tryz.prog k (fs ++ #[i6 a, i6 b] ++ cs) w1 K) := by
  have h01 : ∀ v : Int, v = 0 ∨ v = 1 → I64 v := by
    rintro v (rfl | rfl) <;> exact ⟨by decide, by decide⟩
  apply F116_calls
  unfold F116
  refine of_lvv ?_
  refine cond_op (fun h => two_fin (by kernel_rfl) ?_) fun _ => ?_
  · subst h; apply F164_calls; unfold F164; exact sp (sp (hK _ _ (I64.w _) (fun h => absurd h (by decide)) (Ext.refl _ _)))
  refine cond_op (fun h => two_fin (by kernel_rfl) ?_) fun _ => ?_
  · subst h; apply F165_calls; unfold F165; exact sp (sp (hK _ _ (I64.w _) (fun h => absurd h (by decide)) (Ext.refl _ _)))
  refine cond_op (fun h => two_fin (by kernel_rfl) ?_) fun _ => ?_
  · subst h; apply F166_calls; unfold F166; exact sp (sp (hK _ _ (I64.w _) (fun h => absurd h (by decide)) (Ext.refl _ _)))
  refine cond_op (fun h => two_fin (by kernel_rfl) ?_) fun _ => ?_
  · subst h; apply F167_calls; unfold F167; exact sp (nz_mk (hnz (.inl rfl)) (sp (hK _ _ (I64.w _) (fun h => absurd h (by decide)) (Ext.refl _ _))))
  refine cond_op (fun h => two_fin (by kernel_rfl) ?_) fun _ => ?_
  · subst h; apply F168_calls; unfold F168; exact sp (nz_mk (hnz (.inr (.inl rfl))) (sp (hK _ _ (tmod_i (hnz (.inr (.inl rfl))) hb) (fun h => absurd h (by decide)) (Ext.refl _ _))))
  refine cond_op (fun h => two_fin (by kernel_rfl) ?_) fun _ => ?_
  · subst h; exact fadd_k fun v w' hi hx => hK v w' hi (fun h => absurd h (by decide)) hx
  refine cond_op (fun h => two_fin (by kernel_rfl) ?_) fun _ => ?_
  · subst h; exact fsub_k fun v w' hi hx => hK v w' hi (fun h => absurd h (by decide)) hx
  refine cond_op (fun h => two_fin (by kernel_rfl) ?_) fun _ => ?_
  · subst h; exact fmul_k fun v w' hi hx => hK v w' hi (fun h => absurd h (by decide)) hx
  refine cond_op (fun h => two_fin (by kernel_rfl) ?_) fun _ => ?_
  · subst h; exact fdiv_k (hnz (.inr (.inr rfl))) hb fun v w' hi hx => hK v w' hi (fun h => absurd h (by decide)) hx
  refine cond_op (fun h => two_fin (by kernel_rfl) ?_) fun _ => ?_
  · apply F173_calls; unfold F173; exact sp (bit_k fun v hv => sp (sp (hK _ _ (h01 v hv) (fun _ => hv) (Ext.refl _ _))))
  refine cond_op (fun h => two_fin (by kernel_rfl) ?_) fun _ => ?_
  · apply F174_calls; unfold F174; exact sp (bit_k fun v hv => sp (sp (hK _ _ (h01 v hv) (fun _ => hv) (Ext.refl _ _))))
  refine cond_op (fun h => two_fin (by kernel_rfl) ?_) fun _ => ?_
  · apply F175_calls; unfold F175; exact sp (bit_k fun v hv => sp (sp (hK _ _ (h01 v hv) (fun _ => hv) (Ext.refl _ _))))
  refine cond_op (fun h => two_fin (by kernel_rfl) ?_) fun _ => ?_
  · apply F176_calls; unfold F176; exact sp (bit_k fun v hv => sp (sp (hK _ _ (h01 v hv) (fun _ => hv) (Ext.refl _ _))))
  refine cond_op (fun h => two_fin (by kernel_rfl) ?_) fun _ => ?_
  · apply F177_calls; unfold F177; exact sp (bit_k fun v hv => sp (sp (hK _ _ (h01 v hv) (fun _ => hv) (Ext.refl _ _))))
  refine two_fin (by kernel_rfl) ?_
  apply F178_calls; unfold F178; exact sp (bit_k fun v hv => sp (sp (hK _ _ (h01 v hv) (fun _ => hv) (Ext.refl _ _))))
end
end Go.Proofs.YtndbhmmejjhcfaaGreatDoor
namespace Go.Proofs.YtndbhmmejjhcfaaGreatDoor
open Go Go.Sx Go.Vp
attribute [local irreducible] jn lv ld st nw asI asB asP asS asY asM asF asA asT lp rn ru rq cl dw dr bnd bn2 nz nn hd hr so eqW
attribute [local irreducible] callOk
structure RunOK (T : Nat → Nat → Option Lt) (R : Rg) : Prop where
  top : Top R.M.I.im T R.f R.fs R.sk
  st : StOK R.M.I.im R.st
  fs : R.fs.length ≤ 63
  fu : 0 ≤ R.fu ∧ R.fu ≤ 4095
  sk : (R.sk.length : Int) + R.fu ≤ 5000
  aq : (R.aq.length : Int) + R.fu ≤ 5000
  aw : ∀ a ∈ R.aq, 0 ≤ a.call ∧ a.call < 16 ∧ a.l.length ≤ 100
  wa : R.wa = false
  en : R.en = false
  tr : R.tr = 0
structure EndOK (R : Rg) : Prop where
  st : StOK R.M.I.im R.st
  fu : 0 ≤ R.fu ∧ R.fu ≤ 4095
  aq : (R.aq.length : Int) ≤ 5000
  aw : ∀ a ∈ R.aq, 0 ≤ a.call ∧ a.call < 16 ∧ a.l.length ≤ 100
  wa : R.wa = false
  en : R.en = true
  tr : 0 ≤ R.tr ∧ R.tr ≤ 5
structure WaitOK (T : Nat → Nat → Option Lt) (R : Rg) : Prop where
  top : ∃ (k : Nat) (p : List Int × Int) (aq : List As) (a : As), R.aq = aq ++ [a] ∧ a.call = (k : Int) ∧ sysL[k]? = some p ∧ Below R.M.I.im T p.2 (R.f :: R.fs) R.sk
  st : StOK R.M.I.im R.st
  fs : R.fs.length ≤ 63
  fu : 0 ≤ R.fu ∧ R.fu ≤ 4094
  sk : (R.sk.length : Int) + R.fu ≤ 4999
  aq : (R.aq.length : Int) + R.fu ≤ 5000
  aw : ∀ a ∈ R.aq, 0 ≤ a.call ∧ a.call < 16 ∧ a.l.length ≤ 100
  wa : R.wa = true
  en : R.en = false
  tr : R.tr = 0
structure Like (R R' : Rg) : Prop where
  q : R'.q = R.q
  M : R'.M = R.M
  fb : R'.fb = R.fb
  fo : R'.fo = R.fo
  fu : R'.fu ≤ R.fu
  ex : R'.ex = R.ex
theorem RunOK.fin {T : Nat → Nat → Option Lt} {R : Rg} (h : RunOK T R) {tr : Int} (ht : 0 ≤ tr ∧ tr ≤ 5) : EndOK { R with en := true, tr := tr } :=
  ⟨h.st, h.fu, by have := h.fu; have := h.aq; dsimp only; omega, h.aw, h.wa, rfl, ht⟩
theorem im_fn {I : Is} {k : Nat} {g : Fi} (h : I.im.fn[k]? = some g) : ∃ x, I.fs[k]? = some x ∧ x.f = g := by
  simp only [Is.im, List.getElem?_map, Option.map_eq_some_iff] at h
  exact h
theorem RunOK.mk' {T : Nat → Nat → Option Lt} {R R' : Rg} (h : RunOK T R) (hM : R'.M = R.M) (ht : Top R.M.I.im T R'.f R'.fs R'.sk) (hst : StOK R.M.I.im R'.st) (hfs : R'.fs.length ≤ 63) (hfu : R'.fu = R.fu - 1) (h0 : R.fu ≠ 0) (hsk : R'.sk.length ≤ R.sk.length + 1) (haq : R'.aq = R.aq) (hwa : R'.wa = R.wa) (hen : R'.en = R.en) (htr : R'.tr = R.tr) : RunOK T R' := by
  have h1 := h.fu
  have h2 := h.sk
  have h3 := h.aq
  refine ⟨hM ▸ ht, hM ▸ hst, hfs, by omega, by omega, by rw [haq]; omega, by rw [haq]; exact h.aw, by rw [hwa]; exact h.wa, by rw [hen]; exact h.en, by rw [htr]; exact h.tr⟩
theorem _root_.Go.Sx.Hs.del3 {w0 w : World} {a b c x : Rw} {Rs : List Rw} (h : Hs w0 w (a :: b :: c :: x :: Rs)) : Hs w0 w (a :: b :: c :: Rs) :=
  h.sub (List.Sublist.cons_cons _ (List.Sublist.cons_cons _ (List.Sublist.cons_cons _ (List.sublist_cons_self _ _))))
theorem perm_ask {w0 w : World} {a b c d e f : Rw} {R : Rg} {y : As} (h : Hs w0 w (y.row :: a :: b :: c :: d :: e :: f :: R.tl)) : Hs w0 w (a :: b :: c :: d :: e :: f :: { R with aq := R.aq ++ [y] }.tl) := by
  refine h.perm ?_
  have := List.perm_middle (l₁ := [a, b, c, d, e, f] ++ (R.fs.map Fr.row ++ (R.st.map Sv.row ++ R.aq.map As.row))) (a := y.row) (l₂ := R.ex)
  simpa [Rg.tl] using this
set_option maxHeartbeats 4000000 in
theorem loop_k {w0 w : World} {R : Rg} {T : Nat → Nat → Option Lt} (h : Hs w0 w R.rows) (hC : Ctx w0 R.M R.fb R.fo) (hV : Verified R.M.I.im T) (hR : RunOK T R) {K : Value → World → Prop}
    (hE : ∀ R' w', Like R R' → EndOK R' → Fin w0 w' R' → K (.tuple #[]) w') (hW : ∀ R' w', Like R R' → R'.fu < R.fu → WaitOK T R' → Hs w0 w' R'.rows → K (.tuple #[]) w') : cl Tryz.prog 61 #[.pointer (some ⟨R.q, 0, none⟩)] w K := by
  apply F61_calls
  unfold F61
  refine jn_of (fun s w' => ∃ tr R', s = [i6 tr] ∧ Like R R' ∧ EndOK { R' with en := true, tr := tr } ∧ Hs w0 w' R'.rows) ?_ ?_
  · rintro _ w1 ⟨tr, R', rfl, hl, hR', h⟩
    rw [← hl.q]
    repeat first|refine sp ?_|refine cond_t rfl ?_|refine cond_f rfl ?_|refine asT_i rfl rfl ?_|refine asA_i rfl rfl ?_|refine h.l rfl ?_|refine h.hd rfl ?_|(refine h.sb rfl rfl ?_;clear h;intro _ h)|(refine h.dw ?_;clear h;intro _ h)
    exact hE { R' with en := true, tr := tr } _ ⟨hl.q, hl.M, hl.fb, hl.fo, hl.fu, hl.ex⟩ hR' (Fin.of h)
  intro J3 hJ3
  refine sp (lp_mk (fun _ : Unit => []) (fun n _ w => ∃ R', n = R'.fu.toNat ∧ Like R R' ∧ RunOK T R' ∧ Hs w0 w R'.rows) R.fu.toNat () rfl ⟨R, rfl, ⟨rfl, rfl, rfl, rfl, Int.le_refl _, rfl⟩, hR, h⟩ ?_)
  clear hR h
  rintro n _ w ⟨R1, rfl, hl, hR, h⟩ J9 hJ9
  rw [← hl.M, ← hl.fb, ← hl.fo] at hC
  rw [← hl.M] at hV
  rw [← hl.q]
  repeat first|refine sp ?_|refine cond_t rfl ?_|refine cond_f rfl ?_|refine asT_i rfl rfl ?_|refine asA_i rfl rfl ?_|refine h.l rfl ?_|refine h.hd rfl ?_|(refine h.sb rfl rfl ?_;clear h;intro _ h)|(refine h.dw ?_;clear h;intro _ h)
  refine cond_split (fun h1 => sp (hJ3 _ _ ⟨_, R1, rfl, hl, hR.fin ⟨by decide, by decide⟩, h⟩)) fun h1 => ?_
  have hfu : R1.fu ≠ 0 := by simpa using h1
  have hf2 := hR.fu
  have hfs := hR.fs
  repeat first|refine sp ?_|refine cond_t rfl ?_|refine cond_f rfl ?_|refine asT_i rfl rfl ?_|refine asA_i rfl rfl ?_|refine h.l rfl ?_|refine h.hd rfl ?_|(refine h.sb rfl rfl ?_;clear h;intro _ h)|(refine h.dw ?_;clear h;intro _ h)
  have efu : IntKind.wrap .i64 (R1.fu - 1) = R1.fu - 1 := wr64 (by omega) (by omega)
  have efs : IntKind.wrap .i64 (((R1.fs.length + 1 : Nat) : Int) - 1) = (R1.fs.length : Nat) := by rw [wr64 (by omega) (by omega)]; omega
  rw [efu] at h
  rw [efs]
  refine bnd_mk (by omega) (by omega) ?_
  rw [Int.toNat_natCast, add_mk, Nat.zero_add]
  obtain ⟨g, i, s0, got, pre, tak, hg, hi, hm⟩ := Top.mid hV hR.top
  obtain ⟨x, hx, rfl⟩ := im_fn hg
  have hM := hC.m.I
  have hxl := hC.l x (List.mem_of_getElem? hx)
  have hcode := (hM.each x (List.mem_of_getElem? hx)).code
  have hil := (List.getElem?_eq_some_iff.1 hi).1
  repeat first|refine sp ?_|refine cond_t rfl ?_|refine cond_f rfl ?_|refine asT_i rfl rfl ?_|refine asA_i rfl rfl ?_|refine h.l rfl ?_|refine h.hd rfl ?_|(refine h.sb rfl rfl ?_;clear h;intro _ h)|(refine h.dw ?_;clear h;intro _ h)|refine h.l (fl_at0 (frC_len _ _) rfl) ?_|refine h.l (fl_at (frC_len _ _) rfl) ?_|refine ld_mk (hC.fc h hx rfl) ?_
  refine Reads.atN inC_len hcode rfl hi (by decide) fun a ha hca => ?_
  rw [Int.toNat_natCast]
  have hc0 : w0.cell? (Addr.add a (R1.f.at' * 3)) = some (i6 i.op) := by
    have := hca 0 (by decide)
    rwa [Sx.add_zero'] at this
  have hc1 := hca 1 (by decide)
  have hc2 := hca 2 (by decide)
  refine ld_mk (h.oc hc0) (sp (ld_mk (h.oc hc1) (sp (ld_mk (h.oc hc2) (sp ?_)))))
  refine h.nw ?_
  clear h
  intro q w1 h
  repeat first|refine sp ?_|refine cond_t rfl ?_|refine cond_f rfl ?_|refine asT_i rfl rfl ?_|refine asA_i rfl rfl ?_|refine h.l rfl ?_|refine h.hd rfl ?_|(refine h.sb rfl rfl ?_;clear h;intro _ h)|(refine h.dw ?_;clear h;intro _ h)|refine hd_i (h.oc hc0) ?_|refine hd_i (h.oc hc1) ?_|refine hd_i (h.oc hc2) ?_|refine hd_i (hC.fc h hx rfl) ?_|refine h.hd (fl_at (frC_len _ _) rfl) ?_|refine h.hd (fl_at0 (frC_len _ _) rfl) ?_|refine h.l (fl_at (frC_len _ _) rfl) ?_
  refine h.sx (by rw [fl_lenN (frC_len _ _)]; simp; omega) rfl ?_
  clear h
  intro w2 h
  have e1 : IntKind.wrap .i64 ((R1.f.at' : Int) + 1) = ((R1.f.at' + 1 : Nat) : Int) := by have := hxl.2.2; rw [wr64 (by omega) (by omega)]; simp
  rw [e1, fl_set (frC_len _ _) (y := { R1.f with at' := R1.f.at' + 1 }) rfl] at h
  obtain ⟨R2, hR2⟩ : ∃ R2, R2 = { R1 with fu := R1.fu - 1, f := { R1.f with at' := R1.f.at' + 1 } } := ⟨_, rfl⟩
  replace h : Hs w0 w2 (bk 81 q [i6 i.op, i6 i.a, i6 i.b] :: R2.rows) := by rw [hR2]; exact h
  have hlen : R2.sk.length ≤ 5000 := by have := hR.sk; rw [hR2]; dsimp only; omega
  replace hm : Mid R2.M.I.im T R2.f R2.fs R2.sk x.f i s0 got pre tak := by rw [hR2]; exact hm
  have hst : StOK R2.M.I.im R2.st := by rw [hR2]; exact hR.st
  have hC2 : Ctx w0 R2.M R2.fb R2.fo := by rw [hR2]; exact hC
  have hV2 : Verified R2.M.I.im T := by rw [hR2]; exact hV
  have hl2 : Like R R2 := by rw [hR2]; exact ⟨hl.q, hl.M, hl.fb, hl.fo, by have := hl.fu; dsimp only; omega, hl.ex⟩
  have hlt : R2.fu < R.fu := by have := hl.fu; rw [hR2]; dsimp only; omega
  have hop := (hV.i64 x.f (List.mem_of_getElem? hg) i (List.mem_of_getElem? hi)).2
  have done : ∀ {w' f fs fp fc sk p c st va}, Hs w0 w' { R2 with f := f, fs := fs, fp := fp, fc := fc, sk := sk, sp := p, sc := c, st := st, va := va }.rows → Top R2.M.I.im T f fs sk → StOK R2.M.I.im st → fs.length ≤ 63 → sk.length ≤ R2.sk.length + 1 → J9 [] w' := by
    intro w' f fs fp fc sk p c st va hh ht hs hf hk
    rw [hR2] at ht hs hk
    refine hJ9 R2.fu.toNat () w' (by rw [hR2]; dsimp only; omega) ⟨{ R2 with f := f, fs := fs, fp := fp, fc := fc, sk := sk, sp := p, sc := c, st := st, va := va }, rfl, ⟨hl2.q, hl2.M, hl2.fb, hl2.fo, hl2.fu, hl2.ex⟩, hR.mk' (by rw [hR2]) ht hs hf (by rw [hR2]) hfu hk (by rw [hR2]) (by rw [hR2]) (by rw [hR2]) (by rw [hR2]), hh⟩
  have trap : ∀ (tr : Int) w' sk, 0 ≤ tr → tr ≤ 5 → Hs w0 w' { R2 with sk := sk }.rows → J3 [i6 tr] w' := by
    intro tr w' sk h0 h1 hh
    refine hJ3 _ _ ⟨tr, { R2 with sk := sk }, rfl, ⟨hl2.q, hl2.M, hl2.fb, hl2.fo, hl2.fu, hl2.ex⟩, ⟨hst, ?_, ?_, ?_, ?_, rfl, h0, h1⟩, hh⟩
    · rw [hR2]; dsimp only; omega
    · have := hR.aq; rw [hR2]; dsimp only; omega
    · rw [hR2]; exact hR.aw
    · rw [hR2]; exact hR.wa
  have eq1 : R1.q = R2.q := by rw [hR2]
  have eq2 : R1.fp = R2.fp := by rw [hR2]
  have eq3 : R1.fs.length = R2.fs.length := by rw [hR2]
  rw [eq1, eq2, eq3]
  have hfs2 : R2.fs.length ≤ 63 := by omega
  have hsk := hm.sk
  clear hca hc0 hc1 hc2 ha a hcode efu efs e1 eq1 eq2 eq3 hxl hJ9
  repeat first|refine sp ?_|refine cond_t rfl ?_|refine cond_f rfl ?_|refine asT_i rfl rfl ?_|refine asA_i rfl rfl ?_|refine h.l rfl ?_|refine h.hd rfl ?_|(refine h.sb rfl rfl ?_;clear h;intro _ h)|(refine h.dw ?_;clear h;intro _ h)
  refine jn_of (fun s w' => ∃ b, s = [.bool b] ∧ (b = true ↔ i.op = 1 ∨ i.op = 2 ∨ i.op = 3 ∨ i.op = 4 ∨ i.op = 5 ∨ i.op = 28 ∨ i.op = 29 ∨ i.op = 33) ∧ w' = w2) ?_ ?_
  rotate_left
  · intro J hJ
    iterate 7 refine cond_op (fun h1 => hJ _ _ ⟨_, rfl, by rw [beq_iff_eq]; omega, rfl⟩) fun h1 => ?_
    exact hJ _ _ ⟨_, rfl, by rw [beq_iff_eq]; omega, rfl⟩
  rintro _ w3 ⟨b, rfl, hb, rfl⟩
  refine sp (cond_split (fun hbt => ?_) fun hbf => ?_)
  · have hb := hb.1 hbt
    repeat first|refine sp ?_|refine cond_t rfl ?_|refine cond_f rfl ?_|refine asT_i rfl rfl ?_|refine asA_i rfl rfl ?_|refine h.l rfl ?_|refine h.hd rfl ?_|(refine h.sb rfl rfl ?_;clear h;intro _ h)|(refine h.dw ?_;clear h;intro _ h)
    rcases hb with e | e | e | e | e | e | e | e
    · obtain ⟨rfl, ht⟩ := hm.m1 e
      rw [List.append_nil] at hsk
      rw [e]
      exact plain1 h.tail (by omega) fun p c w' h => done h (by rw [hsk]; exact ht) hst hfs2 (by simp)
    · obtain ⟨k, ek, hk, rfl, ht⟩ := hm.m2 e
      rw [List.append_nil] at hsk
      rw [e, ek]
      exact plain2 h.tail (by omega) hk fun p c w' h => done h (by rw [hsk]; exact ht) hst hfs2 (by simp)
    · obtain ⟨k, v, ek, hk, rfl, ht⟩ := hm.m3 e
      rw [e, ek]
      exact plain3 h.tail (by omega) hk hsk fun w' h => done h ht hst hfs2 (by simp [hsk]; omega)
    · obtain ⟨k, s, ek, hs, hl, rfl, ht⟩ := hm.m4 hst e
      rw [List.append_nil] at hsk
      rw [e, ek]
      exact plain4 h.tail (by omega) hs hl fun p c w' h => done h (by rw [hsk]; exact ht) hst hfs2 (by simp)
    · obtain ⟨k, s, v, ek, hs, hl, rfl, hst2, ht⟩ := hm.m5 hst e
      rw [e, ek]
      exact plain5 h.tail (by omega) hs hl hsk fun w' h => done h ht hst2 hfs2 (by simp [hsk]; omega)
    · obtain ⟨h0, rfl, ht⟩ := hm.m28 e
      rw [List.append_nil] at hsk
      obtain ⟨k, ek⟩ := Int.eq_ofNat_of_zero_le h0
      rw [e, ek]
      rw [ek] at ht
      exact plain28 h.tail fun w' h => done h (by rw [hsk]; exact ht) hst hfs2 (by simp)
    · obtain ⟨v, h0, rfl, ht, ht2⟩ := hm.m29 e
      obtain ⟨k, ek⟩ := Int.eq_ofNat_of_zero_le h0
      rw [e, ek]
      rw [ek] at ht2
      exact plain29 h.tail (by omega) hsk (fun w' _ h => done h ht hst hfs2 (by simp [hsk]; omega)) fun w' _ h => done h ht2 hst hfs2 (by simp [hsk]; omega)
    · obtain ⟨v, rfl, ht⟩ := hm.m33 e
      rw [e]
      exact plain33 h.tail (by omega) hsk fun w' h => done h ht hst hfs2 (by simp [hsk]; omega)
  have hb1 : ¬ (i.op = 1 ∨ i.op = 2 ∨ i.op = 3 ∨ i.op = 4 ∨ i.op = 5 ∨ i.op = 28 ∨ i.op = 29 ∨ i.op = 33) := fun h => by rw [hb.2 h] at hbf; cases hbf
  clear hb hbf b
  refine jn_of (fun s w' => ∃ b, s = [.bool b] ∧ (b = true ↔ i.op = 13 ∨ i.op = 18 ∨ i.op = 25 ∨ i.op = 26 ∨ i.op = 27) ∧ w' = w3) ?_ ?_
  rotate_left
  · intro J hJ
    iterate 4 refine cond_op (fun h1 => hJ _ _ ⟨_, rfl, by rw [beq_iff_eq]; omega, rfl⟩) fun h1 => ?_
    exact hJ _ _ ⟨_, rfl, by rw [beq_iff_eq]; omega, rfl⟩
  rintro _ w4 ⟨b, rfl, hb, rfl⟩
  refine sp (cond_split (fun hbt => ?_) fun hbf => ?_)
  · have hb := hb.1 hbt
    repeat first|refine sp ?_|refine cond_t rfl ?_|refine cond_f rfl ?_|refine asT_i rfl rfl ?_|refine asA_i rfl rfl ?_|refine h.l rfl ?_|refine h.hd rfl ?_|(refine h.sb rfl rfl ?_;clear h;intro _ h)|(refine h.dw ?_;clear h;intro _ h)
    obtain ⟨v, rfl, h25, ht⟩ := hm.mOne hb
    exact one_k h.tail hsk (by omega) hb h25 fun u p c w' hu hu2 h => done h (ht u hu hu2) hst hfs2 (by simp [hsk])
  have hb2 : ¬ (i.op = 13 ∨ i.op = 18 ∨ i.op = 25 ∨ i.op = 26 ∨ i.op = 27) := fun h => by rw [hb.2 h] at hbf; cases hbf
  clear hb hbf b
  refine jn_of (fun s w' => ∃ b, s = [.bool b] ∧ (b = true ↔ i.op = 6 ∨ i.op = 7) ∧ w' = w4) ?_ ?_
  rotate_left
  · intro J hJ
    iterate 1 refine cond_op (fun h1 => hJ _ _ ⟨_, rfl, by rw [beq_iff_eq]; omega, rfl⟩) fun h1 => ?_
    exact hJ _ _ ⟨_, rfl, by rw [beq_iff_eq]; omega, rfl⟩
  rintro _ w5 ⟨b, rfl, hb, rfl⟩
  refine sp (cond_split (fun hbt => ?_) fun hbf => ?_)
  · have hb := hb.1 hbt
    repeat first|refine sp ?_|refine cond_t rfl ?_|refine cond_f rfl ?_|refine asT_i rfl rfl ?_|refine asA_i rfl rfl ?_|refine h.l rfl ?_|refine h.hd rfl ?_|(refine h.sb rfl rfl ?_;clear h;intro _ h)|(refine h.dw ?_;clear h;intro _ h)
    rcases hb with e | e
    · obtain ⟨k, s, n, ek, hs, rfl, hn, ht⟩ := hm.m6 hst e
      rw [e, ek]
      exact el6 h.tail (by omega) hs hn hsk (fun w' h => sp (cond_t rfl (sp (trap 3 w' _ (by decide) (by decide) h)))) fun j p c w' hj h => sp (cond_f rfl (done h (ht j hj) hst hfs2 (by simp [hsk])))
    · obtain ⟨k, s, n, v, ek, hs, rfl, hn, hst2, ht⟩ := hm.m7 hst e
      rw [e, ek]
      exact el7 h.tail (by omega) hs hn hsk (fun w' h => sp (cond_t rfl (sp (trap 3 w' _ (by decide) (by decide) h)))) fun j w' hj h => sp (cond_f rfl (done h ht (hst2 j) hfs2 (by simp [hsk]; omega)))
  have hb3 : ¬ (i.op = 6 ∨ i.op = 7) := fun h => by rw [hb.2 h] at hbf; cases hbf
  clear hb hbf b
  have hM := hC2.m
  refine cond_op (fun e => ?_) fun h30 => ?_
  · obtain ⟨k, y, ek, hy, hty, hbel⟩ := hm.mCall e
    obtain ⟨x2, hx2, rfl⟩ := im_fn hy
    have hn := hty.len
    have hkl : k < R2.M.I.fs.length := (List.getElem?_eq_some_iff.1 hx2).1
    obtain ⟨rest, hrest⟩ := hV2.par x2.f (List.mem_of_getElem? hy)
    rw [ek] at h
    repeat first|refine sp ?_|refine cond_t rfl ?_|refine cond_f rfl ?_|refine asT_i rfl rfl ?_|refine asA_i rfl rfl ?_|refine h.l rfl ?_|refine h.hd rfl ?_|(refine h.sb rfl rfl ?_;clear h;intro _ h)|(refine h.dw ?_;clear h;intro _ h)|refine ld_mk (h.oc hM.g) ?_|refine ld_mk (h.oc hM.f) ?_
    rw [hC2.f]
    refine dr_i (bnd_mk (by omega) (by omega) ?_)
    rw [Int.toNat_natCast, add_mk]
    refine ld_mk (hC2.fc h hx2 rfl) (sp ?_)
    have hpl : x2.f.par.length = tak.length := by rw [hn]; simp [rowL]
    rw [hpl]
    refine pops_k h.in2 hsk (by omega) ?_
    clear h
    intro pa ca w6 h
    refine sp (hd_i ?_ ?_)
    · rw [← hpl]; exact hC2.fc h hx2 rfl
    repeat first|refine sp ?_|refine cond_t rfl ?_|refine cond_f rfl ?_|refine asT_i rfl rfl ?_|refine asA_i rfl rfl ?_|refine h.l rfl ?_|refine h.hd rfl ?_|(refine h.sb rfl rfl ?_;clear h;intro _ h)|(refine h.dw ?_;clear h;intro _ h)
    refine hd_i ?_ ?_
    · rw [← hC2.f]; exact h.oc hM.f
    repeat first|refine sp ?_|refine cond_t rfl ?_|refine cond_f rfl ?_|refine asT_i rfl rfl ?_|refine asA_i rfl rfl ?_|refine h.l rfl ?_|refine h.hd rfl ?_|(refine h.sb rfl rfl ?_;clear h;intro _ h)|(refine h.dw ?_;clear h;intro _ h)
    refine cond_op (fun _ => ?_) fun h64 => ?_
    · refine sp (trap 4 _ pre (by decide) (by decide) ?_)
      exact h.sub (List.Sublist.cons _ (List.Sublist.cons_cons _ (List.Sublist.cons_cons _ (List.sublist_cons_self _ _))))
    repeat first|refine sp ?_|refine cond_t rfl ?_|refine cond_f rfl ?_|refine asT_i rfl rfl ?_|refine asA_i rfl rfl ?_|refine h.l rfl ?_|refine h.hd rfl ?_|(refine h.sb rfl rfl ?_;clear h;intro _ h)|(refine h.dw ?_;clear h;intro _ h)
    have hrd : Reads w6 pa (iw tak) := h.rd (r := ⟨3, 1, pa, ca, tak.length, iw tak⟩) List.mem_cons_self
    replace h := h.sub (Rs' := { R2 with sk := pre }.rows) (List.Sublist.cons _ (List.Sublist.cons_cons _ (List.Sublist.cons_cons _ (List.sublist_cons_self _ _))))
    refine enter_k hC2 h hx2 (by dsimp only; omega) hrd rfl (by rw [hrest, List.length_append]; omega) ?_
    clear h hrd
    intro y g fc w7 y1 y2 y3 y4 h
    have e5 : (R2.f :: R2.fs).reverse.flatMap (frC R2.fb R2.fo) ++ frC R2.fb R2.fo y = (y :: R2.f :: R2.fs).reverse.flatMap (frC R2.fb R2.fo) := by simp
    erw [e5] at h
    exact done (f := y) (fs := R2.f :: R2.fs) (fp := g) (fc := fc) (sk := pre) h (Below.enter hV2 hbel (by rw [y1]; exact hy) rfl y2 y4 hty (by rw [y3])) hst (by simp only [List.length_cons]; omega) (by simp [hsk]; omega)
  refine cond_op (fun e => ?_) fun h31 => ?_
  · obtain ⟨k, p, ek, hk16, hp, htl, hbel⟩ := hm.mSys e
    obtain ⟨y, hy, ey⟩ : ∃ y, R2.M.cs[k]? = some y ∧ (y.par, y.res) = p := by
      rw [← hM.sys, List.getElem?_map, Option.map_eq_some_iff] at hp
      exact hp
    have hpl : y.par.length = tak.length := by rw [htl, ← ey]
    have htk : tak.length ≤ 100 := by
      rw [htl]
      have : ∀ q ∈ sysL, q.1.length ≤ 100 := by decide
      exact this p (List.mem_of_getElem? hp)
    have haq := hR.aq
    have e2 : R2.aq.length = R1.aq.length := by rw [hR2]
    rw [ek] at h
    repeat first|refine sp ?_|refine cond_t rfl ?_|refine cond_f rfl ?_|refine asT_i rfl rfl ?_|refine asA_i rfl rfl ?_|refine h.l rfl ?_|refine h.hd rfl ?_|(refine h.sb rfl rfl ?_;clear h;intro _ h)|(refine h.dw ?_;clear h;intro _ h)|refine ld_mk (h.oc hM.g) ?_|refine ld_mk (h.oc hM.c) ?_
    refine Reads.atN csC_len hM.cs.rd rfl hy (by decide) fun a ha hca => ?_
    rw [Int.toNat_natCast]
    refine ld_mk (h.oc (hca 1 (by decide))) (sp ?_)
    rw [hpl]
    refine pops_k h.in2 hsk (by omega) ?_
    clear h
    intro pa ca w6 h
    refine sp (hd_i ?_ ?_)
    · rw [← hpl]; exact h.oc (hca 1 (by decide))
    repeat first|refine sp ?_|refine cond_t rfl ?_|refine cond_f rfl ?_|refine asT_i rfl rfl ?_|refine asA_i rfl rfl ?_|refine h.l rfl ?_|refine h.hd rfl ?_|(refine h.sb rfl rfl ?_;clear h;intro _ h)|(refine h.dw ?_;clear h;intro _ h)|refine hd_i (h.oc hM.c) ?_|refine hd_i (h.oc hM.g) ?_
    refine h.nw ?_
    clear h
    intro q8 w8 h
    refine hd_i ?_ ?_
    · rw [← hpl]; exact h.oc (hca 1 (by decide))
    repeat first|refine sp ?_|refine cond_t rfl ?_|refine cond_f rfl ?_|refine asT_i rfl rfl ?_|refine asA_i rfl rfl ?_|refine h.l rfl ?_|refine h.hd rfl ?_|(refine h.sb rfl rfl ?_;clear h;intro _ h)|(refine h.dw ?_;clear h;intro _ h)|refine hd_i (h.oc hM.c) ?_|refine hd_i (h.oc hM.g) ?_
    refine h.appT sl_as rfl (by simp [one]) (by omega) (by simp only [maxLen]; omega) ?_
    clear h
    intro q9 c9 w9 h
    refine sp (hd_i ?_ ?_)
    · rw [← hpl]; exact h.oc (hca 1 (by decide))
    repeat first|refine sp ?_|refine cond_t rfl ?_|refine cond_f rfl ?_|refine asT_i rfl rfl ?_|refine asA_i rfl rfl ?_|refine h.l rfl ?_|refine h.hd rfl ?_|(refine h.sb rfl rfl ?_;clear h;intro _ h)|(refine h.dw ?_;clear h;intro _ h)|refine hd_i (h.oc hM.c) ?_|refine hd_i (h.oc hM.g) ?_
    refine hW { R2 with sk := pre, ap := some ⟨q9, 0, none⟩, ac := c9, aq := R2.aq ++ [⟨(k : Int), pa, ca, tak⟩], wa := true } _ ⟨hl2.q, hl2.M, hl2.fb, hl2.fo, hl2.fu, hl2.ex⟩ hlt ⟨⟨k, p, R2.aq, ⟨(k : Int), pa, ca, tak⟩, rfl, rfl, hp, hbel⟩, hst, hfs2, ?_, ?_, ?_, ?_, rfl, ?_, ?_⟩ ?_
    · rw [hR2]; dsimp only; omega
    · have := hR.sk; rw [hR2] at hsk ⊢; dsimp only at hsk ⊢; rw [hsk, List.length_append] at this; omega
    · rw [hR2] at e2 ⊢; dsimp only at e2 ⊢; rw [List.length_append, List.length_singleton]; omega
    · intro z hz
      rcases List.mem_append.1 hz with hz | hz
      · have := hR.aw z; rw [hR2] at hz; exact this hz
      · rw [List.mem_singleton.1 hz]; exact ⟨by dsimp only; omega, by dsimp only; omega, htk⟩
    · rw [hR2]; exact hR.en
    · rw [hR2]; exact hR.tr
    · have e6 : R2.aq.flatMap asC ++ [i6 (k : Int), .slice pa tak.length ca] = (R2.aq ++ [(⟨(k : Int), pa, ca, tak⟩ : As)]).flatMap asC := by simp [asC]
      have e7 : R2.aq.length + 1 = (R2.aq ++ [(⟨(k : Int), pa, ca, tak⟩ : As)]).length := by simp
      rw [e6, e7] at h
      exact perm_ask h.del3
  refine cond_op (fun e => ?_) fun h32 => ?_
  · obtain ⟨hty, hpre, hbel⟩ := hm.leave e
    have hr : (x.f.res = 0 → tak = []) ∧ (x.f.res ≠ 0 → ∃ v, tak = [v]) := by
      unfold resL at hty
      refine ⟨fun h0 => ?_, fun h0 => ?_⟩
      · rw [if_pos h0] at hty; exact hty.nil
      · rw [if_neg h0] at hty; obtain ⟨v, e, _⟩ := hty.one; exact ⟨v, e⟩
    obtain ⟨x2, hx2, ex2⟩ := im_fn hm.hg
    refine back_k h.tail hC2 hx2 (by omega) (by omega) hsk (ex2 ▸ hr) hpre (fun hnil va w' hF => sp (cond_t rfl ?_)) fun f2 fs2 hfs va p c w' h => sp (cond_f rfl ?_)
    · obtain ⟨c3, c4, h⟩ := hF
      repeat first|refine sp ?_|refine cond_t rfl ?_|refine cond_f rfl ?_|refine asT_i rfl rfl ?_|refine asA_i rfl rfl ?_|refine h.l rfl ?_|refine h.hd rfl ?_|(refine h.sb rfl rfl ?_;clear h;intro _ h)|(refine h.dw ?_;clear h;intro _ h)
      refine hE { R2 with va := va, en := true } _ ⟨hl2.q, hl2.M, hl2.fb, hl2.fo, hl2.fu, hl2.ex⟩ ⟨hst, ?_, ?_, ?_, ?_, rfl, ?_⟩ ⟨_, _, h⟩
      · rw [hR2]; dsimp only; omega
      · have := hR.aq; rw [hR2]; dsimp only; omega
      · rw [hR2]; exact hR.aw
      · rw [hR2]; exact hR.wa
      · have := hR.tr; rw [hR2]; dsimp only; omega
    · rw [hfs] at hbel
      refine done h (hbel.top hty) hst (by rw [hfs] at hfs2; simp at hfs2; omega) (by simp [hsk])
  obtain ⟨a, b, rfl, ha, hb, ht⟩ := hm.mBin (by omega)
  refine pop_k h.in2 (l := pre ++ [a]) (v := b) (by rw [hsk]; simp) (by omega) ?_
  clear h
  intro w6 h
  refine sp (sp ?_)
  refine pop_k h (l := pre) (v := a) rfl (by rw [hsk] at hlen; simp at hlen ⊢; omega) ?_
  clear h
  intro w7 h
  replace h := h.out2
  refine sp (sp ?_)
  refine jn_of (fun s w' => ∃ t, s = [.bool t] ∧ (t = false → i.op = 11 ∨ i.op = 12 ∨ i.op = 17 → b ≠ 0) ∧ w' = w7) ?_ ?_
  rotate_left
  · intro J hJ
    refine cond_op (fun h1 => ?_) fun h1 => hJ _ _ ⟨_, rfl, fun _ _ => h1, rfl⟩
    repeat first|refine sp ?_|refine cond_t rfl ?_|refine cond_f rfl ?_|refine asT_i rfl rfl ?_|refine asA_i rfl rfl ?_|refine h.l rfl ?_|refine h.hd rfl ?_|(refine h.sb rfl rfl ?_;clear h;intro _ h)|(refine h.dw ?_;clear h;intro _ h)
    refine cond_op (fun h1 => hJ _ _ ⟨_, rfl, (fun h => by cases h), rfl⟩) fun h2 => ?_
    repeat first|refine sp ?_|refine cond_t rfl ?_|refine cond_f rfl ?_|refine asT_i rfl rfl ?_|refine asA_i rfl rfl ?_|refine h.l rfl ?_|refine h.hd rfl ?_|(refine h.sb rfl rfl ?_;clear h;intro _ h)|(refine h.dw ?_;clear h;intro _ h)
    refine cond_op (fun h1 => hJ _ _ ⟨_, rfl, (fun h => by cases h), rfl⟩) fun h3 => ?_
    repeat first|refine sp ?_|refine cond_t rfl ?_|refine cond_f rfl ?_|refine asT_i rfl rfl ?_|refine asA_i rfl rfl ?_|refine h.l rfl ?_|refine h.hd rfl ?_|(refine h.sb rfl rfl ?_;clear h;intro _ h)|(refine h.dw ?_;clear h;intro _ h)
    refine hJ _ _ ⟨_, rfl, fun h4 h5 => ?_, rfl⟩
    rw [beq_eq_false_iff_ne] at h4
    omega
  rintro _ w8 ⟨t, rfl, hnz, rfl⟩
  refine sp (cond_split (fun _ => sp (trap 2 _ pre (by decide) (by decide) h.tail)) fun hf => ?_)
  repeat first|refine sp ?_|refine cond_t rfl ?_|refine cond_f rfl ?_|refine asT_i rfl rfl ?_|refine asA_i rfl rfl ?_|refine h.l rfl ?_|refine h.hd rfl ?_|(refine h.sb rfl rfl ?_;clear h;intro _ h)|(refine h.dw ?_;clear h;intro _ h)
  refine two_k (hnz hf) hb fun u w' hu hu2 hx => sp ?_
  exact push_k (h.to hx).tail (by rw [hsk] at hlen; simp at hlen ⊢; omega) fun p c w' h => done h (ht u hu hu2) hst hfs2 (by simp [hsk])
end Go.Proofs.YtndbhmmejjhcfaaGreatDoor
namespace Go.Proofs.YtndbhmmejjhcfaaGreatDoor
open Go Go.Sx Go.Vp
attribute [local irreducible] jn lv ld st nw asI asB asP asS asY asM asF asA asT lp rn ru rq cl dw dr bnd bn2 nz nn hd hr so eqW
section
variable {w0 w : World} {R : Rg} {T : Nat → Nat → Option Lt} {K : Value → World → Prop}
theorem Fin.get {x : Rw} {e : List Rw} (hx : R.ex = x :: e) (h : Fin w0 w R) : ∃ c3 c4, Hs w0 w (x :: ⟨150, 10, some ⟨R.q, 0, none⟩, 1, 1, [.pointer (some ⟨R.M.mb, 0, none⟩), .slice R.op R.st.length R.oc, i6 R.fu, c3, c4, .slice R.ap R.aq.length R.ac, .bool R.wa, .bool R.en, i6 R.tr, i6 R.va]⟩ :: R.ar :: R.or :: (R.st.map Sv.row ++ (R.aq.map As.row ++ e))) := by
  obtain ⟨c3, c4, h⟩ := h
  refine ⟨c3, c4, h.perm ?_⟩
  rw [hx]
  have := List.perm_middle (l₁ := [(⟨150, 10, some ⟨R.q, 0, none⟩, 1, 1, [.pointer (some ⟨R.M.mb, 0, none⟩), .slice R.op R.st.length R.oc, i6 R.fu, c3, c4, .slice R.ap R.aq.length R.ac, .bool R.wa, .bool R.en, i6 R.tr, i6 R.va]⟩ : Rw), R.ar, R.or] ++ (R.st.map Sv.row ++ R.aq.map As.row)) (a := x) (l₂ := e)
  simpa using this.symm
def Goes (T : Nat → Nat → Option Lt) (w0 w : World) (R : Rg) : Prop := (RunOK T R ∧ Hs w0 w R.rows) ∨ (EndOK R ∧ Fin w0 w R)
theorem _root_.Go.Sx.Hs.new {Rs : List Rw} (h : Hs w0 w Rs) (cs : List Value) (t : TypeId) : Hs w0 (w.alloc (.cells cs.toArray t)) (bk t w.heap.size cs :: Rs) := by
  refine h.push (Ext.alloc w _) ⟨?_⟩
  have := World.ownsRow_lit (base := w.heap.size) (e := t) (size := cs.length) w cs.toArray 1 (Nat.le_refl _) (by decide) (by simp)
  simpa using this
theorem Rg.put {x : Rw} (h : Hs w0 w (x :: R.rows)) : Hs w0 w { R with ex := x :: R.ex }.rows := by
  refine h.perm ?_
  have := List.perm_middle (l₁ := R.rows.take 6 ++ (R.fs.map Fr.row ++ (R.st.map Sv.row ++ R.aq.map As.row))) (a := x) (l₂ := R.ex)
  simpa using this
theorem Rg.get {x : Rw} {e : List Rw} (h : Hs w0 w { R with ex := x :: e }.rows) : Hs w0 w (x :: { R with ex := e }.rows) := by
  refine h.perm ?_
  have := List.perm_middle (l₁ := R.rows.take 6 ++ (R.fs.map Fr.row ++ (R.st.map Sv.row ++ R.aq.map As.row))) (a := x) (l₂ := e)
  simpa using this.symm
abbrev finR (R : Rg) (c3 c4 : Value) : List Rw := ⟨150, 10, some ⟨R.q, 0, none⟩, 1, 1, [.pointer (some ⟨R.M.mb, 0, none⟩), .slice R.op R.st.length R.oc, i6 R.fu, c3, c4, .slice R.ap R.aq.length R.ac, .bool R.wa, .bool R.en, i6 R.tr, i6 R.va]⟩ :: R.ar :: R.or :: (R.st.map Sv.row ++ (R.aq.map As.row ++ R.ex))
def Left (T : Nat → Nat → Option Lt) (f : Int) (w0 w : World) (x : Rw) (R : Rg) : Prop := (WaitOK T R ∧ R.fu < f ∧ Hs w0 w (x :: R.rows)) ∨ (EndOK R ∧ ∃ c3 c4, Hs w0 w (x :: finR R c3 c4))
theorem next_k (hg : Goes T w0 w R) (hC : Ctx w0 R.M R.fb R.fo) (hV : Verified R.M.I.im T)
    (hE : ∀ R' w', Like R R' → EndOK R' → Fin w0 w' R' → K (.tuple #[.agg #[i6 0, .slice none 0 0], .bool false]) w')
    (hW : ∀ R' w' x p n c, Like R R' → R'.fu < R.fu → WaitOK T R' → Hs w0 w' R'.rows → K (.tuple #[.agg #[i6 x, .slice p n c], .bool true]) w') : cl Tryz.prog 26 #[.pointer (some ⟨R.q, 0, none⟩)] w K := by
  apply F26_calls
  unfold F26
  refine nw_mk ?_
  generalize hw1 : w.alloc (.cells #[i6 0, .slice none 0 0] 87) = w1
  generalize hq : w.heap.size = q
  refine jn_of (fun s w' => ∃ R', Like R R' ∧ Left T R.fu w0 w' (bk 87 q [i6 0, .slice none 0 0]) R') ?_ ?_
  · rintro _ w2 ⟨R', hl, hwt | ⟨he, c3, c4, h⟩⟩
    · obtain ⟨hwt, hlt, h⟩ := hwt
      have hwa := hwt.wa
      obtain ⟨k, p, aq, a, ea, hac, _, _⟩ := hwt.top
      have hle : R'.aq.length = aq.length + 1 := by rw [ea]; simp
      have haw := hwt.aw a (by rw [ea]; simp)
      have hal := hwt.aq
      have hfu := hwt.fu
      rw [← hl.q]
      repeat first|refine sp ?_|refine cond_t rfl ?_|refine cond_f rfl ?_|refine asT_i rfl rfl ?_|refine asA_i rfl rfl ?_|refine h.l rfl ?_|refine h.hd rfl ?_|(refine h.sb rfl rfl ?_;clear h;intro _ h)|(refine h.dw ?_;clear h;intro _ h)
      refine cond_t hwa ?_
      repeat first|refine sp ?_|refine cond_t rfl ?_|refine cond_f rfl ?_|refine asT_i rfl rfl ?_|refine asA_i rfl rfl ?_|refine h.l rfl ?_|refine h.hd rfl ?_|(refine h.sb rfl rfl ?_;clear h;intro _ h)|(refine h.dw ?_;clear h;intro _ h)
      have e1 : IntKind.wrap .i64 ((R'.aq.length : Int) - 1) = (aq.length : Nat) := by rw [wr64 (by omega) (by omega)]; omega
      rw [e1]
      have hra : (R'.aq.flatMap asC) = (a :: aq.reverse).reverse.flatMap asC := by rw [ea]; simp
      refine h.ix R'.ap rfl (show aq.length < R'.aq.length by omega) rfl fun b hb hcell => ?_
      rw [Int.toNat_natCast, add_mk, Nat.zero_add]
      have hc0 : (R'.aq.flatMap asC)[aq.length * 2]? = some (i6 a.call) := by
        rw [hra]; have := fl_at0 (l := aq.reverse) (x := a) asC_len rfl; rwa [List.length_reverse] at this
      have hc1 : (R'.aq.flatMap asC)[aq.length * 2 + 1]? = some (.slice a.p a.l.length a.c) := by
        rw [hra]; have := fl_at (l := aq.reverse) (x := a) (j := 1) asC_len rfl; rwa [List.length_reverse] at this
      refine ld_mk (hcell _ _ hc0) (sp (ld_mk (by rw [add_mk]; exact hcell _ _ hc1) (sp ?_)))
      clear hcell
      refine h.nw ?_
      clear h
      intro q3 w3 h
      have hm : R'.ar ∈ bk 87 q3 [i6 0, .slice none 0 0] :: bk 87 q [i6 0, .slice none 0 0] :: R'.rows := by simp
      refine hd_i (h.cell hm hb hc0) (hd_i (by rw [add_mk]; exact h.cell hm hb hc1) ?_)
      repeat first|refine sp ?_|refine cond_t rfl ?_|refine cond_f rfl ?_|refine asT_i rfl rfl ?_|refine asA_i rfl rfl ?_|refine h.l rfl ?_|refine h.hd rfl ?_|(refine h.sb rfl rfl ?_;clear h;intro _ h)|(refine h.dw ?_;clear h;intro _ h)
      have hr : Reads _ a.p (iw a.l) := h.rd (r := a.row) (List.mem_cons_of_mem _ (List.mem_cons_of_mem _ (List.mem_cons_of_mem _ (List.mem_cons_of_mem _ (List.mem_cons_of_mem _ (List.mem_cons_of_mem _ (List.mem_cons_of_mem _ (List.mem_cons_of_mem _ (List.mem_append_right _ (List.mem_append_right _ (List.mem_append_left _ (List.mem_map_of_mem (by rw [ea]; simp)))))))))))))
      refine clone_k hr (by omega) fun p2 c2 w4 hx hrow => ?_
      replace h := h.to hx
      repeat first|refine sp ?_|refine cond_t rfl ?_|refine cond_f rfl ?_|refine asT_i rfl rfl ?_|refine asA_i rfl rfl ?_|refine h.l rfl ?_|refine h.hd rfl ?_|(refine h.sb rfl rfl ?_;clear h;intro _ h)|(refine h.dw ?_;clear h;intro _ h)
      exact hW R' _ _ _ _ _ hl hlt hwt h.tail.tail
    · have hwa := he.wa
      rw [← hl.q]
      repeat first|refine sp ?_|refine cond_t rfl ?_|refine cond_f rfl ?_|refine asT_i rfl rfl ?_|refine asA_i rfl rfl ?_|refine h.l rfl ?_|refine h.hd rfl ?_|(refine h.sb rfl rfl ?_;clear h;intro _ h)|(refine h.dw ?_;clear h;intro _ h)
      refine cond_f hwa ?_
      repeat first|refine sp ?_|refine cond_t rfl ?_|refine cond_f rfl ?_|refine asT_i rfl rfl ?_|refine asA_i rfl rfl ?_|refine h.l rfl ?_|refine h.hd rfl ?_|(refine h.sb rfl rfl ?_;clear h;intro _ h)|(refine h.dw ?_;clear h;intro _ h)
      exact hE R' _ hl he ⟨_, _, h.tail⟩
  · intro J hJ
    rcases hg with ⟨hR, h⟩ | ⟨he, c3, c4, h⟩
    · replace h := h.new [i6 0, .slice none 0 0] 87
      rw [hq] at h
      change Hs w0 (w.alloc (.cells #[i6 0, .slice none 0 0] 87)) _ at h
      rw [hw1] at h
      refine jn_of (fun s w' => s = [.bool true] ∧ w' = w1) ?_ ?_
      rotate_left
      · intro J2 hJ2
        repeat first|refine sp ?_|refine cond_t rfl ?_|refine cond_f rfl ?_|refine asT_i rfl rfl ?_|refine asA_i rfl rfl ?_|refine h.l rfl ?_|refine h.hd rfl ?_|(refine h.sb rfl rfl ?_;clear h;intro _ h)|(refine h.dw ?_;clear h;intro _ h)
        rw [hR.en]
        refine cond_t rfl ?_
        repeat first|refine sp ?_|refine cond_t rfl ?_|refine cond_f rfl ?_|refine asT_i rfl rfl ?_|refine asA_i rfl rfl ?_|refine h.l rfl ?_|refine h.hd rfl ?_|(refine h.sb rfl rfl ?_;clear h;intro _ h)|(refine h.dw ?_;clear h;intro _ h)
        rw [hR.wa]
        exact hJ2 _ _ ⟨rfl, rfl⟩
      rintro _ w2 ⟨rfl, rfl⟩
      refine sp (cond_t rfl ?_)
      have h2 := Rg.put h
      refine loop_k (R := { R with ex := bk 87 q [i6 0, .slice none 0 0] :: R.ex }) h2 hC hV ⟨hR.top, hR.st, hR.fs, hR.fu, hR.sk, hR.aq, hR.aw, hR.wa, hR.en, hR.tr⟩ (fun R' w' hl he hF => ?_) fun R' w' hl hlt hwt h => ?_
      · obtain ⟨c3, c4, h⟩ := Fin.get hl.ex hF
        exact hJ _ _ ⟨{ R' with ex := R.ex }, ⟨hl.q, hl.M, hl.fb, hl.fo, hl.fu, rfl⟩, .inr ⟨⟨he.st, he.fu, he.aq, he.aw, he.wa, he.en, he.tr⟩, c3, c4, h⟩⟩
      · have h3 : Hs w0 w' { R' with ex := bk 87 q [i6 0, .slice none 0 0] :: R.ex }.rows := by
          have := hl.ex
          dsimp only at this
          rw [← this]
          exact h
        exact hJ _ _ ⟨{ R' with ex := R.ex }, ⟨hl.q, hl.M, hl.fb, hl.fo, hl.fu, rfl⟩, .inl ⟨⟨hwt.top, hwt.st, hwt.fs, hwt.fu, hwt.sk, hwt.aq, hwt.aw, hwt.wa, hwt.en, hwt.tr⟩, hlt, Rg.get h3⟩⟩
    · replace h := h.new [i6 0, .slice none 0 0] 87
      rw [hq] at h
      change Hs w0 (w.alloc (.cells #[i6 0, .slice none 0 0] 87)) _ at h
      rw [hw1] at h
      refine jn_of (fun s w' => s = [.bool false] ∧ w' = w1) ?_ ?_
      rotate_left
      · intro J2 hJ2
        repeat first|refine sp ?_|refine cond_t rfl ?_|refine cond_f rfl ?_|refine asT_i rfl rfl ?_|refine asA_i rfl rfl ?_|refine h.l rfl ?_|refine h.hd rfl ?_|(refine h.sb rfl rfl ?_;clear h;intro _ h)|(refine h.dw ?_;clear h;intro _ h)
        rw [he.en]
        exact cond_f rfl (hJ2 _ _ ⟨rfl, rfl⟩)
      rintro _ w2 ⟨rfl, rfl⟩
      exact sp (cond_f rfl (hJ _ _ ⟨R, ⟨rfl, rfl, rfl, rfl, Int.le_refl _, rfl⟩, .inr ⟨he, c3, c4, h⟩⟩))
theorem reply_k (hwt : WaitOK T R) (h : Hs w0 w R.rows) (hC : Ctx w0 R.M R.fb R.fo) {v : Int} (hv : I64 v) {b : Bool} (hK : ∀ R' w' e, Like R R' → Goes T w0 w' R' → K (i6 e) w') :
    cl Tryz.prog 27 #[.pointer (some ⟨R.q, 0, none⟩), .agg #[i6 v, .bool b]] w K := by
  obtain ⟨k, p, aq, a, ea, hac, hp, hbel⟩ := hwt.top
  have hle : R.aq.length = aq.length + 1 := by rw [ea]; simp
  have hal := hwt.aq
  have hfu := hwt.fu
  have hsk := hwt.sk
  have hM := hC.m
  obtain ⟨y, hy, ey⟩ : ∃ y, R.M.cs[k]? = some y ∧ (y.par, y.res) = p := by
    rw [← hM.sys, List.getElem?_map, Option.map_eq_some_iff] at hp
    exact hp
  have hres : y.res = p.2 := by rw [← ey]
  have hp5 : p.2 = 0 ∨ p.2 = 1 ∨ p.2 = 2 ∨ p.2 = 3 ∨ p.2 = 4 := by
    have : ∀ q ∈ sysL, q.2 = 0 ∨ q.2 = 1 ∨ q.2 = 2 ∨ q.2 = 3 ∨ q.2 = 4 := by decide
    exact this p (List.mem_of_getElem? hp)
  apply F27_calls
  unfold F27
  refine h.nw ?_
  clear h
  intro q w1 h
  repeat first|refine sp ?_|refine cond_t rfl ?_|refine cond_f rfl ?_|refine asT_i rfl rfl ?_|refine asA_i rfl rfl ?_|refine h.l rfl ?_|refine h.hd rfl ?_|(refine h.sb rfl rfl ?_;clear h;intro _ h)|(refine h.dw ?_;clear h;intro _ h)
  rw [hwt.wa]
  refine cond_f rfl ?_
  repeat first|refine sp ?_|refine cond_t rfl ?_|refine cond_f rfl ?_|refine asT_i rfl rfl ?_|refine asA_i rfl rfl ?_|refine h.l rfl ?_|refine h.hd rfl ?_|(refine h.sb rfl rfl ?_;clear h;intro _ h)|(refine h.dw ?_;clear h;intro _ h)
  refine cond_split (fun hb => ?_) fun hb => ?_
  · repeat first|refine sp ?_|refine cond_t rfl ?_|refine cond_f rfl ?_|refine asT_i rfl rfl ?_|refine asA_i rfl rfl ?_|refine h.l rfl ?_|refine h.hd rfl ?_|(refine h.sb rfl rfl ?_;clear h;intro _ h)|(refine h.dw ?_;clear h;intro _ h)
    refine hK { R with wa := false, en := true, tr := 5 } _ _ ⟨rfl, rfl, rfl, rfl, Int.le_refl _, rfl⟩ (.inr ⟨⟨hwt.st, by dsimp only; omega, by dsimp only; omega, hwt.aw, rfl, rfl, by dsimp only; omega, by dsimp only; omega⟩, ?_⟩)
    exact Fin.of (R := { R with wa := false, en := true, tr := 5 }) h.tail
  replace h : Hs w0 _ (bk 91 q [i6 v, .bool b] :: { R with wa := false }.rows) := h
  refine jn_of (fun s w' => ∃ vs sp c, Ty (resL p.2) vs ∧ vs.length ≤ 1 ∧ Hs w0 w' { R with wa := false, sk := R.sk ++ vs, sp := sp, sc := c }.rows) ?_ ?_
  · rintro s w2 ⟨vs, sa, c, hty, hvl, h⟩
    refine sp (hK { R with wa := false, sk := R.sk ++ vs, sp := sa, sc := c } _ _ ⟨rfl, rfl, rfl, rfl, Int.le_refl _, rfl⟩ (.inl ⟨⟨hbel.top hty, hwt.st, hwt.fs, by dsimp only; omega, by dsimp only; rw [List.length_append]; omega, hwt.aq, hwt.aw, rfl, hwt.en, hwt.tr⟩, h⟩))
  intro J hJ
  repeat first|refine sp ?_|refine cond_t rfl ?_|refine cond_f rfl ?_|refine asT_i rfl rfl ?_|refine asA_i rfl rfl ?_|refine h.l rfl ?_|refine h.hd rfl ?_|(refine h.sb rfl rfl ?_;clear h;intro _ h)|(refine h.dw ?_;clear h;intro _ h)|refine ld_mk (h.oc hM.g) ?_|refine ld_mk (h.oc hM.c) ?_
  have e1 : IntKind.wrap .i64 ((R.aq.length : Int) - 1) = (aq.length : Nat) := by rw [wr64 (by omega) (by omega)]; omega
  rw [e1]
  have hra : (R.aq.flatMap asC) = (a :: aq.reverse).reverse.flatMap asC := by rw [ea]; simp
  refine h.ix R.ap rfl (show aq.length < R.aq.length by omega) rfl fun b hb hcell => ?_
  rw [Int.toNat_natCast, add_mk, Nat.zero_add]
  have hc0 : (R.aq.flatMap asC)[aq.length * 2]? = some (i6 a.call) := by
    rw [hra]; have := fl_at0 (l := aq.reverse) (x := a) asC_len rfl; rwa [List.length_reverse] at this
  refine ld_mk (hcell _ _ hc0) (sp ?_)
  rw [hac]
  refine Reads.atN csC_len hM.cs.rd rfl hy (by decide) fun ad had hca => ?_
  rw [Int.toNat_natCast]
  refine ld_mk (h.oc (hca 2 (by decide))) (sp ?_)
  rw [hres]
  refine cond_op (fun e => ?_) fun hn0 => cond_op (fun e => ?_) fun hn3 => ?_
  · exact hJ _ _ ⟨[], R.sp, R.sc, by rw [e]; trivial, by simp, by rw [List.append_nil]; exact h.tail⟩
  · repeat first|refine sp ?_|refine cond_t rfl ?_|refine cond_f rfl ?_|refine asT_i rfl rfl ?_|refine asA_i rfl rfl ?_|refine h.l rfl ?_|refine h.hd rfl ?_|(refine h.sb rfl rfl ?_;clear h;intro _ h)|(refine h.dw ?_;clear h;intro _ h)
    refine bit_k fun u hu => sp ?_
    exact push_k h.tail (by dsimp only; omega) fun p' c' w' h => hJ _ _ ⟨[u], p', c', by rw [e]; exact Ty.of1 (okV_b hu), by simp, h⟩
  · repeat first|refine sp ?_|refine cond_t rfl ?_|refine cond_f rfl ?_|refine asT_i rfl rfl ?_|refine asA_i rfl rfl ?_|refine h.l rfl ?_|refine h.hd rfl ?_|(refine h.sb rfl rfl ?_;clear h;intro _ h)|(refine h.dw ?_;clear h;intro _ h)
    refine push_k h.tail (by dsimp only; omega) fun p' c' w' h => hJ _ _ ⟨[v], p', c', ?_, by simp, h⟩
    unfold resL
    rw [if_neg hn0]
    refine Ty.of1 (okV_i hv ?_)
    rcases hp5 with e | e | e | e | e <;> first | exact absurd e hn0 | exact absurd e hn3 | (rw [e]; decide)
end
end Go.Proofs.YtndbhmmejjhcfaaGreatDoor
namespace Go.Proofs.YtndbhmmejjhcfaaGreatDoor
open Go Go.Sx Go.Vp
attribute [local irreducible] jn lv ld st nw asI asB asP asS asY asM asF asA asT lp rn ru rq cl dw dr bnd bn2 nz nn hd hr so eqW
section
variable {w0 w : World} {R : Rg} {T : Nat → Nat → Option Lt} {K : Value → World → Prop}
theorem fin_in {xs : List Rw} {x : Rw} {c3 c4 : Value} (h : Hs w0 w (x :: (xs ++ finR R c3 c4))) : Hs w0 w (xs ++ finR { R with ex := x :: R.ex } c3 c4) := by
  refine h.perm ?_
  have := List.perm_middle (l₁ := xs ++ ((finR R c3 c4).take 3 ++ (R.st.map Sv.row ++ R.aq.map As.row))) (a := x) (l₂ := R.ex)
  simpa using this
theorem fin_in3 {a b c x : Rw} {c3 c4 : Value} (h : Hs w0 w (x :: a :: b :: c :: finR R c3 c4)) : Hs w0 w (a :: b :: c :: finR { R with ex := x :: R.ex } c3 c4) := fin_in (xs := [a, b, c]) h
theorem rend_k (he : EndOK R) (hF : Fin w0 w R) (hsz : ∀ s ∈ R.st, s.l.length ≤ 1000) (hst : R.st.length ≤ 1000)
    (hK : ∀ p c (SL : List Sv) va ap an ac w', SL.map Sv.l = R.st.map Sv.l → Hs w0 w' (⟨23, 1, p, c, SL.length, SL.map svC⟩ :: (SL.map Sv.row ++ R.ex)) → K (.tuple #[.agg #[i6 R.tr, i6 va, i6 R.fu, .slice p SL.length c, .slice ap an ac], .bool true]) w') :
    cl Tryz.prog 28 #[.pointer (some ⟨R.q, 0, none⟩)] w K := by
  obtain ⟨c3, c4, h⟩ := hF
  have haq := he.aq
  apply F28_calls
  unfold F28
  refine h.nw ?_
  clear h
  intro q1 w1 h
  repeat first|refine sp ?_|refine cond_t rfl ?_|refine cond_f rfl ?_|refine asT_i rfl rfl ?_|refine asA_i rfl rfl ?_|refine h.l rfl ?_|refine h.hd rfl ?_|(refine h.sb rfl rfl ?_;clear h;intro _ h)|(refine h.dw ?_;clear h;intro _ h)
  rw [he.en]
  refine cond_f rfl ?_
  repeat first|refine sp ?_|refine cond_t rfl ?_|refine cond_f rfl ?_|refine asT_i rfl rfl ?_|refine asA_i rfl rfl ?_|refine h.l rfl ?_|refine h.hd rfl ?_|(refine h.sb rfl rfl ?_;clear h;intro _ h)|(refine h.dw ?_;clear h;intro _ h)
  refine h.nw ?_
  clear h
  intro q w2 h
  repeat first|refine sp ?_|refine cond_t rfl ?_|refine cond_f rfl ?_|refine asT_i rfl rfl ?_|refine asA_i rfl rfl ?_|refine h.l rfl ?_|refine h.hd rfl ?_|(refine h.sb rfl rfl ?_;clear h;intro _ h)|(refine h.dw ?_;clear h;intro _ h)
  refine jn_of (fun s w' => ∃ va, Hs w0 w' (⟨45, 5, some ⟨q, 0, none⟩, 1, 1, [i6 R.tr, i6 va, i6 R.fu, .slice none 0 0, .slice none 0 0]⟩ :: bk 45 q1 [i6 0, i6 0, i6 0, .slice none 0 0, .slice none 0 0] :: finR R c3 c4)) ?_ ?_
  rotate_left
  · intro J hJ
    repeat first|refine sp ?_|refine cond_t rfl ?_|refine cond_f rfl ?_|refine asT_i rfl rfl ?_|refine asA_i rfl rfl ?_|refine h.l rfl ?_|refine h.hd rfl ?_|(refine h.sb rfl rfl ?_;clear h;intro _ h)|(refine h.dw ?_;clear h;intro _ h)
    refine cond_split (fun _ => ?_) fun _ => hJ _ _ ⟨_, h⟩
    repeat first|refine sp ?_|refine cond_t rfl ?_|refine cond_f rfl ?_|refine asT_i rfl rfl ?_|refine asA_i rfl rfl ?_|refine h.l rfl ?_|refine h.hd rfl ?_|(refine h.sb rfl rfl ?_;clear h;intro _ h)|(refine h.dw ?_;clear h;intro _ h)
    exact hJ _ _ ⟨_, h⟩
  clear h
  rintro _ w3 ⟨va, h⟩
  repeat first|refine sp ?_|refine cond_t rfl ?_|refine cond_f rfl ?_|refine asT_i rfl rfl ?_|refine asA_i rfl rfl ?_|refine h.l rfl ?_|refine h.hd rfl ?_|(refine h.sb rfl rfl ?_;clear h;intro _ h)|(refine h.dw ?_;clear h;intro _ h)
  refine lp_mk (fun k : Nat => [.int .i64 (k : Int)]) (fun n k w => n = R.st.length - k ∧ k ≤ R.st.length ∧ ∃ (SL : List Sv) (p : Option Addr) (c : Nat), SL.length = k ∧ SL.map Sv.l = (R.st.take k).map Sv.l ∧
    Hs w0 w (⟨45, 5, some ⟨q, 0, none⟩, 1, 1, [i6 R.tr, i6 va, i6 R.fu, .slice p k c, .slice none 0 0]⟩ :: ⟨23, 1, p, c, k, SL.map svC⟩ :: bk 45 q1 [i6 0, i6 0, i6 0, .slice none 0 0, .slice none 0 0] :: finR { R with ex := SL.reverse.map Sv.row ++ R.ex } c3 c4)) R.st.length 0 rfl ⟨rfl, Nat.zero_le _, [], none, 0, rfl, rfl, ?_⟩ ?_
  · have h2 := h.push (r := ⟨23, 1, none, 0, 0, []⟩) (Ext.refl _ _) (RowN.nil _ _ _ _)
    exact h2.perm (List.Perm.swap _ _ _)
  clear h
  rintro n k w4 ⟨rfl, hk, SL, p, c, hSl, hSL, h⟩ J hJ
  refine sp (cond_split (fun hc => ?_) fun hc => ?_)
  · have hkl : k < R.st.length := by have := of_decide_eq_true hc; omega
    obtain ⟨s, hs⟩ : ∃ s, R.st[k]? = some s := ⟨_, List.getElem?_eq_getElem hkl⟩
    refine h.ix R.op rfl hkl rfl fun bo hbo ho => ?_
    have hv : (R.st.map svC)[k]? = some (.slice s.p s.l.length s.c) := by simp [hs, svC]
    rw [Int.toNat_natCast, Nat.mul_one, add_mk, Nat.zero_add]
    refine ld_mk (ho _ _ hv) ?_
    clear ho
    repeat first|refine sp ?_|refine cond_t rfl ?_|refine cond_f rfl ?_|refine asT_i rfl rfl ?_|refine asA_i rfl rfl ?_|refine h.l rfl ?_|refine h.hd rfl ?_|(refine h.sb rfl rfl ?_;clear h;intro _ h)|(refine h.dw ?_;clear h;intro _ h)
    have hmem : s ∈ R.st := List.mem_of_getElem? hs
    have hr : Reads _ s.p (iw s.l) := h.rd (r := s.row) (List.mem_cons_of_mem _ (List.mem_cons_of_mem _ (List.mem_cons_of_mem _ (List.mem_cons_of_mem _ (List.mem_cons_of_mem _ (List.mem_cons_of_mem _ (List.mem_append_left _ (List.mem_map_of_mem hmem))))))))
    refine clone_k hr (by have := hsz s hmem; omega) fun p2 c2 w5 hx hrow => ?_
    replace h := fin_in3 (h.push hx hrow)
    repeat first|refine sp ?_|refine cond_t rfl ?_|refine cond_f rfl ?_|refine asT_i rfl rfl ?_|refine asA_i rfl rfl ?_|refine h.l rfl ?_|refine h.hd rfl ?_|(refine h.sb rfl rfl ?_;clear h;intro _ h)|(refine h.dw ?_;clear h;intro _ h)
    refine h.nw ?_
    clear h
    intro q3 w6 h
    repeat first|refine sp ?_|refine cond_t rfl ?_|refine cond_f rfl ?_|refine asT_i rfl rfl ?_|refine asA_i rfl rfl ?_|refine h.l rfl ?_|refine h.hd rfl ?_|(refine h.sb rfl rfl ?_;clear h;intro _ h)|(refine h.dw ?_;clear h;intro _ h)
    refine h.appT sl_sv rfl (by simp [one]) (by omega) (by simp only [maxLen]; omega) ?_
    clear h
    intro p4 c4' w7 h
    repeat first|refine sp ?_|refine cond_t rfl ?_|refine cond_f rfl ?_|refine asT_i rfl rfl ?_|refine asA_i rfl rfl ?_|refine h.l rfl ?_|refine h.hd rfl ?_|(refine h.sb rfl rfl ?_;clear h;intro _ h)|(refine h.dw ?_;clear h;intro _ h)
    have e1 : IntKind.wrap .i64 ((k : Int) + 1) = ((k + 1 : Nat) : Int) := by rw [wr64 (by omega) (by omega)]; simp
    rw [e1]
    refine hJ (R.st.length - (k + 1)) (k + 1) _ (by omega) ⟨rfl, hkl, SL ++ [⟨p2, c2, s.l⟩], some ⟨p4, 0, none⟩, c4', by simp [hSl], ?_, ?_⟩
    · rw [List.map_append, hSL, List.take_add_one, hs, List.map_append]; rfl
    · have e2 : (SL ++ [(⟨p2, c2, s.l⟩ : Sv)]).map svC = SL.map svC ++ [.slice p2 s.l.length c2] := by simp [svC]
      have e3 : (SL ++ [(⟨p2, c2, s.l⟩ : Sv)]).reverse.map Sv.row ++ R.ex = ⟨3, 1, p2, c2, s.l.length, iw s.l⟩ :: (SL.reverse.map Sv.row ++ R.ex) := by simp [Sv.row]
      rw [e2, e3]
      exact h
  have hkl : k = R.st.length := by have := of_decide_eq_false hc; omega
  rw [hkl, List.take_length] at hSL
  clear hJ J hc
  repeat first|refine sp ?_|refine cond_t rfl ?_|refine cond_f rfl ?_|refine asT_i rfl rfl ?_|refine asA_i rfl rfl ?_|refine h.l rfl ?_|refine h.hd rfl ?_|(refine h.sb rfl rfl ?_;clear h;intro _ h)|(refine h.dw ?_;clear h;intro _ h)
  refine lp_mk (fun j : Nat => [.int .i64 (j : Int)]) (fun n j w => n = R.aq.length - j ∧ j ≤ R.aq.length ∧ ∃ (p2 : Option Addr) (c2 : Nat) (xs : List Value),
    Hs w0 w (⟨45, 5, some ⟨q, 0, none⟩, 1, 1, [i6 R.tr, i6 va, i6 R.fu, .slice p k c, .slice p2 j c2]⟩ :: ⟨87, 2, p2, c2, j, xs⟩ :: ⟨23, 1, p, c, k, SL.map svC⟩ :: bk 45 q1 [i6 0, i6 0, i6 0, .slice none 0 0, .slice none 0 0] :: finR { R with ex := SL.reverse.map Sv.row ++ R.ex } c3 c4)) R.aq.length 0 rfl ⟨rfl, Nat.zero_le _, none, 0, [], ?_⟩ ?_
  · have h2 := h.push (r := ⟨87, 2, none, 0, 0, []⟩) (Ext.refl _ _) (RowN.nil _ _ _ _)
    exact h2.perm (List.Perm.swap _ _ _)
  clear h
  rintro n j w8 ⟨rfl, hj, p2, c2, xs, h⟩ J hJ
  refine sp (cond_split (fun hc => ?_) fun hc => ?_)
  · have hjl : j < R.aq.length := by have := of_decide_eq_true hc; dsimp only at this; omega
    obtain ⟨a, ha⟩ : ∃ a, R.aq[j]? = some a := ⟨_, List.getElem?_eq_getElem hjl⟩
    refine h.ix R.ap rfl hjl rfl fun bo hbo ho => ?_
    have hv0 : (R.aq.flatMap asC)[j * 2]? = some (i6 a.call) := fl_getN asC_len ha 0 (by decide)
    have hv1 : (R.aq.flatMap asC)[j * 2 + 1]? = some (.slice a.p a.l.length a.c) := fl_getN asC_len ha 1 (by decide)
    rw [Int.toNat_natCast, add_mk, Nat.zero_add]
    refine ld_mk (ho _ _ hv0) (sp (ld_mk (by rw [add_mk]; exact ho _ _ hv1) (sp ?_)))
    clear ho
    refine h.nw ?_
    clear h
    intro q9 w9 h
    repeat first|refine sp ?_|refine cond_t rfl ?_|refine cond_f rfl ?_|refine asT_i rfl rfl ?_|refine asA_i rfl rfl ?_|refine h.l rfl ?_|refine h.hd rfl ?_|(refine h.sb rfl rfl ?_;clear h;intro _ h)|(refine h.dw ?_;clear h;intro _ h)
    have hmem : a ∈ R.aq := List.mem_of_getElem? ha
    have hr : Reads _ a.p (iw a.l) := h.rd (r := a.row) (List.mem_cons_of_mem _ (List.mem_cons_of_mem _ (List.mem_cons_of_mem _ (List.mem_cons_of_mem _ (List.mem_cons_of_mem _ (List.mem_cons_of_mem _ (List.mem_cons_of_mem _ (List.mem_cons_of_mem _ (List.mem_append_right _ (List.mem_append_left _ (List.mem_map_of_mem hmem)))))))))))
    refine clone_k hr (by have := (he.aw a hmem).2.2; omega) fun p5 c5 w10 hx hrow => ?_
    replace h := h.to hx
    repeat first|refine sp ?_|refine cond_t rfl ?_|refine cond_f rfl ?_|refine asT_i rfl rfl ?_|refine asA_i rfl rfl ?_|refine h.l rfl ?_|refine h.hd rfl ?_|(refine h.sb rfl rfl ?_;clear h;intro _ h)|(refine h.dw ?_;clear h;intro _ h)
    refine h.nw ?_
    clear h
    intro q11 w11 h
    repeat first|refine sp ?_|refine cond_t rfl ?_|refine cond_f rfl ?_|refine asT_i rfl rfl ?_|refine asA_i rfl rfl ?_|refine h.l rfl ?_|refine h.hd rfl ?_|(refine h.sb rfl rfl ?_;clear h;intro _ h)|(refine h.dw ?_;clear h;intro _ h)
    refine h.appT sl_as rfl (by simp [one]) (by omega) (by simp only [maxLen]; omega) ?_
    clear h
    intro p6 c6 w12 h
    repeat first|refine sp ?_|refine cond_t rfl ?_|refine cond_f rfl ?_|refine asT_i rfl rfl ?_|refine asA_i rfl rfl ?_|refine h.l rfl ?_|refine h.hd rfl ?_|(refine h.sb rfl rfl ?_;clear h;intro _ h)|(refine h.dw ?_;clear h;intro _ h)
    have e1 : IntKind.wrap .i64 ((j : Int) + 1) = ((j + 1 : Nat) : Int) := by rw [wr64 (by omega) (by omega)]; simp
    rw [e1]
    exact hJ (R.aq.length - (j + 1)) (j + 1) _ (by omega) ⟨rfl, hjl, some ⟨p6, 0, none⟩, c6, _, h.tail⟩
  repeat first|refine sp ?_|refine cond_t rfl ?_|refine cond_f rfl ?_|refine asT_i rfl rfl ?_|refine asA_i rfl rfl ?_|refine h.l rfl ?_|refine h.hd rfl ?_|(refine h.sb rfl rfl ?_;clear h;intro _ h)|(refine h.dw ?_;clear h;intro _ h)
  have h2 := h.sub (Rs' := ⟨23, 1, p, c, k, SL.map svC⟩ :: (SL.reverse.map Sv.row ++ R.ex)) (List.Sublist.cons _ (List.Sublist.cons _ (List.Sublist.cons_cons _ (List.Sublist.cons _ (List.Sublist.cons _ (List.Sublist.cons _ (List.Sublist.cons _ ((List.sublist_append_right _ _).trans (List.sublist_append_right _ _)))))))))
  rw [← hSl] at h2 ⊢
  exact hK p c SL va p2 j c2 _ hSL (h2.perm (List.Perm.cons _ (List.Perm.append_right _ (List.Perm.map _ (List.reverse_perm SL).symm))))
end
end Go.Proofs.YtndbhmmejjhcfaaGreatDoor
namespace Go.Proofs.YtndbhmmejjhcfaaGreatDoor
open Go Go.Sx Go.Vp
attribute [local irreducible] jn lv ld st nw asI asB asP asS asY asM asF asA asT lp rn ru rq cl dw dr bnd bn2 nz nn hd hr so eqW
attribute [local irreducible] callOk
theorem natS (k : Nat) (h : k ≤ 1000000000) : IntKind.wrap .i64 ((k : Int) + 1) = ((k + 1 : Nat) : Int) := by rw [wr64 (by omega) (by omega)]; simp
section
variable {w0 w : World} {K : Value → World → Prop}
theorem Reads.ati {p : Option Addr} {l : List Int} (hr : Reads w p (iw l)) {i n : Nat} (hn : l.length = n) (hi : i < n) {K : Value → Prop} (hK : K (i6 (l.getD i 0))) : dr p fun a => bnd (i : Int) n (ld w (Addr.add a (Int.toNat (i : Int) * 1)) K) :=
  Reads.at hr (by omega) (by rw [Int.toNat_natCast]; exact iw_at (by omega)) hK (by simp [iv]; omega)
theorem any_int {f : Nat} {fs cs : Array Value} (hok : callOk Tryz.prog f = true) {l : List Int} {p : Option Addr} {n c : Nat} (hr : Reads w p (iw l)) (hn : l.length = n) (hb : n ≤ 1000000) (pr : Int → Bool)
    (hf : ∀ v ∈ l, ∀ w' (K : Value → World → Prop), Ext no w w' → (∀ w'', Ext no w' w'' → K (.bool (pr v)) w'') → cl Tryz.prog f (fs ++ #[i6 v] ++ cs) w' K)
    (hK : ∀ w', Ext no w w' → K (.bool (l.any pr)) w') : cl Tryz.prog 142 #[.slice p n c, .func (.func f) fs cs] w K := by
  subst hn
  apply F142_calls
  unfold F142
  apply F202_calls
  unfold F202
  refine sp (lp_mk (fun k : Nat => [.int .i64 (k : Int)]) (fun n k w' => n = l.length - k ∧ k ≤ l.length ∧ Ext no w w' ∧ (l.take k).any pr = false) l.length 0 rfl ⟨rfl, Nat.zero_le _, Ext.refl _ _, rfl⟩ ?_)
  rintro n k w1 ⟨rfl, hk, hx, hno⟩ J hJ
  refine sp (cond_split (fun hc => sp ?_) fun hc => ?_)
  · have hkl : k < l.length := by have := of_decide_eq_true hc; omega
    refine Reads.ati (hr.no hx) rfl hkl (sp (cond_t hok ?_))
    have e : l.getD k 0 = l[k] := by simp [hkl]
    rw [e]
    refine hf _ (List.getElem_mem hkl) w1 _ hx fun w2 hx2 => sp (cond_split (fun h => ?_) fun h => ?_)
    · refine sp (sp ?_)
      have : l.any pr = true := List.any_eq_true.2 ⟨_, List.getElem_mem hkl, h⟩
      have h0 : decide ((k : Int) ≥ 0) = true := decide_eq_true (by omega)
      rw [h0, ← this]
      exact hK _ (hx.trans hx2)
    · rw [natS k (by omega)]
      refine hJ _ (k + 1) w2 (by omega) ⟨rfl, hkl, hx.trans hx2, ?_⟩
      rw [List.take_add_one, List.any_append, hno]
      simp [hkl, h]
  · have hkl : k = l.length := by have := of_decide_eq_false hc; omega
    rw [hkl, List.take_length] at hno
    refine sp (sp ?_)
    have := hK w1 hx
    rw [hno] at this
    exact this
theorem fits_k {t : Int} {l : List Int} {p : Option Addr} {n c : Nat} (hr : Reads w p (iw l)) (hn : l.length = n) (hb : n ≤ 1000000) (h3 : t = 3 → ∀ v ∈ l, v = 0 ∨ v = 1) (hK : ∀ w', Ext no w w' → K (.bool true) w') : cl Tryz.prog 109 #[i6 t, .slice p n c] w K := by
  apply F109_calls
  unfold F109
  refine jn_of (fun s w' => s = [.bool true] ∧ Ext no w w') (fun s w' ⟨hs, hx⟩ => by subst hs; exact sp (hK w' hx)) ?_
  intro J hJ
  refine cond_split (fun _ => hJ _ _ ⟨rfl, Ext.refl _ _⟩) fun h => ?_
  have ht : t = 3 := by simpa using h
  refine any_int (by kernel_rfl) hr hn hb (fun _ => false) (fun v hv w' K hx hK => ?_) fun w' hx => sp ?_
  · show cl Tryz.prog 160 #[i6 v] w' K
    apply F160_calls
    unfold F160
    rcases h3 ht v hv with rfl | rfl
    · exact hK _ (Ext.refl _ _)
    · exact hK _ (Ext.refl _ _)
  · have e : l.any (fun _ => false) = false := by simp
    rw [e]
    exact hJ _ _ ⟨rfl, hx⟩
theorem size_gk {g : Gl} (hK : ∀ w', Ext no w w' → K (i6 (sizeG g)) w') : cl Tryz.prog 24 #[.agg #[i6 g.t, i6 g.z, i6 g.v]] w K := by
  apply F24_calls
  unfold F24
  have h := Hs.start w
  refine h.nw ?_
  clear h
  intro q w1 h
  repeat first|refine sp ?_|refine cond_t rfl ?_|refine cond_f rfl ?_|refine asT_i rfl rfl ?_|refine asA_i rfl rfl ?_|refine h.l rfl ?_|refine h.hd rfl ?_|(refine h.sb rfl rfl ?_;clear h;intro _ h)|(refine h.dw ?_;clear h;intro _ h)
  exact hK _ h.ext
theorem Reads.at1 {α : Type} {f : α → Value} {p : Option Addr} {l : List α} (hr : Reads w p (l.map f)) {i n : Nat} (hn : l.length = n) {x : α} (hx : l[i]? = some x) {K : Addr → Prop} (hK : ∀ a, p = some a → w.cell? (Addr.add a (i * 1)) = some (f x) → K a) : dr p fun a => bnd (i : Int) n (K a) := by
  have hi := (List.getElem?_eq_some_iff.1 hx).1
  rcases hr with h | ⟨b, o, rfl, hc⟩
  · rw [List.map_eq_nil_iff] at h; subst h; simp at hi
  · exact dr_i (bnd_mk (by omega) (by omega) (hK _ rfl (by rw [add_mk, Nat.mul_one]; exact hc i _ (by simp [hx]))))
structure StAt (w : World) (p : Option Addr) (SL : List Sv) : Prop where
  rd : Reads w p (SL.map svC)
  each : ∀ s ∈ SL, Reads w s.p (iw s.l)
theorem StAt.ext {w' : World} (h : Ext no w w') {p : Option Addr} {SL : List Sv} (k : StAt w p SL) : StAt w' p SL := ⟨k.rd.no h, fun s hs => (k.each s hs).no h⟩
theorem sizeG_le {X : Im} {SL : List Sv} (hst : StOK X SL) (hz : ∀ g ∈ X.gl, g.z ≤ 1000) : ∀ s ∈ SL, s.l.length ≤ 1000 := by
  intro s hs
  obtain ⟨k, hk⟩ := List.getElem?_of_mem hs
  have hkl : k < X.gl.length := by rw [← hst.1]; exact (List.getElem?_eq_some_iff.1 hk).1
  have h1 := (hst.2 k _ s (List.getElem?_eq_getElem hkl) hk).1
  have h2 := hz _ (List.getElem_mem hkl)
  unfold sizeG at h1
  split at h1 <;> omega
theorem right_k {M : Ms} (hM : MsAt w M) {p : Option Addr} {SL : List Sv} {c : Nat} (hs : StAt w p SL) (hst : StOK M.I.im SL) (hz : ∀ g ∈ M.I.gl, g.z ≤ 1000) (hgl : M.I.gl.length ≤ 1000) (hfl : M.I.fs.length ≤ 1000) {k : Nat} {x : Fs} (hx : M.I.fs[k]? = some x) {q : Option Addr} {m d : Nat} {al : List Int} (ha : Reads w q (iw al)) (hm : al.length = m)
    (hty : Ty (rowL x.f.par) al) (hpl : x.f.par.length ≤ 1000) {fu : Int} (h0 : 0 ≤ fu) (h1 : fu ≤ 1048576) (hK : ∀ w', Ext no w w' → K (.bool true) w') :
    cl Tryz.prog 59 #[.pointer (some ⟨M.mb, 0, none⟩), .slice p SL.length c, i6 (k : Int), .slice q m d, i6 fu] w K := by
  have hkl : k < M.I.fs.length := (List.getElem?_eq_some_iff.1 hx).1
  have hgn : SL.length = M.I.gl.length := hst.1
  have hml : m = x.f.par.length := by rw [← hm, hty.len]; simp [rowL]
  have hfc : ∀ {w' : World}, Ext no w w' → ∀ {K : Addr → Prop}, (∀ a, (∀ j, j < 5 → w'.cell? (Addr.add (Addr.add a (k * 5)) j) = (fsC x)[j]?) → K a) → dr M.I.fp fun a => bnd (k : Int) M.I.fs.length (K a) := fun {w'} hx2 {K} hK => Reads.atN fsC_len ((hM.I.ext hx2).fn) rfl hx (by decide) fun a _ hca => hK a hca
  apply F59_calls
  unfold F59
  refine jn_of (fun s w' => s = [.bool false] ∧ w' = w) ?_ ?_
  rotate_left
  · intro J hJ
    refine sp (ld_mk hM.g (sp (cond_f (by simp only [hgn, bne_self_eq_false]) (cond_f (decide_eq_false (by omega)) (sp (ld_mk hM.f (sp (cond_f (decide_eq_false (by omega)) (cond_f (decide_eq_false (by omega)) (cond_f (decide_eq_false (by omega)) (sp (ld_mk hM.f (sp ?_)))))))))))))
    refine hfc (Ext.refl _ _) fun a hca => ?_
    rw [Int.toNat_natCast]
    refine ld_mk (hca 1 (by decide)) (sp ?_)
    rw [hml, bne_self_eq_false]
    exact hJ _ _ ⟨rfl, rfl⟩
  rintro _ w1 ⟨rfl, rfl⟩
  refine sp (cond_f rfl (sp (ld_mk hM.g (sp ?_))))
  refine lp_mk (fun k : Nat => [.int .i64 (k : Int)]) (fun n k w' => n = M.I.gl.length - k ∧ k ≤ M.I.gl.length ∧ Ext no w1 w') M.I.gl.length 0 rfl ⟨rfl, Nat.zero_le _, Ext.refl _ _⟩ ?_
  rintro n i w2 ⟨rfl, hi, hx2⟩ J hJ
  refine sp (cond_split (fun hc => ?_) fun hc => ?_)
  · have hil : i < M.I.gl.length := by have := of_decide_eq_true hc; omega
    obtain ⟨g, hg⟩ : ∃ g, M.I.gl[i]? = some g := ⟨_, List.getElem?_eq_getElem hil⟩
    have hil2 : i < SL.length := by omega
    obtain ⟨s, hsl⟩ : ∃ s, SL[i]? = some s := ⟨_, List.getElem?_eq_getElem hil2⟩
    have hsz := hst.2 i g s hg hsl
    refine Reads.atN glC_len ((hM.I.ext hx2).gl) rfl hg (by decide) fun a _ hca => ?_
    rw [Int.toNat_natCast]
    have hc0 := hca 0 (by decide)
    rw [Sx.add_zero'] at hc0
    refine ld_mk hc0 (sp (ld_mk (hca 1 (by decide)) (sp (ld_mk (hca 2 (by decide)) (sp ?_)))))
    have h := Hs.start w2
    refine h.nw ?_
    clear h
    intro qb w3 h
    repeat first|refine sp ?_|refine cond_t rfl ?_|refine cond_f rfl ?_|refine asT_i rfl rfl ?_|refine asA_i rfl rfl ?_|refine h.l rfl ?_|refine h.hd rfl ?_|(refine h.sb rfl rfl ?_;clear h;intro _ h)|(refine h.dw ?_;clear h;intro _ h)
    refine jn_of (fun t w' => t = [.bool false] ∧ Ext no w1 w') ?_ ?_
    · rintro _ w4 ⟨rfl, hx4⟩
      refine sp (cond_f rfl ?_)
      rw [natS i (by omega)]
      exact hJ _ (i + 1) w4 (by omega) ⟨rfl, hil, hx4⟩
    intro J2 hJ2
    refine h.dw ?_
    clear h
    intro w4 h
    refine Reads.at1 (hs.rd.no (hx2.trans h.ext)) rfl hsl fun ad had hcd => ?_
    rw [Int.toNat_natCast]
    refine ld_mk hcd (asS_i rfl ?_)
    repeat first|refine sp ?_|refine cond_t rfl ?_|refine cond_f rfl ?_|refine asT_i rfl rfl ?_|refine asA_i rfl rfl ?_|refine h.l rfl ?_|refine h.hd rfl ?_|(refine h.sb rfl rfl ?_;clear h;intro _ h)|(refine h.dw ?_;clear h;intro _ h)
    refine size_gk fun w5 hx5 => sp ?_
    replace h := h.to hx5
    refine hd_i (hx5.cell hcd fun h => h) ?_
    refine cond_f (by rw [hsz.1]; simp) ?_
    repeat first|refine sp ?_|refine cond_t rfl ?_|refine cond_f rfl ?_|refine asT_i rfl rfl ?_|refine asA_i rfl rfl ?_|refine h.l rfl ?_|refine h.hd rfl ?_|(refine h.sb rfl rfl ?_;clear h;intro _ h)|(refine h.dw ?_;clear h;intro _ h)
    refine Reads.at1 (hs.rd.no (hx2.trans h.ext)) rfl hsl fun ad2 had2 hcd2 => ?_
    refine ld_mk hcd2 (asS_i rfl ?_)
    have hl := sizeG_le hst hz s (List.mem_of_getElem? hsl)
    refine fits_k ((hs.each s (List.mem_of_getElem? hsl)).no (hx2.trans h.ext)) rfl (by omega) (fun e v hv => (hsz.2 v hv).2 (by rw [e]; rfl)) fun w6 hx6 => sp ?_
    refine hd_i (hx6.cell (hx5.cell hcd fun h => h) fun h => h) ?_
    exact hJ2 _ _ ⟨rfl, hx2.trans (h.ext.trans hx6)⟩
  refine sp (ld_mk ((hM.ext hx2).f) (sp ?_))
  refine hfc hx2 fun a hca => ?_
  rw [Int.toNat_natCast]
  refine ld_mk (hca 1 (by decide)) (sp ?_)
  refine lp_mk (fun k : Nat => [.int .i64 (k : Int)]) (fun n k w' => n = x.f.par.length - k ∧ k ≤ x.f.par.length ∧ Ext no w1 w') x.f.par.length 0 rfl ⟨rfl, Nat.zero_le _, hx2⟩ ?_
  clear hJ J hc hx2
  rintro n i w2 ⟨rfl, hi, hx2⟩ J hJ
  refine sp (cond_split (fun hc => ?_) fun hc => hK _ hx2)
  have hil : i < x.f.par.length := by have := of_decide_eq_true hc; omega
  refine Reads.ati (((hM.I.each x (List.mem_of_getElem? hx)).par).no hx2) rfl hil (sp (sp (sp ?_)))
  refine Reads.ati (ha.no hx2) hm (by omega) (sp ?_)
  have h := Hs.start w2
  refine h.nw ?_
  clear h
  intro qb w3 h
  have hrd : Reads w3 (some ⟨qb, 0, none⟩) (iw [al.getD i 0]) := h.rd (r := bk 3 qb [i6 (al.getD i 0)]) List.mem_cons_self
  have hp : (rowL x.f.par)[i]? = some (l5 (x.f.par.getD i 0)) := by simp [rowL, hil]
  refine fits_k hrd rfl (by decide) (fun e v hv => ?_) fun w4 hx4 => sp (cond_f rfl ?_)
  · rw [List.mem_singleton.1 hv]
    exact (hty.at hp).2 (by rw [e]; rfl)
  rw [natS i (by omega)]
  exact hJ _ (i + 1) w4 (by omega) ⟨rfl, hil, hx2.trans (h.ext.trans hx4)⟩
end
end Go.Proofs.YtndbhmmejjhcfaaGreatDoor
namespace Go.Proofs.YtndbhmmejjhcfaaGreatDoor
open Go Go.Sx Go.Vp
attribute [local irreducible] jn lv ld st nw asI asB asP asS asY asM asF asA asT lp rn ru rq cl dw dr bnd bn2 nz nn hd hr so eqW
set_option maxRecDepth 100000 in
theorem sl_b : SlN Tryz.prog 22 5 1 1 := ⟨rfl, ⟨_, _, rfl, rfl, rfl, rfl, rfl⟩, by decide⟩
set_option maxRecDepth 100000 in
theorem u3 : Tryz.prog.underlying 3 = some (.int .i64) := rfl
theorem grow_row {P : Program} {t tn ty e : TypeId} {b : Nat} (ht : SlN P t e 1 b) {kn : IntKind} (htn : P.underlying tn = some (.int kn)) {w : World} {n : Nat} (h0 : 0 < n) (hn : n ≤ 1000000000000) (hb : b ≤ 100) {K : Value → World → Prop}
    (hK : ∀ p c w', n ≤ c → Ext no w w' → Rw.ok ⟨e, 1, p, c, 0, []⟩ w' w.heap.size → K (.slice p n c) w') : rn P (Builtin.append_ #[t, tn] ty #[.slice none 0 0, .int .i64 (n : Int)]) w K := by
  obtain ⟨i, z, hi, hz, hzs, hs, rfl⟩ := ht.inf
  have hr := Lib.run_append_nil_zeros (P := P) w t tn ty e i z .i64 kn ht.und htn hi hz n h0 (by omega) (by omega) (by have := Nat.mul_le_mul hn hb; omega)
  have hg : n ≤ grownCap w n 0 e ∧ grownCap w n 0 e ≤ maxLen := ⟨grownCap_ge w n 0 e, grownCap_le_maxLen w n 0 e (by simp only [maxLen]; omega)⟩
  refine rn_mk hr (hK _ _ _ hg.1 ((Ext.drew w).trans (Ext.alloc _ _)) ⟨⟨rfl, .inr ⟨w.heap.size, grownCap w n 0 e, _, rfl, Nat.le_refl _, new_blk w.drew _, Nat.zero_le _, hg.2, ?_, rfl⟩⟩⟩)
  simp only [Array.size_append, size_zeroCells, hzs, Nat.mul_one]
  omega
def slV (x : Option Addr × Nat × List Value) : Value := .slice x.1 x.2.2.length x.2.1
theorem growb_k {Z : List PanicEntry → World → Prop} {w : World} {n : Nat} (hn : n ≤ 1000000000000) {K : Value → World → Prop} (hK : ∀ p c w', Ext no w w' → Rw.ok ⟨5, 1, p, c, 0, []⟩ w' w.heap.size → K (.slice p 0 c) w') :
    clz Z Tryz.prog 140 #[.slice none 0 0, i6 (n : Int)] w K := by
  apply F140_calls
  unfold F140
  refine jn_of (fun s w' => w' = w) ?_ fun J hJ => cond_f (decide_eq_false (by omega)) (hJ _ _ rfl)
  rintro s w1 rfl
  refine jn_of (fun s w' => ∃ p c, s = [.slice p 0 c] ∧ Ext no w1 w' ∧ Rw.ok ⟨5, 1, p, c, 0, []⟩ w' w1.heap.size) (fun s w' ⟨p, c, hs, hx, hr⟩ => by subst hs; exact sp (hK p c w' hx hr)) ?_
  intro J hJ
  have e1 : IntKind.wrap .i64 ((n : Int) - IntKind.wrap .i64 (((0 : Nat) : Int) - ((0 : Nat) : Int))) = n := by rw [show IntKind.wrap .i64 (((0 : Nat) : Int) - ((0 : Nat) : Int)) = 0 from rfl, wr64 (by omega) (by omega)]; omega
  rw [e1]
  refine sp (cond_split (fun h => ?_) fun h => hJ _ _ ⟨none, 0, rfl, Ext.refl _ _, RowN.nil _ _ _ _⟩)
  have h0 : 0 < n := by have := of_decide_eq_true h; omega
  refine bn2_mk (by decide) (by decide) (grow_row sl_b (kn := .i64) u3 h0 hn (by decide) fun p c w2 hc hx hr => sp (bn2_mk (by decide) (by omega) ?_))
  exact hJ _ _ ⟨p, c, rfl, hx, hr⟩
theorem growi_k {Z : List PanicEntry → World → Prop} {w : World} {n : Nat} (hn : n ≤ 1000000000000) {K : Value → World → Prop} (hK : ∀ p c w', Ext no w w' → Rw.ok ⟨3, 1, p, c, 0, []⟩ w' w.heap.size → K (.slice p 0 c) w') :
    clz Z Tryz.prog 95 #[.slice none 0 0, i6 (n : Int)] w K := by
  apply F95_calls
  unfold F95
  refine jn_of (fun s w' => w' = w) ?_ fun J hJ => cond_f (decide_eq_false (by omega)) (hJ _ _ rfl)
  rintro s w1 rfl
  refine jn_of (fun s w' => ∃ p c, s = [.slice p 0 c] ∧ Ext no w1 w' ∧ Rw.ok ⟨3, 1, p, c, 0, []⟩ w' w1.heap.size) (fun s w' ⟨p, c, hs, hx, hr⟩ => by subst hs; exact sp (hK p c w' hx hr)) ?_
  intro J hJ
  have e1 : IntKind.wrap .i64 ((n : Int) - IntKind.wrap .i64 (((0 : Nat) : Int) - ((0 : Nat) : Int))) = n := by rw [show IntKind.wrap .i64 (((0 : Nat) : Int) - ((0 : Nat) : Int)) = 0 from rfl, wr64 (by omega) (by omega)]; omega
  rw [e1]
  refine sp (cond_split (fun h => ?_) fun h => hJ _ _ ⟨none, 0, rfl, Ext.refl _ _, RowN.nil _ _ _ _⟩)
  have h0 : 0 < n := by have := of_decide_eq_true h; omega
  refine bn2_mk (by decide) (by decide) (grow_row sl_int (kn := .i64) u3 h0 hn (by decide) fun p c w2 hc hx hr => sp (bn2_mk (by decide) (by omega) ?_))
  exact hJ _ _ ⟨p, c, rfl, hx, hr⟩
theorem concatb_k {Z : List PanicEntry → World → Prop} {w : World} {q : Option Addr} {m d : Nat} {L : List (Option Addr × Nat × List Value)} (hq : Reads w q (L.map slV)) (hm : L.length = m) (hr : ∀ x ∈ L, Reads w x.1 x.2.2 ∧ ∀ u ∈ x.2.2, one u = true) (hn : (L.flatMap fun x => x.2.2).length ≤ 1000000000) (hm2 : m ≤ 1000000000)
    (hnil : ∀ x ∈ L, x.1 = none → x.2.2 = []) {K : Value → World → Prop} (hK : ∀ p c w', Ext no w w' → Rw.ok ⟨5, 1, p, c, (L.flatMap fun x => x.2.2).length, L.flatMap fun x => x.2.2⟩ w' w.heap.size → K (.slice p (L.flatMap fun x => x.2.2).length c) w') : clz Z Tryz.prog 89 #[.slice q m d] w K := by
  subst hm
  have hpre : ∀ i, ((L.take i).flatMap fun x => x.2.2).length ≤ 1000000000 := fun i => by
    have := congrArg (fun l => (l.flatMap fun x : Option Addr × Nat × List Value => x.2.2).length) (List.take_append_drop i L)
    simp only [List.flatMap_append, List.length_append] at this
    omega
  apply F89_calls
  unfold F89
  refine sp (lp_mk (fun x : Nat × Nat => [.int .i64 (x.1 : Int), .int .i64 (x.2 : Int)]) (fun n x w' => n = L.length - x.2 ∧ x.2 ≤ L.length ∧ x.1 = ((L.take x.2).flatMap fun x => x.2.2).length ∧ w' = w) L.length (0, 0) rfl ⟨rfl, Nat.zero_le _, rfl, rfl⟩ ?_)
  rintro n ⟨s, i⟩ w1 ⟨rfl, hi, hs, rfl⟩ J hJ
  simp only at hi hs
  refine sp (sp (cond_split (fun hc => ?_) fun hc => ?_))
  · have hil : i < L.length := by have := of_decide_eq_true hc; simp only at this; omega
    obtain ⟨x, hx⟩ : ∃ x, L[i]? = some x := ⟨_, List.getElem?_eq_getElem hil⟩
    have hp1 := hpre (i + 1)
    have e1 : ((L.take (i + 1)).flatMap fun x => x.2.2).length = s + x.2.2.length := by rw [List.take_add_one, hx, List.flatMap_append, List.length_append, ← hs]; simp
    rw [e1] at hp1
    refine jn_of (fun t w' => t = [.int .i64 ((s + x.2.2.length : Nat) : Int)] ∧ w' = w1) ?_ ?_
    · rintro _ w2 ⟨rfl, rfl⟩
      refine sp ?_
      rw [natS i (by omega)]
      exact hJ (L.length - (i + 1)) (s + x.2.2.length, i + 1) _ (by simp only; omega) ⟨rfl, hil, e1.symm, rfl⟩
    · intro J2 hJ2
      refine Reads.at1 hq rfl hx fun a _ hca => ?_
      rw [Int.toNat_natCast]
      refine ld_mk hca (asS_i rfl ?_)
      have e2 : IntKind.wrap .i64 ((s : Int) + (x.2.2.length : Int)) = ((s + x.2.2.length : Nat) : Int) := by rw [wr64 (by omega) (by omega)]; simp
      rw [e2]
      exact sp (cond_f (decide_eq_false (by omega)) (hJ2 _ _ ⟨rfl, rfl⟩))
  have hil : i = L.length := by have := of_decide_eq_false hc; simp only at this; omega
  subst hil
  rw [List.take_length] at hs
  clear hJ J hc
  refine growb_k (by omega) fun p c w2 hx2 hr2 => sp ?_
  refine lp_mk (fun x : Option Addr × Nat × Nat => [.slice x.1 ((L.take x.2.2).flatMap fun x => x.2.2).length x.2.1, .int .i64 (x.2.2 : Int)]) (fun n x w' => n = L.length - x.2.2 ∧ x.2.2 ≤ L.length ∧ Hs w1 w' [⟨5, 1, x.1, x.2.1, ((L.take x.2.2).flatMap fun x => x.2.2).length, (L.take x.2.2).flatMap fun x => x.2.2⟩]) L.length (p, c, 0) rfl ⟨rfl, Nat.zero_le _, (Hs.start w1).push hx2 hr2⟩ ?_
  clear hx2 hr2
  rintro n ⟨p, c, i⟩ w3 ⟨rfl, hi, h⟩ J hJ
  simp only at hi h
  refine sp (sp (cond_split (fun hc => ?_) fun hc => ?_))
  · have hil : i < L.length := by have := of_decide_eq_true hc; simp only at this; omega
    obtain ⟨x, hx⟩ : ∃ x, L[i]? = some x := ⟨_, List.getElem?_eq_getElem hil⟩
    have hxm := List.mem_of_getElem? hx
    have hp1 := hpre (i + 1)
    have e1 : (L.take (i + 1)).flatMap (fun x => x.2.2) = (L.take i).flatMap (fun x => x.2.2) ++ x.2.2 := by rw [List.take_add_one, hx, List.flatMap_append]; simp
    rw [e1, List.length_append] at hp1
    refine Reads.at1 (h.old hq) rfl hx fun a _ hca => ?_
    rw [Int.toNat_natCast]
    refine ld_mk hca (asS_i rfl ?_)
    refine Hs.app sl_b h (h.old (hr x hxm).1) (by simp) (fun e => by rw [hnil x hxm e]; rfl) (hr x hxm).2 (by dsimp only; omega) (by simp only [maxLen]; omega) fun p2 c2 w4 h _ => sp ?_
    rw [natS i (by omega)]
    have e2 : ((L.take i).flatMap fun x => x.2.2).length + x.2.2.length = ((L.take (i + 1)).flatMap fun x => x.2.2).length := by rw [e1, List.length_append]
    rw [e2]
    refine hJ (L.length - (i + 1)) (p2, c2, i + 1) w4 (by simp only; omega) ⟨rfl, hil, ?_⟩
    simp only
    rw [← e2, e1]
    exact h
  · have hil : i = L.length := by have := of_decide_eq_false hc; simp only at this; omega
    subst hil
    have := hK p c w3 h.ext
    rw [List.take_length] at h ⊢
    exact this (h.row _ List.mem_cons_self)
theorem concati_k {Z : List PanicEntry → World → Prop} {w : World} {q : Option Addr} {m d : Nat} {L : List (Option Addr × Nat × List Value)} (hq : Reads w q (L.map slV)) (hm : L.length = m) (hr : ∀ x ∈ L, Reads w x.1 x.2.2 ∧ ∀ u ∈ x.2.2, one u = true) (hn : (L.flatMap fun x => x.2.2).length ≤ 1000000000) (hm2 : m ≤ 1000000000)
    (hnil : ∀ x ∈ L, x.1 = none → x.2.2 = []) {K : Value → World → Prop} (hK : ∀ p c w', Ext no w w' → Rw.ok ⟨3, 1, p, c, (L.flatMap fun x => x.2.2).length, L.flatMap fun x => x.2.2⟩ w' w.heap.size → K (.slice p (L.flatMap fun x => x.2.2).length c) w') : clz Z Tryz.prog 44 #[.slice q m d] w K := by
  subst hm
  have hpre : ∀ i, ((L.take i).flatMap fun x => x.2.2).length ≤ 1000000000 := fun i => by
    have := congrArg (fun l => (l.flatMap fun x : Option Addr × Nat × List Value => x.2.2).length) (List.take_append_drop i L)
    simp only [List.flatMap_append, List.length_append] at this
    omega
  apply F44_calls
  unfold F44
  refine sp (lp_mk (fun x : Nat × Nat => [.int .i64 (x.1 : Int), .int .i64 (x.2 : Int)]) (fun n x w' => n = L.length - x.2 ∧ x.2 ≤ L.length ∧ x.1 = ((L.take x.2).flatMap fun x => x.2.2).length ∧ w' = w) L.length (0, 0) rfl ⟨rfl, Nat.zero_le _, rfl, rfl⟩ ?_)
  rintro n ⟨s, i⟩ w1 ⟨rfl, hi, hs, rfl⟩ J hJ
  simp only at hi hs
  refine sp (sp (cond_split (fun hc => ?_) fun hc => ?_))
  · have hil : i < L.length := by have := of_decide_eq_true hc; simp only at this; omega
    obtain ⟨x, hx⟩ : ∃ x, L[i]? = some x := ⟨_, List.getElem?_eq_getElem hil⟩
    have hp1 := hpre (i + 1)
    have e1 : ((L.take (i + 1)).flatMap fun x => x.2.2).length = s + x.2.2.length := by rw [List.take_add_one, hx, List.flatMap_append, List.length_append, ← hs]; simp
    rw [e1] at hp1
    refine jn_of (fun t w' => t = [.int .i64 ((s + x.2.2.length : Nat) : Int)] ∧ w' = w1) ?_ ?_
    · rintro _ w2 ⟨rfl, rfl⟩
      refine sp ?_
      rw [natS i (by omega)]
      exact hJ (L.length - (i + 1)) (s + x.2.2.length, i + 1) _ (by simp only; omega) ⟨rfl, hil, e1.symm, rfl⟩
    · intro J2 hJ2
      refine Reads.at1 hq rfl hx fun a _ hca => ?_
      rw [Int.toNat_natCast]
      refine ld_mk hca (asS_i rfl ?_)
      have e2 : IntKind.wrap .i64 ((s : Int) + (x.2.2.length : Int)) = ((s + x.2.2.length : Nat) : Int) := by rw [wr64 (by omega) (by omega)]; simp
      rw [e2]
      exact sp (cond_f (decide_eq_false (by omega)) (hJ2 _ _ ⟨rfl, rfl⟩))
  have hil : i = L.length := by have := of_decide_eq_false hc; simp only at this; omega
  subst hil
  rw [List.take_length] at hs
  clear hJ J hc
  refine growi_k (by omega) fun p c w2 hx2 hr2 => sp ?_
  refine lp_mk (fun x : Option Addr × Nat × Nat => [.slice x.1 ((L.take x.2.2).flatMap fun x => x.2.2).length x.2.1, .int .i64 (x.2.2 : Int)]) (fun n x w' => n = L.length - x.2.2 ∧ x.2.2 ≤ L.length ∧ Hs w1 w' [⟨3, 1, x.1, x.2.1, ((L.take x.2.2).flatMap fun x => x.2.2).length, (L.take x.2.2).flatMap fun x => x.2.2⟩]) L.length (p, c, 0) rfl ⟨rfl, Nat.zero_le _, (Hs.start w1).push hx2 hr2⟩ ?_
  clear hx2 hr2
  rintro n ⟨p, c, i⟩ w3 ⟨rfl, hi, h⟩ J hJ
  simp only at hi h
  refine sp (sp (cond_split (fun hc => ?_) fun hc => ?_))
  · have hil : i < L.length := by have := of_decide_eq_true hc; simp only at this; omega
    obtain ⟨x, hx⟩ : ∃ x, L[i]? = some x := ⟨_, List.getElem?_eq_getElem hil⟩
    have hxm := List.mem_of_getElem? hx
    have hp1 := hpre (i + 1)
    have e1 : (L.take (i + 1)).flatMap (fun x => x.2.2) = (L.take i).flatMap (fun x => x.2.2) ++ x.2.2 := by rw [List.take_add_one, hx, List.flatMap_append]; simp
    rw [e1, List.length_append] at hp1
    refine Reads.at1 (h.old hq) rfl hx fun a _ hca => ?_
    rw [Int.toNat_natCast]
    refine ld_mk hca (asS_i rfl ?_)
    refine Hs.app sl_int h (h.old (hr x hxm).1) (by simp) (fun e => by rw [hnil x hxm e]; rfl) (hr x hxm).2 (by dsimp only; omega) (by simp only [maxLen]; omega) fun p2 c2 w4 h _ => sp ?_
    rw [natS i (by omega)]
    have e2 : ((L.take i).flatMap fun x => x.2.2).length + x.2.2.length = ((L.take (i + 1)).flatMap fun x => x.2.2).length := by rw [e1, List.length_append]
    rw [e2]
    refine hJ (L.length - (i + 1)) (p2, c2, i + 1) w4 (by simp only; omega) ⟨rfl, hil, ?_⟩
    simp only
    rw [← e2, e1]
    exact h
  · have hil : i = L.length := by have := of_decide_eq_false hc; simp only at this; omega
    subst hil
    have := hK p c w3 h.ext
    rw [List.take_length] at h ⊢
    exact this (h.row _ List.mem_cons_self)
end Go.Proofs.YtndbhmmejjhcfaaGreatDoor
namespace Go.Proofs.YtndbhmmejjhcfaaGreatDoor
open Go Go.Sx Go.Vp
attribute [local irreducible] jn lv ld st nw asI asB asP asS asY asM asF asA asT lp rn ru rq cl dw dr bnd bn2 nz nn hd hr so eqW
attribute [local irreducible] callOk
def Nib (w : World) : Prop := ∀ i, i < 16 → ∃ x, w.cell? ⟨0, i, none⟩ = some (.int .u32 x)
theorem Nib.ext {w w' : World} (h : Ext no w w') (k : Nib w) : Nib w' := fun i hi => by obtain ⟨x, hx⟩ := k i hi; exact ⟨x, h.cell hx fun h => h⟩
theorem and15 (a : Int) : ∃ i : Nat, Go.bits .and .u32 a 15 = (i : Int) ∧ i < 16 := by
  have h : (BitVec.ofInt 32 a &&& BitVec.ofInt 32 15).toNat ≤ 15 := by
    rw [BitVec.toNat_and]
    exact Nat.le_trans Nat.and_le_right (by decide)
  refine ⟨(BitVec.ofInt 32 a &&& BitVec.ofInt 32 15).toNat, ?_, by omega⟩
  show IntKind.wrap .u32 (((BitVec.ofInt 32 a &&& BitVec.ofInt 32 15).toNat : Nat) : Int) = _
  rw [IntKind.wrap_u32]
  omega
section
variable {w : World} {K : Value → World → Prop}
theorem Reads.atb {p : Option Addr} {bs : List Nat} (hr : Reads w p (bv bs)) {i n : Nat} (hn : bs.length = n) (hi : i < n) {K : Value → Prop} (hK : K (.int .u8 ((bs.getD i 0 : Nat) : Int))) : dr p fun a => bnd (i : Int) n (ld w (Addr.add a (Int.toNat (i : Int) * 1)) K) :=
  Reads.at hr (by omega) (by rw [Int.toNat_natCast]; exact bv_get (by omega)) hK (by simp [bv_length]; omega)
theorem sum_k (hN : Nib w) {p : Option Addr} {bs : List Nat} {n c : Nat} (hr : Reads w p (bv bs)) (hn : bs.length = n) (hb : n ≤ 1000000000) (hK : ∀ s, K (i6 s) w) : cl Tryz.prog 88 #[.slice p n c] w K := by
  apply F88_calls
  unfold F88
  refine sp (sp (lp_mk (fun x : Int × Nat => [.int .u32 x.1, .int .i64 (x.2 : Int)]) (fun m x w' => m = n - x.2 ∧ x.2 ≤ n ∧ w' = w) n (4294967295, 0) rfl ⟨rfl, Nat.zero_le _, rfl⟩ ?_))
  rintro m ⟨s, i⟩ w1 ⟨rfl, hi, rfl⟩ J hJ
  simp only at hi
  refine sp (sp (cond_split (fun hc => ?_) fun hc => sp (hK _)))
  have hil : i < n := by have := of_decide_eq_true hc; simp only at this; omega
  refine Reads.atb hr hn hil (sp (sp (sp ?_)))
  obtain ⟨j, ej, hj⟩ := and15 (Go.bits .xor .u32 s (IntKind.wrap .u32 ((bs.getD i 0 : Nat) : Int)))
  rw [ej]
  obtain ⟨x, hx⟩ := hN j hj
  refine bnd_mk (by omega) (by omega) ?_
  rw [Int.toNat_natCast, Nat.mul_one, add_mk, Nat.zero_add]
  refine ld_mk hx (sp (sp ?_))
  obtain ⟨k, ek, hk⟩ := and15 (Go.bits .xor .u32 (Int.fdiv (Go.bits .xor .u32 s (IntKind.wrap .u32 ((bs.getD i 0 : Nat) : Int))) (2 ^ (min (Int.toNat (4 : Int)) 32))) x)
  rw [ek]
  obtain ⟨y, hy⟩ := hN k hk
  refine bnd_mk (by omega) (by omega) ?_
  rw [Int.toNat_natCast, Nat.mul_one, add_mk, Nat.zero_add]
  refine ld_mk hy (sp (sp ?_))
  rw [natS i (by omega)]
  exact hJ (n - (i + 1)) (_, i + 1) _ (by simp only; omega) ⟨rfl, hil, rfl⟩
theorem u8_nat (n : Int) : ∃ m : Nat, Value.int .u8 (IntKind.wrap .u8 n) = .int .u8 (m : Int) := ⟨(IntKind.wrap .u8 n).toNat, by rw [IntKind.wrap_u8]; congr 1; omega⟩
theorem frame_k (hN : Nib w) {p : Option Addr} {bs : List Nat} {n c : Nat} (hr : Reads w p (bv bs)) (hn : bs.length = n) (hb : n ≤ 100000000) (hp : p = none → bs = []) (hK : ∀ p' c' (bs' : List Nat) w', Ext no w w' → bs'.length = n + 4 → Rw.ok ⟨5, 1, p', c', n + 4, bv bs'⟩ w' w.heap.size → K (.slice p' (n + 4) c') w') : cl Tryz.prog 39 #[.slice p n c] w K := by
  apply F39_calls
  unfold F39
  refine sum_k hN hr hn (by omega) fun s => sp (sp ?_)
  have h := Hs.start w
  refine h.nwN 4 1 rfl (by decide) ?_
  clear h
  intro q1 w1 h
  refine h.nwN 2 1 rfl (by decide) ?_
  clear h
  intro q2 w2 h
  obtain ⟨m1, e1⟩ := u8_nat s
  obtain ⟨m2, e2⟩ := u8_nat (Int.fdiv s (2 ^ (min (Int.toNat (8 : Int)) 64)))
  obtain ⟨m3, e3⟩ := u8_nat (Int.fdiv s (2 ^ (min (Int.toNat (16 : Int)) 64)))
  obtain ⟨m4, e4⟩ := u8_nat (Int.fdiv s (2 ^ (min (Int.toNat (24 : Int)) 64)))
  rw [e1, e2, e3, e4] at h
  have hx := h.ext
  have hL : (([(p, c, bv bs), (some ⟨q1, 0, none⟩, 4, bv [m1, m2, m3, m4])] : List (Option Addr × Nat × List Value)).flatMap fun x => x.2.2) = bv (bs ++ [m1, m2, m3, m4]) := by simp [bv]
  have hlen : (bv (bs ++ [m1, m2, m3, m4])).length = n + 4 := by simp [bv, hn]
  refine clz_cl (concatb_k (L := [(p, c, bv bs), (some ⟨q1, 0, none⟩, 4, bv [m1, m2, m3, m4])]) ?_ rfl ?_ ?_ (by simp) ?_ fun p' c' w' hx' hrow => ?_)
  · have := h.rd (r := ⟨22, 1, some ⟨q2, 0, none⟩, 2, 2, [.slice p n c, .slice (some ⟨q1, 0, none⟩) 4 4]⟩) List.mem_cons_self
    simpa [slV, bv_length, hn] using this
  · intro x hx
    rcases List.mem_cons.1 hx with rfl | hx
    · exact ⟨h.old hr, bv_one⟩
    · obtain rfl := List.mem_singleton.1 hx
      exact ⟨h.rd (r := ⟨5, 1, some ⟨q1, 0, none⟩, 4, 4, bv [m1, m2, m3, m4]⟩) (List.mem_cons_of_mem _ List.mem_cons_self), bv_one⟩
  · rw [hL, hlen]; omega
  · intro x hx e
    rcases List.mem_cons.1 hx with rfl | hx
    · rw [hp e]; rfl
    · obtain rfl := List.mem_singleton.1 hx
      cases e
  · rw [hL, hlen] at hrow ⊢
    exact sp (hK p' c' _ w' (hx.trans hx') (by simp [hn]) (RowN.mono hrow hx.size))
theorem equalb_k {p q : Option Addr} {xs bs : List Nat} {n m c d : Nat} (hr : Reads w p (bv xs)) (hn : xs.length = n) (hs : Reads w q (bv bs)) (hm : bs.length = m) (hb : n ≤ 1000000000) (hK : ∀ b w', Ext no w w' → K (.bool b) w') : cl Tryz.prog 38 #[.slice p n c, .slice q m d] w K := by
  apply F38_calls
  unfold F38
  refine cond_split (fun _ => hK _ _ (Ext.refl _ _)) fun he => ?_
  have he : n = m := by simp at he; omega
  refine lp_mk (fun k : Nat => [.int .i64 (k : Int)]) (fun z k w' => z = n - k ∧ k ≤ n ∧ Ext no w w') n 0 rfl ⟨rfl, Nat.zero_le _, Ext.refl _ _⟩ ?_
  rintro z i w1 ⟨rfl, hi, hx⟩ J hJ
  refine sp (cond_split (fun hc => sp ?_) fun _ => hK _ _ hx)
  have hil : i < n := by have := of_decide_eq_true hc; omega
  refine dw_mk ?_
  have hx2 := hx.trans (Ext.drew w1)
  refine Reads.atb (hr.no hx2) hn hil (sp ?_)
  refine Reads.atb (hs.no hx2) hm (by omega) (sp ?_)
  refine cond_split (fun _ => hK _ _ hx2) fun _ => ?_
  rw [natS i (by omega)]
  exact hJ (n - (i + 1)) (i + 1) _ (by omega) ⟨rfl, hil, hx2⟩
theorem open_k (hN : Nib w) {p : Option Addr} {bs : List Nat} {n c : Nat} (hr : Reads w p (bv bs)) (hn : bs.length = n) (hb : n ≤ 10000000) (hc : n ≤ c) (hp : p = none → bs = []) (hF : ∀ w', Ext no w w' → K (.tuple #[.slice none 0 0, .bool false]) w')
    (hT : ∀ q d (rs : List Nat) w', rs.length ≤ n → Ext no w w' → Rw.ok ⟨5, 1, q, d, rs.length, bv rs⟩ w' w.heap.size → K (.tuple #[.slice q rs.length d, .bool true]) w') : cl Tryz.prog 11 #[.slice p n c] w K := by
  apply F11_calls
  unfold F11
  have e1 : IntKind.wrap .i64 ((n : Int) - 4) = (n : Int) - 4 := wr64 (by omega) (by omega)
  rw [e1]
  have hpre : ∀ k : Nat, k ≤ n → Reads w p (bv (bs.take k)) := fun k _ => by
    have : bv bs = bv (bs.take k) ++ bv (bs.drop k) := by rw [← bv_append, List.take_append_drop]
    rw [this] at hr
    exact hr.pre
  refine sp (jn_of (fun s w' => ∃ b, s = [.bool b] ∧ Ext no w w' ∧ (b = false → 4 ≤ n)) ?_ ?_)
  rotate_left
  · intro J hJ
    refine cond_split (fun _ => hJ _ _ ⟨_, rfl, Ext.refl _ _, by simp⟩) fun h => ?_
    have h4 : 4 ≤ n := by have := of_decide_eq_false h; omega
    have e2 : ((n : Int) - 4) = ((n - 4 : Nat) : Int) := by omega
    rw [e2]
    refine bn2_mk (by omega) (by omega) ?_
    rw [Int.toNat_natCast]
    refine frame_k hN (hpre (n - 4) (by omega)) (by simp [hn]) (by omega) (fun e => by rw [hp e]; simp) fun p' c' bs' w2 hx2 hl hrow => sp ?_
    refine equalb_k (RowN.reads hrow) (by rw [hl]) (hr.no hx2) hn (by omega) fun b w3 hx3 => sp ?_
    exact hJ _ _ ⟨_, rfl, hx2.trans hx3, fun _ => h4⟩
  rintro _ w1 ⟨b, rfl, hx, h4⟩
  refine sp (cond_split (fun _ => hF _ hx) fun hf => ?_)
  have h4 := h4 hf
  have e2 : ((n : Int) - 4) = ((n - 4 : Nat) : Int) := by omega
  rw [e2]
  refine dw_mk (bn2_mk (by omega) (by omega) ?_)
  have hx2 := hx.trans (Ext.drew w1)
  refine sl_b.make0 (by omega) (by simp only [maxLen]; omega) fun w2 hrow hx3 => sp ?_
  rw [Int.toNat_natCast]
  have h := (Hs.start w1.drew).push (r := ⟨5, 1, _, _, 0, []⟩) hx3 hrow
  refine Hs.app sl_b h (((hpre (n - 4) (by omega)).no hx2).no hx3) (by simp [bv_length, hn]) (fun e => ?_) bv_one (by omega) (by simp only [maxLen]; omega) fun q d w4 h _ => sp ?_
  · rw [hp e, List.length_nil] at hn
    omega
  · have hl : (bs.take (n - 4)).length = 0 + (n - 4) := by simp [hn]
    have := hT q d (bs.take (n - 4)) w4 (by omega) (hx2.trans h.ext)
    rw [hl] at this
    exact this (RowN.mono (h.row _ List.mem_cons_self) hx2.size)
end
end Go.Proofs.YtndbhmmejjhcfaaGreatDoor
