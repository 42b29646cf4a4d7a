/- The formulas that the evaluator Sx.ev comes to for functions of this seat, each with its linking theorem (by the kernel). Printed by this session's own program (wip/tool/sxgen.py). -/
import Derived.Test.YtamobmjfdiecbaaDoorProg
import Derived.Test.YtamobmjfdiecbaaDoorMgPhysicsApart1
import Derived.KernelRfl
import Derived.Laws.AppendOwn
import Derived.Laws.MakeOwn
import Derived.Laws.OwnMore
import Derived.Laws.CopyRow
import Derived.Below
import Derived.ArgAppend
namespace Go.Proofs.YtamobmjfdiecbaaDoor
open Go Go.Sx
set_option maxRecDepth 100000

/-! tiltyard/tiltyardlaw20.awake -/
def h8 : Hint := (.s .d (.s .d (.s .d (.s .d (.s .d (.s .d (.s .d (.s .d (.s .d (.s .d (.j [(0, 4)] .d .d)))))))))))
set_option linter.unusedVariables false in
def F8  (w : World) (Q : Value → World → Prop) : Prop :=
 
(cl Tryd.prog 21 #[] w fun v1 w2 => asP v1 fun p3 => 

(cond (Option.isNone p3) 
(Q (.bool false) w2) 
(cl Tryd.prog 22 #[(.pointer p3), (.agg #[(.int .i64 (0 : Int)), (.int .i64 (0 : Int)), (.int .i64 (0 : Int)), (.int .i64 (4294967296 : Int)), (.int .i64 (8589934592 : Int)), (.int .i64 (0 : Int)), (.int .i64 (0 : Int)), (.int .i64 (0 : Int))])] w2 fun v4 w5 => asT 2 v4 fun t6 => asI .i64 (t6 0) fun x7 => asI .i64 (t6 1) fun x8 => (lv x7 fun a_9 => (lv x8 fun e_10 => 
(cl Tryd.prog 22 #[(.pointer p3), (.agg #[(.int .i64 (0 : Int)), (.int .i64 (21474836480 : Int)), (.int .i64 (0 : Int)), (.int .i64 (4294967296 : Int)), (.int .i64 (0 : Int)), (.int .i64 (0 : Int)), (.int .i64 (0 : Int)), (.int .i64 (0 : Int))])] w5 fun v11 w12 => asT 2 v11 fun t13 => asI .i64 (t13 0) fun x14 => asI .i64 (t13 1) fun x15 => (lv x14 fun b_16 => (lv x15 fun f_17 => 
(cl Tryd.prog 11 #[(.pointer p3)] w12 fun v18 w19 => asS v18 fun p20 n21 c22 => 
(cl Tryd.prog 11 #[(.pointer p3)] w19 fun v23 w24 => asS v23 fun p25 n26 c27 => 
(cl Tryd.prog 15 #[(.pointer p3), (.int .i64 a_9)] w24 fun v28 w29 => asT 2 v28 fun t30 => asA 8 (t30 0) fun a31 => asI .i64 (a31 0) fun x32 => asI .i64 (a31 1) fun x33 => asI .i64 (a31 2) fun x34 => asI .i64 (a31 3) fun x35 => asI .i64 (a31 4) fun x36 => asI .i64 (a31 5) fun x37 => asI .i64 (a31 6) fun x38 => asI .i64 (a31 7) fun x39 => asI .i64 (t30 1) fun x40 => (nw w29 (.cells #[(.int .i64 (0 : Int)), (.int .i64 (0 : Int)), (.int .i64 (0 : Int)), (.int .i64 (0 : Int)), (.int .i64 (0 : Int)), (.int .i64 (0 : Int)), (.int .i64 (0 : Int)), (.int .i64 (0 : Int))] 40) fun r41 w42 => (st w42 (⟨r41, 0, none⟩ : Addr) (.int .i64 x32) fun w43 => (st w43 (Addr.add (⟨r41, 0, none⟩ : Addr) 1) (.int .i64 x33) fun w44 => (st w44 (Addr.add (⟨r41, 0, none⟩ : Addr) 2) (.int .i64 x34) fun w45 => (st w45 (Addr.add (⟨r41, 0, none⟩ : Addr) 3) (.int .i64 x35) fun w46 => (st w46 (Addr.add (⟨r41, 0, none⟩ : Addr) 4) (.int .i64 x36) fun w47 => (st w47 (Addr.add (⟨r41, 0, none⟩ : Addr) 5) (.int .i64 x37) fun w48 => (st w48 (Addr.add (⟨r41, 0, none⟩ : Addr) 6) (.int .i64 x38) fun w49 => (st w49 (Addr.add (⟨r41, 0, none⟩ : Addr) 7) (.int .i64 x39) fun w50 => (lv x40 fun g_51 => 
(cl Tryd.prog 17 #[(.pointer p3), (.agg #[(.int .i64 (0 : Int)), (.int .i64 (0 : Int)), (.int .i64 (4294967296 : Int))]), (.int .i64 a_9)] w50 fun v52 w53 => asT 2 v52 fun t54 => asB (t54 0) fun b55 => asI .i64 (t54 1) fun x56 => (lv x56 fun h_57 => 
(cl Tryd.prog 17 #[(.pointer p3), (.agg #[(.int .i64 (12884901888 : Int)), (.int .i64 (0 : Int)), (.int .i64 (4294967296 : Int))]), (.int .i64 b_16)] w53 fun v58 w59 => asT 2 v58 fun t60 => asB (t60 0) fun b61 => asI .i64 (t60 1) fun x62 => (lv x62 fun i_63 => 
(jn (fun s64 w65 => asB (s64.getD 0 undef) fun b80 => (Q (.bool b80) w65))
 (fun J66 => (cond (e_10 == (0 : Int)) (cond (f_17 == (0 : Int)) (cond ((n21 : Int) == (0 : Int)) (cond ((n26 : Int) == (1 : Int)) (dr p25 fun a67 => (bnd (0 : Int) n26 (ld w59 (Addr.add a67 (Int.toNat (0 : Int) * 2)) fun v68 => asI .i64 v68 fun x69 => (ld w59 (Addr.add (Addr.add a67 (Int.toNat (0 : Int) * 2)) 1) fun v70 => asI .i64 v70 fun x71 => (eqW Tryd.prog 47 (.agg #[(.int .i64 x69), (.int .i64 x71)]) (.agg #[(.int .i64 a_9), (.int .i64 b_16)]) fun b72 => (cond b72 (cond (g_51 == (0 : Int)) (ld w59 (Addr.add (⟨r41, 0, none⟩ : Addr) 1) fun v73 => asI .i64 v73 fun x74 => (cond (x74 == (12884901888 : Int)) (ld w59 (Addr.add (⟨r41, 0, none⟩ : Addr) 4) fun v75 => asI .i64 v75 fun x76 => (ld w59 (Addr.add (Addr.add (⟨r41, 0, none⟩ : Addr) 4) 1) fun v77 => asI .i64 v77 fun x78 => (eqW Tryd.prog 36 (.agg #[(.int .i64 x76), (.int .i64 x78)]) (.agg #[(.int .i64 (0 : Int)), (.int .i64 (0 : Int))]) fun b79 => (cond b79 (cond b55 (cond (h_57 == (0 : Int)) (cond (!b61) (J66 [(.bool (i_63 == (0 : Int)))] w59) (J66 [(.bool false)] w59)) (J66 [(.bool false)] w59)) (J66 [(.bool false)] w59)) (J66 [(.bool false)] w59))))) (J66 [(.bool false)] w59))) (J66 [(.bool false)] w59)) (J66 [(.bool false)] w59))))))) (J66 [(.bool false)] w59)) (J66 [(.bool false)] w59)) (J66 [(.bool false)] w59)) (J66 [(.bool false)] w59)))))))))))))))))))))))))))))
theorem F8_link  (w : World) (Q : Value → World → Prop) : fnEv Tryd.prog Tryd.f8 h8 [] w Q = F8  w Q := by kernel_rfl
theorem F8_calls  {w : World} {Q : Value → World → Prop} (hF_ : F8  w Q) : cl Tryd.prog 8 #[] w Q :=
  calls_of_ev (fn := Tryd.f8) Tryd.func8 h8 (args := []) (by rw [F8_link]; exact hF_)

/-! tiltyard/tiltyardlaw20.Made -/
def h9 : Hint := (.s .d (.s .d (.s .d (.s (.s .d (.l [(8, 3)] (.s (.j [(23, 4)] .d .d) (.j [] (.s .d (.s .d (.j [(49, 4)] .d .d))) .d)))) .d))))
set_option linter.unusedVariables false in
def F9 (l : Option Addr) (l_n l_c : Nat) (killed : Option Addr) (killed_n killed_c : Nat) (w : World) (Q : Value → World → Prop) : Prop :=
 
(cl Tryd.prog 21 #[] w fun v1 w2 => asP v1 fun p3 => 
(nw w2 (.cells #[(.int .i64 (0 : Int)), (.int .i64 (0 : Int)), (.int .i64 (0 : Int)), (.int .i64 (0 : Int)), (.int .i64 (0 : Int)), (.int .i64 (0 : Int)), (.int .i64 (0 : Int)), (.int .i64 (0 : Int)), (.int .i64 (0 : Int)), (.int .i64 (0 : Int)), (.int .i64 (0 : Int)), (.int .i64 (0 : Int)), (.int .i64 (0 : Int)), (.int .i64 (0 : Int)), (.int .i64 (0 : Int)), (.int .i64 (0 : Int)), (.int .i64 (0 : Int)), (.int .i64 (0 : Int)), (.int .i64 (0 : Int)), (.int .i64 (0 : Int)), (.int .i64 (0 : Int)), (.int .i64 (0 : Int)), (.int .i64 (0 : Int)), (.int .i64 (0 : Int)), (.int .i64 (0 : Int)), (.int .i64 (0 : Int)), (.int .i64 (0 : Int)), (.int .i64 (0 : Int)), (.int .i64 (0 : Int)), (.int .i64 (0 : Int)), (.int .i64 (0 : Int)), (.int .i64 (0 : Int)), (.int .i64 (0 : Int)), (.int .i64 (0 : Int)), (.int .i64 (0 : Int)), (.int .i64 (0 : Int)), (.int .i64 (0 : Int)), (.int .i64 (0 : Int)), (.int .i64 (0 : Int)), (.int .i64 (0 : Int)), (.int .i64 (0 : Int)), (.int .i64 (0 : Int)), (.int .i64 (0 : Int)), (.int .i64 (0 : Int)), (.int .i64 (0 : Int)), (.int .i64 (0 : Int)), (.int .i64 (0 : Int)), (.int .i64 (0 : Int)), (.int .i64 (0 : Int)), (.int .i64 (0 : Int)), (.int .i64 (0 : Int)), (.int .i64 (0 : Int)), (.int .i64 (0 : Int)), (.int .i64 (0 : Int)), (.int .i64 (0 : Int)), (.int .i64 (0 : Int)), (.int .i64 (0 : Int)), (.int .i64 (0 : Int)), (.int .i64 (0 : Int)), (.int .i64 (0 : Int)), (.int .i64 (0 : Int)), (.int .i64 (0 : Int)), (.int .i64 (0 : Int)), (.int .i64 (0 : Int)), (.bool false), (.bool false), (.bool false), (.bool false), (.bool false), (.bool false), (.bool false), (.bool false), (.bool false), (.bool false), (.bool false), (.bool false), (.bool false), (.bool false), (.bool false), (.bool false), (.bool false), (.bool false), (.bool false), (.bool false), (.bool false), (.bool false), (.bool false), (.bool false), (.bool false), (.bool false), (.bool false), (.bool false), (.bool false), (.bool false), (.bool false), (.bool false), (.bool false), (.bool false), (.bool false), (.bool false), (.bool false), (.bool false), (.bool false), (.bool false), (.bool false), (.bool false), (.bool false), (.bool false), (.bool false), (.bool false), (.bool false), (.bool false), (.bool false), (.bool false), (.bool false), (.bool false), (.bool false), (.bool false), (.bool false), (.bool false), (.bool false), (.bool false), (.bool false), (.bool false), (.bool false), (.bool false), (.bool false), (.bool false), (.int .i64 (0 : Int)), (.int .i64 (0 : Int)), (.int .i64 (0 : Int)), (.int .i64 (0 : Int)), (.int .i64 (0 : Int)), (.int .i64 (0 : Int)), (.int .i64 (0 : Int)), (.int .i64 (0 : Int)), (.int .i64 (0 : Int)), (.int .i64 (0 : Int)), (.int .i64 (0 : Int)), (.int .i64 (0 : Int)), (.int .i64 (0 : Int)), (.int .i64 (0 : Int)), (.int .i64 (0 : Int)), (.int .i64 (0 : Int)), (.int .i64 (0 : Int)), (.int .i64 (0 : Int)), (.int .i64 (0 : Int)), (.int .i64 (0 : Int)), (.int .i64 (0 : Int)), (.int .i64 (0 : Int)), (.int .i64 (0 : Int)), (.int .i64 (0 : Int)), (.int .i64 (0 : Int)), (.int .i64 (0 : Int)), (.int .i64 (0 : Int)), (.int .i64 (0 : Int)), (.int .i64 (0 : Int)), (.int .i64 (0 : Int)), (.int .i64 (0 : Int)), (.int .i64 (0 : Int)), (.int .i64 (0 : Int)), (.int .i64 (0 : Int)), (.int .i64 (0 : Int)), (.int .i64 (0 : Int)), (.int .i64 (0 : Int)), (.int .i64 (0 : Int)), (.int .i64 (0 : Int)), (.int .i64 (0 : Int)), (.int .i64 (0 : Int)), (.int .i64 (0 : Int)), (.int .i64 (0 : Int)), (.int .i64 (0 : Int)), (.int .i64 (0 : Int)), (.int .i64 (0 : Int)), (.int .i64 (0 : Int)), (.int .i64 (0 : Int)), (.int .i64 (0 : Int)), (.int .i64 (0 : Int)), (.int .i64 (0 : Int)), (.int .i64 (0 : Int)), (.int .i64 (0 : Int)), (.int .i64 (0 : Int)), (.int .i64 (0 : Int)), (.int .i64 (0 : Int)), (.int .i64 (0 : Int)), (.int .i64 (0 : Int)), (.int .i64 (0 : Int)), (.int .i64 (0 : Int)), (.int .i64 (0 : Int)), (.int .i64 (0 : Int)), (.int .i64 (0 : Int)), (.int .i64 (0 : Int)), (.int .i64 (0 : Int)), (.int .i64 (0 : Int)), (.int .i64 (0 : Int)), (.int .i64 (0 : Int)), (.int .i64 (0 : Int)), (.int .i64 (0 : Int)), (.int .i64 (0 : Int)), (.int .i64 (0 : Int)), (.int .i64 (0 : Int)), (.int .i64 (0 : Int)), (.int .i64 (0 : Int)), (.int .i64 (0 : Int)), (.int .i64 (0 : Int)), (.int .i64 (0 : Int)), (.int .i64 (0 : Int)), (.int .i64 (0 : Int)), (.int .i64 (0 : Int)), (.int .i64 (0 : Int)), (.int .i64 (0 : Int)), (.int .i64 (0 : Int)), (.int .i64 (0 : Int)), (.int .i64 (0 : Int)), (.int .i64 (0 : Int)), (.int .i64 (0 : Int)), (.int .i64 (0 : Int)), (.int .i64 (0 : Int)), (.int .i64 (0 : Int)), (.int .i64 (0 : Int)), (.int .i64 (0 : Int)), (.int .i64 (0 : Int)), (.int .i64 (0 : Int)), (.int .i64 (0 : Int)), (.int .i64 (0 : Int)), (.int .i64 (0 : Int)), (.int .i64 (0 : Int)), (.int .i64 (0 : Int)), (.int .i64 (0 : Int)), (.int .i64 (0 : Int)), (.int .i64 (0 : Int)), (.int .i64 (0 : Int)), (.int .i64 (0 : Int)), (.int .i64 (0 : Int)), (.int .i64 (0 : Int)), (.int .i64 (0 : Int)), (.int .i64 (0 : Int)), (.int .i64 (0 : Int)), (.int .i64 (0 : Int)), (.int .i64 (0 : Int)), (.int .i64 (0 : Int)), (.int .i64 (0 : Int)), (.int .i64 (0 : Int)), (.int .i64 (0 : Int)), (.int .i64 (0 : Int)), (.int .i64 (0 : Int)), (.int .i64 (0 : Int)), (.int .i64 (0 : Int)), (.int .i64 (0 : Int)), (.int .i64 (0 : Int)), (.int .i64 (0 : Int)), (.int .i64 (0 : Int)), (.int .i64 (0 : Int)), (.int .i64 (0 : Int)), (.int .i64 (0 : Int)), (.int .i64 (0 : Int)), (.int .i64 (0 : Int)), (.int .i64 (0 : Int)), (.int .i64 (0 : Int)), (.int .i64 (0 : Int)), (.int .i64 (0 : Int)), (.int .i64 (0 : Int)), (.int .i64 (0 : Int)), (.int .i64 (0 : Int)), (.int .i64 (0 : Int)), (.int .i64 (0 : Int)), (.int .i64 (0 : Int)), (.int .i64 (0 : Int)), (.int .i64 (0 : Int)), (.int .i64 (0 : Int)), (.int .i64 (0 : Int)), (.int .i64 (0 : Int)), (.int .i64 (0 : Int)), (.int .i64 (0 : Int)), (.int .i64 (0 : Int)), (.int .i64 (0 : Int)), (.int .i64 (0 : Int)), (.int .i64 (0 : Int)), (.int .i64 (0 : Int)), (.int .i64 (0 : Int)), (.int .i64 (0 : Int)), (.int .i64 (0 : Int)), (.int .i64 (0 : Int)), (.int .i64 (0 : Int)), (.int .i64 (0 : Int)), (.int .i64 (0 : Int)), (.int .i64 (0 : Int)), (.int .i64 (0 : Int)), (.int .i64 (0 : Int)), (.int .i64 (0 : Int)), (.int .i64 (0 : Int)), (.int .i64 (0 : Int)), (.int .i64 (0 : Int)), (.int .i64 (0 : Int)), (.int .i64 (0 : Int)), (.int .i64 (0 : Int)), (.int .i64 (0 : Int)), (.int .i64 (0 : Int)), (.int .i64 (0 : Int)), (.int .i64 (0 : Int)), (.int .i64 (0 : Int)), (.int .i64 (0 : Int)), (.int .i64 (0 : Int)), (.int .i64 (0 : Int)), (.int .i64 (0 : Int)), (.int .i64 (0 : Int)), (.int .i64 (0 : Int)), (.int .i64 (0 : Int)), (.int .i64 (0 : Int)), (.int .i64 (0 : Int)), (.int .i64 (0 : Int)), (.int .i64 (0 : Int)), (.int .i64 (0 : Int)), (.int .i64 (0 : Int)), (.int .i64 (0 : Int)), (.int .i64 (0 : Int)), (.int .i64 (0 : Int)), (.int .i64 (0 : Int)), (.int .i64 (0 : Int)), (.int .i64 (0 : Int)), (.int .i64 (0 : Int)), (.int .i64 (0 : Int)), (.int .i64 (0 : Int)), (.int .i64 (0 : Int)), (.int .i64 (0 : Int)), (.int .i64 (0 : Int)), (.int .i64 (0 : Int)), (.int .i64 (0 : Int)), (.int .i64 (0 : Int)), (.int .i64 (0 : Int)), (.int .i64 (0 : Int)), (.int .i64 (0 : Int)), (.int .i64 (0 : Int)), (.int .i64 (0 : Int)), (.int .i64 (0 : Int)), (.int .i64 (0 : Int)), (.int .i64 (0 : Int)), (.int .i64 (0 : Int)), (.int .i64 (0 : Int)), (.int .i64 (0 : Int)), (.int .i64 (0 : Int)), (.int .i64 (0 : Int)), (.int .i64 (0 : Int)), (.int .i64 (0 : Int)), (.int .i64 (0 : Int)), (.int .i64 (0 : Int)), (.int .i64 (0 : Int)), (.int .i64 (0 : Int)), (.int .i64 (0 : Int)), (.int .i64 (0 : Int)), (.int .i64 (0 : Int)), (.int .i64 (0 : Int)), (.int .i64 (0 : Int)), (.int .i64 (0 : Int)), (.int .i64 (0 : Int)), (.int .i64 (0 : Int)), (.int .i64 (0 : Int)), (.int .i64 (0 : Int)), (.int .i64 (0 : Int)), (.int .i64 (0 : Int)), (.int .i64 (0 : Int)), (.int .i64 (0 : Int)), (.int .i64 (0 : Int)), (.int .i64 (0 : Int)), (.int .i64 (0 : Int)), (.int .i64 (0 : Int)), (.int .i64 (0 : Int)), (.int .i64 (0 : Int)), (.int .i64 (0 : Int)), (.int .i64 (0 : Int)), (.int .i64 (0 : Int)), (.int .i64 (0 : Int)), (.int .i64 (0 : Int)), (.int .i64 (0 : Int)), (.int .i64 (0 : Int)), (.int .i64 (0 : Int)), (.int .i64 (0 : Int)), (.int .i64 (0 : Int)), (.int .i64 (0 : Int)), (.int .i64 (0 : Int)), (.int .i64 (0 : Int)), (.int .i64 (0 : Int)), (.int .i64 (0 : Int)), (.int .i64 (0 : Int)), (.int .i64 (0 : Int)), (.int .i64 (0 : Int)), (.int .i64 (0 : Int)), (.int .i64 (0 : Int)), (.int .i64 (0 : Int)), (.int .i64 (0 : Int)), (.int .i64 (0 : Int)), (.int .i64 (0 : Int)), (.int .i64 (0 : Int)), (.int .i64 (0 : Int)), (.int .i64 (0 : Int)), (.int .i64 (0 : Int)), (.int .i64 (0 : Int)), (.int .i64 (0 : Int)), (.int .i64 (0 : Int)), (.int .i64 (0 : Int)), (.int .i64 (0 : Int)), (.int .i64 (0 : Int)), (.int .i64 (0 : Int)), (.int .i64 (0 : Int)), (.int .i64 (0 : Int)), (.int .i64 (0 : Int)), (.int .i64 (0 : Int)), (.int .i64 (0 : Int)), (.int .i64 (0 : Int)), (.int .i64 (0 : Int)), (.int .i64 (0 : Int)), (.int .i64 (0 : Int)), (.int .i64 (0 : Int)), (.int .i64 (0 : Int)), (.int .i64 (0 : Int)), (.int .i64 (0 : Int)), (.int .i64 (0 : Int)), (.int .i64 (0 : Int)), (.int .i64 (0 : Int)), (.int .i64 (0 : Int)), (.int .i64 (0 : Int)), (.int .i64 (0 : Int)), (.int .i64 (0 : Int)), (.int .i64 (0 : Int)), (.int .i64 (0 : Int)), (.int .i64 (0 : Int)), (.int .i64 (0 : Int)), (.int .i64 (0 : Int)), (.int .i64 (0 : Int)), (.int .i64 (0 : Int)), (.int .i64 (0 : Int)), (.int .i64 (0 : Int)), (.int .i64 (0 : Int)), (.int .i64 (0 : Int)), (.int .i64 (0 : Int)), (.int .i64 (0 : Int)), (.int .i64 (0 : Int)), (.int .i64 (0 : Int)), (.int .i64 (0 : Int)), (.int .i64 (0 : Int)), (.int .i64 (0 : Int)), (.int .i64 (0 : Int)), (.int .i64 (0 : Int)), (.int .i64 (0 : Int)), (.int .i64 (0 : Int)), (.int .i64 (0 : Int)), (.int .i64 (0 : Int)), (.int .i64 (0 : Int)), (.int .i64 (0 : Int)), (.int .i64 (0 : Int)), (.int .i64 (0 : Int)), (.int .i64 (0 : Int)), (.int .i64 (0 : Int)), (.int .i64 (0 : Int)), (.int .i64 (0 : Int)), (.int .i64 (0 : Int)), (.int .i64 (0 : Int)), (.int .i64 (0 : Int)), (.int .i64 (0 : Int)), (.int .i64 (0 : Int)), (.int .i64 (0 : Int)), (.int .i64 (0 : Int)), (.int .i64 (0 : Int)), (.int .i64 (0 : Int)), (.int .i64 (0 : Int)), (.int .i64 (0 : Int)), (.int .i64 (0 : Int)), (.int .i64 (0 : Int)), (.int .i64 (0 : Int)), (.int .i64 (0 : Int)), (.int .i64 (0 : Int)), (.int .i64 (0 : Int)), (.int .i64 (0 : Int)), (.int .i64 (0 : Int)), (.int .i64 (0 : Int)), (.int .i64 (0 : Int)), (.int .i64 (0 : Int)), (.int .i64 (0 : Int)), (.int .i64 (0 : Int)), (.int .i64 (0 : Int)), (.int .i64 (0 : Int)), (.int .i64 (0 : Int)), (.int .i64 (0 : Int)), (.int .i64 (0 : Int)), (.int .i64 (0 : Int)), (.int .i64 (0 : Int)), (.int .i64 (0 : Int)), (.int .i64 (0 : Int)), (.int .i64 (0 : Int)), (.int .i64 (0 : Int)), (.int .i64 (0 : Int)), (.int .i64 (0 : Int)), (.int .i64 (0 : Int)), (.int .i64 (0 : Int)), (.int .i64 (0 : Int)), (.int .i64 (0 : Int)), (.int .i64 (0 : Int)), (.int .i64 (0 : Int)), (.int .i64 (0 : Int)), (.int .i64 (0 : Int)), (.int .i64 (0 : Int)), (.int .i64 (0 : Int)), (.int .i64 (0 : Int)), (.int .i64 (0 : Int)), (.int .i64 (0 : Int)), (.int .i64 (0 : Int)), (.int .i64 (0 : Int)), (.int .i64 (0 : Int)), (.int .i64 (0 : Int)), (.int .i64 (0 : Int)), (.int .i64 (0 : Int)), (.int .i64 (0 : Int)), (.int .i64 (0 : Int)), (.int .i64 (0 : Int)), (.int .i64 (0 : Int)), (.int .i64 (0 : Int)), (.int .i64 (0 : Int)), (.int .i64 (0 : Int)), (.int .i64 (0 : Int)), (.int .i64 (0 : Int)), (.int .i64 (0 : Int)), (.int .i64 (0 : Int)), (.int .i64 (0 : Int)), (.int .i64 (0 : Int)), (.int .i64 (0 : Int)), (.int .i64 (0 : Int)), (.int .i64 (0 : Int)), (.int .i64 (0 : Int)), (.int .i64 (0 : Int)), (.int .i64 (0 : Int)), (.int .i64 (0 : Int)), (.int .i64 (0 : Int)), (.int .i64 (0 : Int)), (.int .i64 (0 : Int)), (.int .i64 (0 : Int)), (.int .i64 (0 : Int)), (.int .i64 (0 : Int)), (.int .i64 (0 : Int)), (.int .i64 (0 : Int)), (.int .i64 (0 : Int)), (.int .i64 (0 : Int)), (.int .i64 (0 : Int)), (.int .i64 (0 : Int)), (.int .i64 (0 : Int)), (.int .i64 (0 : Int)), (.int .i64 (0 : Int)), (.int .i64 (0 : Int)), (.int .i64 (0 : Int)), (.int .i64 (0 : Int)), (.int .i64 (0 : Int)), (.int .i64 (0 : Int)), (.int .i64 (0 : Int)), (.int .i64 (0 : Int)), (.int .i64 (0 : Int)), (.int .i64 (0 : Int)), (.int .i64 (0 : Int)), (.int .i64 (0 : Int)), (.int .i64 (0 : Int)), (.int .i64 (0 : Int)), (.int .i64 (0 : Int)), (.int .i64 (0 : Int)), (.int .i64 (0 : Int)), (.int .i64 (0 : Int)), (.int .i64 (0 : Int)), (.int .i64 (0 : Int)), (.int .i64 (0 : Int)), (.int .i64 (0 : Int)), (.int .i64 (0 : Int)), (.int .i64 (0 : Int)), (.int .i64 (0 : Int)), (.int .i64 (0 : Int)), (.int .i64 (0 : Int)), (.int .i64 (0 : Int)), (.int .i64 (0 : Int)), (.int .i64 (0 : Int)), (.int .i64 (0 : Int)), (.int .i64 (0 : Int)), (.int .i64 (0 : Int)), (.int .i64 (0 : Int)), (.int .i64 (0 : Int)), (.int .i64 (0 : Int)), (.int .i64 (0 : Int)), (.int .i64 (0 : Int)), (.int .i64 (0 : Int)), (.int .i64 (0 : Int)), (.int .i64 (0 : Int)), (.int .i64 (0 : Int)), (.int .i64 (0 : Int)), (.int .i64 (0 : Int)), (.int .i64 (0 : Int)), (.int .i64 (0 : Int)), (.int .i64 (0 : Int)), (.int .i64 (0 : Int)), (.int .i64 (0 : Int)), (.int .i64 (0 : Int)), (.int .i64 (0 : Int)), (.int .i64 (0 : Int)), (.int .i64 (0 : Int)), (.int .i64 (0 : Int)), (.int .i64 (0 : Int)), (.int .i64 (0 : Int)), (.int .i64 (0 : Int)), (.int .i64 (0 : Int)), (.int .i64 (0 : Int)), (.int .i64 (0 : Int)), (.int .i64 (0 : Int)), (.int .i64 (0 : Int)), (.int .i64 (0 : Int)), (.int .i64 (0 : Int)), (.int .i64 (0 : Int)), (.int .i64 (0 : Int)), (.int .i64 (0 : Int)), (.int .i64 (0 : Int)), (.int .i64 (0 : Int)), (.int .i64 (0 : Int)), (.int .i64 (0 : Int)), (.int .i64 (0 : Int)), (.int .i64 (0 : Int)), (.int .i64 (0 : Int)), (.int .i64 (0 : Int)), (.int .i64 (0 : Int)), (.int .i64 (0 : Int)), (.int .i64 (0 : Int)), (.int .i64 (0 : Int)), (.int .i64 (0 : Int)), (.int .i64 (0 : Int)), (.int .i64 (0 : Int)), (.int .i64 (0 : Int)), (.int .i64 (0 : Int)), (.int .i64 (0 : Int)), (.int .i64 (0 : Int)), (.int .i64 (0 : Int)), (.int .i64 (0 : Int)), (.int .i64 (0 : Int)), (.int .i64 (0 : Int)), (.int .i64 (0 : Int)), (.int .i64 (0 : Int)), (.int .i64 (0 : Int)), (.int .i64 (0 : Int)), (.int .i64 (0 : Int))] 62) fun r4 w5 => 
(lv (0 : Int) fun i_6 => 
(lp [(.int .i64 i_6)] w5 fun J9 s7 w8 => asI .i64 (s7.getD 0 undef) fun x10 => (jn (fun s11 w12 => asB (s11.getD 0 undef) fun b14 => (cond b14 
(jn (fun s15 w16 => (lv (IntKind.wrap .i64 (x10 + (1 : Int))) fun i_81 => (J9 [(.int .i64 i_81)] w16)))
 (fun J17 => (dr l fun a18 => (bnd x10 l_n (ld w12 (Addr.add a18 (Int.toNat x10 * 8)) fun v19 => asI .i64 v19 fun x20 => (ld w12 (Addr.add (Addr.add a18 (Int.toNat x10 * 8)) 1) fun v21 => asI .i64 v21 fun x22 => (ld w12 (Addr.add (Addr.add a18 (Int.toNat x10 * 8)) 2) fun v23 => asI .i64 v23 fun x24 => (ld w12 (Addr.add (Addr.add a18 (Int.toNat x10 * 8)) 3) fun v25 => asI .i64 v25 fun x26 => (ld w12 (Addr.add (Addr.add a18 (Int.toNat x10 * 8)) 4) fun v27 => asI .i64 v27 fun x28 => (ld w12 (Addr.add (Addr.add a18 (Int.toNat x10 * 8)) 5) fun v29 => asI .i64 v29 fun x30 => (ld w12 (Addr.add (Addr.add a18 (Int.toNat x10 * 8)) 6) fun v31 => asI .i64 v31 fun x32 => (ld w12 (Addr.add (Addr.add a18 (Int.toNat x10 * 8)) 7) fun v33 => asI .i64 v33 fun x34 => (cl Tryd.prog 22 #[(.pointer p3), (.agg #[(.int .i64 x20), (.int .i64 x22), (.int .i64 x24), (.int .i64 x26), (.int .i64 x28), (.int .i64 x30), (.int .i64 x32), (.int .i64 x34)])] w12 fun v35 w36 => asT 2 v35 fun t37 => asI .i64 (t37 0) fun x38 => asI .i64 (t37 1) fun x39 => 
(dr l fun a40 => (bnd x10 l_n (ld w36 (Addr.add a40 (Int.toNat x10 * 8)) fun v41 => asI .i64 v41 fun x42 => (ld w36 (Addr.add (Addr.add a40 (Int.toNat x10 * 8)) 1) fun v43 => asI .i64 v43 fun x44 => (ld w36 (Addr.add (Addr.add a40 (Int.toNat x10 * 8)) 2) fun v45 => asI .i64 v45 fun x46 => (ld w36 (Addr.add (Addr.add a40 (Int.toNat x10 * 8)) 3) fun v47 => asI .i64 v47 fun x48 => (ld w36 (Addr.add (Addr.add a40 (Int.toNat x10 * 8)) 4) fun v49 => asI .i64 v49 fun x50 => (ld w36 (Addr.add (Addr.add a40 (Int.toNat x10 * 8)) 5) fun v51 => asI .i64 v51 fun x52 => (ld w36 (Addr.add (Addr.add a40 (Int.toNat x10 * 8)) 6) fun v53 => asI .i64 v53 fun x54 => (ld w36 (Addr.add (Addr.add a40 (Int.toNat x10 * 8)) 7) fun v55 => asI .i64 v55 fun x56 => (cl Tryd.prog 23 #[(.pointer (some (⟨r4, 0, none⟩ : Addr))), (.agg #[(.int .i64 x42), (.int .i64 x44), (.int .i64 x46), (.int .i64 x48), (.int .i64 x50), (.int .i64 x52), (.int .i64 x54), (.int .i64 x56)])] w36 fun v57 w58 => asT 2 v57 fun t59 => asI .i64 (t59 0) fun x60 => asI .i64 (t59 1) fun x61 => 
(jn (fun s62 w63 => asB (s62.getD 0 undef) fun b68 => (cond b68 (dr killed fun a69 => (bnd x10 killed_n (ld w63 (Addr.add a69 (Int.toNat x10 * 1)) fun v70 => asI .i64 v70 fun x71 => (cl Tryd.prog 24 #[(.pointer p3), (.int .i64 (IntKind.wrap .i64 ((64 : Int) + (Go.bits .and .i64 (Int.fdiv x71 (2 ^ (min (Int.toNat (3 : Int)) 64))) (15 : Int)))))] w63 fun v72 w73 => asI .i64 v72 fun x74 => 
(dr killed fun a75 => (bnd x10 killed_n (ld w73 (Addr.add a75 (Int.toNat x10 * 1)) fun v76 => asI .i64 v76 fun x77 => (cl Tryd.prog 25 #[(.pointer (some (⟨r4, 0, none⟩ : Addr))), (.int .i64 (IntKind.wrap .i64 ((64 : Int) + (Go.bits .and .i64 (Int.fdiv x77 (2 ^ (min (Int.toNat (3 : Int)) 64))) (15 : Int)))))] w73 fun v78 w79 => asI .i64 v78 fun x80 => (J17 [] w79))))))))) (J17 [] w63)))
 (fun J64 => (cond (decide (x10 < (killed_n : Int))) (dr killed fun a65 => (bnd x10 killed_n (ld w58 (Addr.add a65 (Int.toNat x10 * 1)) fun v66 => asI .i64 v66 fun x67 => (J64 [(.bool ((Go.bits .and .i64 x67 (7 : Int)) == (0 : Int)))] w58)))) (J64 [(.bool false)] w58)))))))))))))))))))))))))))) 

(Q (.tuple #[(.pointer p3), (.pointer (some (⟨r4, 0, none⟩ : Addr)))]) w12)))
 (fun J13 => (cond (decide (x10 < (l_n : Int))) (cond (decide (x10 < (40 : Int))) (J13 [(.bool (!(Option.isNone p3)))] w8) (J13 [(.bool false)] w8)) (J13 [(.bool false)] w8))))))))
theorem F9_link (l : Option Addr) (l_n l_c : Nat) (killed : Option Addr) (killed_n killed_c : Nat) (w : World) (Q : Value → World → Prop) : fnEv Tryd.prog Tryd.f9 h9 [(.slice l l_n l_c), (.slice killed killed_n killed_c)] w Q = F9 l l_n l_c killed killed_n killed_c w Q := by kernel_rfl
theorem F9_calls {l : Option Addr} {l_n l_c : Nat} {killed : Option Addr} {killed_n killed_c : Nat} {w : World} {Q : Value → World → Prop} (hF_ : F9 l l_n l_c killed killed_n killed_c w Q) : cl Tryd.prog 9 #[(.slice l l_n l_c), (.slice killed killed_n killed_c)] w Q :=
  calls_of_ev (fn := Tryd.f9) Tryd.func9 h9 (args := [(.slice l l_n l_c), (.slice killed killed_n killed_c)]) (by rw [F9_link]; exact hF_)

/-! (*tiltyard/world.World).List -/
def h10 : Hint := (.s .d (.s .d (.s (.s .d (.l [(3, 22), (10, 3)] (.s .d (.s .d (.j [(3, 22)] .d .d))))) .d)))
set_option linter.unusedVariables false in
def F10 (w' : Option Addr) (w : World) (Q : Value → World → Prop) : Prop :=
 

(dr w' fun a1 => (ldG Tryd.prog w (Addr.add a1 1) 640 fun l2 => 
(lp [(.slice none 0 0), (.int .i64 (0 : Int))] w fun J5 s3 w4 => asS (s3.getD 0 undef) fun p6 n7 c8 => asI .i64 (s3.getD 1 undef) fun x9 => 
(cond (decide (x9 < (64 : Int))) 
(jn (fun s10 w11 => asS (s10.getD 0 undef) fun p61 n62 c63 => (J5 [(.slice p61 n62 c63), (.int .i64 (IntKind.wrap .i64 (x9 + (1 : Int))))] w11))
 (fun J12 => (bnd x9 64 (asA 10 (.agg (Array.extract ((List.toArray l2) : Array Value) (Int.toNat x9 * 10) (Int.toNat x9 * 10 + 10))) fun a13 => asI .i64 (a13 0) fun x14 => asB (a13 1) fun b15 => asI .i64 (a13 2) fun x16 => asI .i64 (a13 3) fun x17 => asI .i64 (a13 4) fun x18 => asI .i64 (a13 5) fun x19 => asI .i64 (a13 6) fun x20 => asI .i64 (a13 7) fun x21 => asI .i64 (a13 8) fun x22 => asI .i64 (a13 9) fun x23 => (nw w4 (.cells #[(.int .i64 (0 : Int)), (.bool false), (.int .i64 (0 : Int)), (.int .i64 (0 : Int)), (.int .i64 (0 : Int)), (.int .i64 (0 : Int)), (.int .i64 (0 : Int)), (.int .i64 (0 : Int)), (.int .i64 (0 : Int)), (.int .i64 (0 : Int))] 67) fun r24 w25 => (st w25 (⟨r24, 0, none⟩ : Addr) (.int .i64 x14) fun w26 => (st w26 (Addr.add (⟨r24, 0, none⟩ : Addr) 1) (.bool b15) fun w27 => (st w27 (Addr.add (⟨r24, 0, none⟩ : Addr) 2) (.int .i64 x16) fun w28 => (st w28 (Addr.add (⟨r24, 0, none⟩ : Addr) 3) (.int .i64 x17) fun w29 => (st w29 (Addr.add (⟨r24, 0, none⟩ : Addr) 4) (.int .i64 x18) fun w30 => (st w30 (Addr.add (⟨r24, 0, none⟩ : Addr) 5) (.int .i64 x19) fun w31 => (st w31 (Addr.add (⟨r24, 0, none⟩ : Addr) 6) (.int .i64 x20) fun w32 => (st w32 (Addr.add (⟨r24, 0, none⟩ : Addr) 7) (.int .i64 x21) fun w33 => (st w33 (Addr.add (⟨r24, 0, none⟩ : Addr) 8) (.int .i64 x22) fun w34 => (st w34 (Addr.add (⟨r24, 0, none⟩ : Addr) 9) (.int .i64 x23) fun w35 => 
(ld w35 (Addr.add (⟨r24, 0, none⟩ : Addr) 1) fun v36 => asB v36 fun b37 => 
(cond b37 (ld w35 (Addr.add (⟨r24, 0, none⟩ : Addr) 2) fun v38 => asI .i64 v38 fun x39 => (ld w35 (Addr.add (Addr.add (⟨r24, 0, none⟩ : Addr) 2) 1) fun v40 => asI .i64 v40 fun x41 => (ld w35 (Addr.add (Addr.add (⟨r24, 0, none⟩ : Addr) 2) 2) fun v42 => asI .i64 v42 fun x43 => (ld w35 (Addr.add (Addr.add (⟨r24, 0, none⟩ : Addr) 2) 3) fun v44 => asI .i64 v44 fun x45 => (ld w35 (Addr.add (Addr.add (⟨r24, 0, none⟩ : Addr) 2) 4) fun v46 => asI .i64 v46 fun x47 => (ld w35 (Addr.add (Addr.add (⟨r24, 0, none⟩ : Addr) 2) 5) fun v48 => asI .i64 v48 fun x49 => (ld w35 (Addr.add (Addr.add (⟨r24, 0, none⟩ : Addr) 2) 6) fun v50 => asI .i64 v50 fun x51 => (ld w35 (Addr.add (Addr.add (⟨r24, 0, none⟩ : Addr) 2) 7) fun v52 => asI .i64 v52 fun x53 => (nw w35 (.cells #[(.int .i64 x39), (.int .i64 x41), (.int .i64 x43), (.int .i64 x45), (.int .i64 x47), (.int .i64 x49), (.int .i64 x51), (.int .i64 x53)] 40) fun r54 w55 => (rn Tryd.prog (Builtin.append_ #[22, 22] 22 #[(.slice p6 n7 c8), (.slice (some (⟨r54, 0, none⟩ : Addr)) 1 1)]) w55 fun v56 w57 => asS v56 fun p58 n59 c60 => (J12 [(.slice p58 n59 c60)] w57))))))))))) (J12 [(.slice p6 n7 c8)] w35)))))))))))))))))) 

(Q (.slice p6 n7 c8) w4)))))
theorem F10_link (w' : Option Addr) (w : World) (Q : Value → World → Prop) : fnEv Tryd.prog Tryd.f10 h10 [(.pointer w')] w Q = F10 w' w Q := by kernel_rfl
theorem F10_calls {w' : Option Addr} {w : World} {Q : Value → World → Prop} (hF_ : F10 w' w Q) : cl Tryd.prog 10 #[(.pointer w')] w Q :=
  calls_of_ev (fn := Tryd.f10) Tryd.func10 h10 (args := [(.pointer w')]) (by rw [F10_link]; exact hF_)

/-! tiltyard/physics.Step -/
def h11 : Hint := (.s .d (.s .d (.s .d (.s (.s .d (.l [(3, 30), (14, 3)] (.s .d (.s .d (.s (.s .d (.s .d (.s .d (.s .d (.l [(3, 30), (8, 23), (26, 3)] (.s .d (.s .d (.j [(3, 30), (8, 23)] (.s .d (.s .d (.s .d (.j [(45, 4)] .d .d)))) .d)))))))) .d))))) .d))))
set_option linter.unusedVariables false in
def F11 (w' : Option Addr) (w : World) (Q : Value → World → Prop) : Prop :=
 


(cl Tryd.prog 10 #[(.pointer w')] w fun v1 w2 => asS v1 fun p3 n4 c5 => 
(lp [(.slice none 0 0), (.int .i64 (0 : Int))] w2 fun J8 s6 w7 => asS (s6.getD 0 undef) fun p9 n10 c11 => asI .i64 (s6.getD 1 undef) fun x12 => 
(cond (decide (x12 < (n4 : Int))) 
(dr p3 fun a13 => (bnd x12 n4 (ld w7 (Addr.add a13 (Int.toNat x12 * 8)) fun v14 => asI .i64 v14 fun x15 => (ld w7 (Addr.add (Addr.add a13 (Int.toNat x12 * 8)) 1) fun v16 => asI .i64 v16 fun x17 => (ld w7 (Addr.add (Addr.add a13 (Int.toNat x12 * 8)) 2) fun v18 => asI .i64 v18 fun x19 => (ld w7 (Addr.add (Addr.add a13 (Int.toNat x12 * 8)) 3) fun v20 => asI .i64 v20 fun x21 => (ld w7 (Addr.add (Addr.add a13 (Int.toNat x12 * 8)) 4) fun v22 => asI .i64 v22 fun x23 => (ld w7 (Addr.add (Addr.add a13 (Int.toNat x12 * 8)) 5) fun v24 => asI .i64 v24 fun x25 => (ld w7 (Addr.add (Addr.add a13 (Int.toNat x12 * 8)) 6) fun v26 => asI .i64 v26 fun x27 => (ld w7 (Addr.add (Addr.add a13 (Int.toNat x12 * 8)) 7) fun v28 => asI .i64 v28 fun x29 => (nw w7 (.cells #[(.int .i64 (0 : Int)), (.int .i64 (0 : Int)), (.int .i64 (0 : Int)), (.int .i64 (0 : Int)), (.int .i64 (0 : Int)), (.int .i64 (0 : Int)), (.int .i64 (0 : Int)), (.int .i64 (0 : Int))] 40) fun r30 w31 => (st w31 (⟨r30, 0, none⟩ : Addr) (.int .i64 x15) fun w32 => (st w32 (Addr.add (⟨r30, 0, none⟩ : Addr) 1) (.int .i64 x17) fun w33 => (st w33 (Addr.add (⟨r30, 0, none⟩ : Addr) 2) (.int .i64 x19) fun w34 => (st w34 (Addr.add (⟨r30, 0, none⟩ : Addr) 3) (.int .i64 x21) fun w35 => (st w35 (Addr.add (⟨r30, 0, none⟩ : Addr) 4) (.int .i64 x23) fun w36 => (st w36 (Addr.add (⟨r30, 0, none⟩ : Addr) 5) (.int .i64 x25) fun w37 => (st w37 (Addr.add (⟨r30, 0, none⟩ : Addr) 6) (.int .i64 x27) fun w38 => (st w38 (Addr.add (⟨r30, 0, none⟩ : Addr) 7) (.int .i64 x29) fun w39 => 
(ld w39 (⟨r30, 0, none⟩ : Addr) fun v40 => asI .i64 v40 fun x41 => (cl Tryd.prog 15 #[(.pointer w'), (.int .i64 x41)] w39 fun v42 w43 => asT 2 v42 fun t44 => asA 8 (t44 0) fun a45 => asI .i64 (a45 0) fun x46 => asI .i64 (a45 1) fun x47 => asI .i64 (a45 2) fun x48 => asI .i64 (a45 3) fun x49 => asI .i64 (a45 4) fun x50 => asI .i64 (a45 5) fun x51 => asI .i64 (a45 6) fun x52 => asI .i64 (a45 7) fun x53 => asI .i64 (t44 1) fun x54 => (st w43 (⟨r30, 0, none⟩ : Addr) (.int .i64 x46) fun w55 => (st w55 (Addr.add (⟨r30, 0, none⟩ : Addr) 1) (.int .i64 x47) fun w56 => (st w56 (Addr.add (⟨r30, 0, none⟩ : Addr) 2) (.int .i64 x48) fun w57 => (st w57 (Addr.add (⟨r30, 0, none⟩ : Addr) 3) (.int .i64 x49) fun w58 => (st w58 (Addr.add (⟨r30, 0, none⟩ : Addr) 4) (.int .i64 x50) fun w59 => (st w59 (Addr.add (⟨r30, 0, none⟩ : Addr) 5) (.int .i64 x51) fun w60 => (st w60 (Addr.add (⟨r30, 0, none⟩ : Addr) 6) (.int .i64 x52) fun w61 => (st w61 (Addr.add (⟨r30, 0, none⟩ : Addr) 7) (.int .i64 x53) fun w62 => 


(lp [(.slice p9 n10 c11), (.slice none 0 0), (.int .i64 (0 : Int))] w62 fun J65 s63 w64 => asS (s63.getD 0 undef) fun p66 n67 c68 => asS (s63.getD 1 undef) fun p69 n70 c71 => asI .i64 (s63.getD 2 undef) fun x72 => 
(cond (decide (x72 < (2 : Int))) 
(jn (fun s73 w74 => asS (s73.getD 0 undef) fun p125 n126 c127 => asS (s73.getD 1 undef) fun p128 n129 c130 => (J65 [(.slice p125 n126 c127), (.slice p128 n129 c130), (.int .i64 (IntKind.wrap .i64 (x72 + (1 : Int))))] w74))
 (fun J75 => (lv x72 fun k_76 => 
(cl Tryd.prog 27 #[(.pointer w'), (.pointer (some (⟨r30, 0, none⟩ : Addr))), (.int .i64 k_76)] w64 fun v77 w78 => asI .i64 v77 fun x79 => (lv x79 fun n_80 => 
(ld w78 (⟨r30, 0, none⟩ : Addr) fun v81 => asI .i64 v81 fun x82 => (ld w78 (⟨r30, 0, none⟩ : Addr) fun v83 => asI .i64 v83 fun x84 => (ld w78 (Addr.add (⟨r30, 0, none⟩ : Addr) 1) fun v85 => asI .i64 v85 fun x86 => (ld w78 (Addr.add (⟨r30, 0, none⟩ : Addr) 2) fun v87 => asI .i64 v87 fun x88 => (ld w78 (Addr.add (⟨r30, 0, none⟩ : Addr) 3) fun v89 => asI .i64 v89 fun x90 => (ld w78 (Addr.add (⟨r30, 0, none⟩ : Addr) 4) fun v91 => asI .i64 v91 fun x92 => (ld w78 (Addr.add (⟨r30, 0, none⟩ : Addr) 5) fun v93 => asI .i64 v93 fun x94 => (ld w78 (Addr.add (⟨r30, 0, none⟩ : Addr) 6) fun v95 => asI .i64 v95 fun x96 => (ld w78 (Addr.add (⟨r30, 0, none⟩ : Addr) 7) fun v97 => asI .i64 v97 fun x98 => (cl Tryd.prog 26 #[(.pointer w'), (.int .i64 x82), (.agg #[(.int .i64 x84), (.int .i64 x86), (.int .i64 x88), (.int .i64 x90), (.int .i64 x92), (.int .i64 x94), (.int .i64 x96), (.int .i64 x98)])] w78 fun v99 w100 => asI .i64 v99 fun x101 => 
(jn (fun s102 w103 => asB (s102.getD 0 undef) fun b108 => (cond b108 (nw w103 (.cells #[(.int .i64 n_80)] 3) fun r109 w110 => (rn Tryd.prog (Builtin.append_ #[23, 23] 23 #[(.slice p69 n70 c71), (.slice (some (⟨r109, 0, none⟩ : Addr)) 1 1)]) w110 fun v111 w112 => asS v111 fun p113 n114 c115 => 
(ld w112 (⟨r30, 0, none⟩ : Addr) fun v116 => asI .i64 v116 fun x117 => (nw w112 (.cells #[(.int .i64 x117), (.int .i64 n_80)] 47) fun r118 w119 => (rn Tryd.prog (Builtin.append_ #[30, 30] 30 #[(.slice p66 n67 c68), (.slice (some (⟨r118, 0, none⟩ : Addr)) 1 1)]) w119 fun v120 w121 => asS v120 fun p122 n123 c124 => (J75 [(.slice p122 n123 c124), (.slice p113 n114 c115)] w121)))))) (J75 [(.slice p66 n67 c68), (.slice p69 n70 c71)] w103)))
 (fun J104 => (cond (n_80 != (0 : Int)) (cl Tryd.prog 28 #[(.slice p69 n70 c71), (.int .i64 n_80)] w100 fun v105 w106 => asB v105 fun b107 => (J104 [(.bool (!b107))] w106)) (J104 [(.bool false)] w100))))))))))))))))))) 
(J8 [(.slice p66 n67 c68), (.int .i64 (IntKind.wrap .i64 (x12 + (1 : Int))))] w64)))))))))))))))))))))))))))))))) 

(Q (.slice p9 n10 c11) w7))))
theorem F11_link (w' : Option Addr) (w : World) (Q : Value → World → Prop) : fnEv Tryd.prog Tryd.f11 h11 [(.pointer w')] w Q = F11 w' w Q := by kernel_rfl
theorem F11_calls {w' : Option Addr} {w : World} {Q : Value → World → Prop} (hF_ : F11 w' w Q) : cl Tryd.prog 11 #[(.pointer w')] w Q :=
  calls_of_ev (fn := Tryd.f11) Tryd.func11 h11 (args := [(.pointer w')]) (by rw [F11_link]; exact hF_)

/-! tiltyard/box.Meet -/
def h12 : Hint := (.s .d (.s .d (.j [(4, 4), (5, 32)] .d .d)))
set_option linter.unusedVariables false in
def F12 (a_0 : Int) (a_1 : Int) (a_2 : Int) (b_0 : Int) (b_1 : Int) (b_2 : Int) (w : World) (Q : Value → World → Prop) : Prop :=
 (nw w (.cells #[(.int .i64 a_0), (.int .i64 a_1), (.int .i64 a_2)] 38) fun r1 w2 => (nw w2 (.cells #[(.int .i64 b_0), (.int .i64 b_1), (.int .i64 b_2)] 38) fun r3 w4 => (lv (0 : Int) fun y5 => 
(ld w4 (⟨r1, 0, none⟩ : Addr) fun v6 => asI .i64 v6 fun x7 => (ld w4 (Addr.add (⟨r1, 0, none⟩ : Addr) 1) fun v8 => asI .i64 v8 fun x9 => (ld w4 (Addr.add (⟨r1, 0, none⟩ : Addr) 2) fun v10 => asI .i64 v10 fun x11 => (ld w4 (⟨r3, 0, none⟩ : Addr) fun v12 => asI .i64 v12 fun x13 => (ld w4 (Addr.add (⟨r3, 0, none⟩ : Addr) 1) fun v14 => asI .i64 v14 fun x15 => (ld w4 (Addr.add (⟨r3, 0, none⟩ : Addr) 2) fun v16 => asI .i64 v16 fun x17 => (cl Tryd.prog 29 #[(.agg #[(.int .i64 x7), (.int .i64 x9), (.int .i64 x11)]), (.agg #[(.int .i64 x13), (.int .i64 x15), (.int .i64 x17)])] w4 fun v18 w19 => asT 3 v18 fun t20 => asI .i64 (t20 0) fun x21 => asI .i64 (t20 1) fun x22 => asI .i64 (t20 2) fun x23 => (lv x21 fun x_24 => (lv x22 fun y_25 => (lv x23 fun e_26 => 
(jn (fun s27 w28 => asB (s27.getD 0 undef) fun b32 => asI .i64 (s27.getD 1 undef) fun x33 => (Q (.tuple #[(.bool b32), (.int .i64 x33)]) w28))
 (fun J29 => (cond (decide (x_24 < (0 : Int))) (lv e_26 fun y30 => (J29 [(.bool (decide (y_25 < (0 : Int)))), (.int .i64 y30)] w19)) (lv e_26 fun y31 => (J29 [(.bool false), (.int .i64 y31)] w19))))))))))))))))))
theorem F12_link (a_0 : Int) (a_1 : Int) (a_2 : Int) (b_0 : Int) (b_1 : Int) (b_2 : Int) (w : World) (Q : Value → World → Prop) : fnEv Tryd.prog Tryd.f12 h12 [(.agg #[(.int .i64 a_0), (.int .i64 a_1), (.int .i64 a_2)]), (.agg #[(.int .i64 b_0), (.int .i64 b_1), (.int .i64 b_2)])] w Q = F12 a_0 a_1 a_2 b_0 b_1 b_2 w Q := by kernel_rfl
theorem F12_calls {a_0 : Int} {a_1 : Int} {a_2 : Int} {b_0 : Int} {b_1 : Int} {b_2 : Int} {w : World} {Q : Value → World → Prop} (hF_ : F12 a_0 a_1 a_2 b_0 b_1 b_2 w Q) : cl Tryd.prog 12 #[(.agg #[(.int .i64 a_0), (.int .i64 a_1), (.int .i64 a_2)]), (.agg #[(.int .i64 b_0), (.int .i64 b_1), (.int .i64 b_2)])] w Q :=
  calls_of_ev (fn := Tryd.f12) Tryd.func12 h12 (args := [(.agg #[(.int .i64 a_0), (.int .i64 a_1), (.int .i64 a_2)]), (.agg #[(.int .i64 b_0), (.int .i64 b_1), (.int .i64 b_2)])]) (by rw [F12_link]; exact hF_)

/-! tiltyard/tiltyardlaw20.way -/
def h13 : Hint := (.s .d (.s (.s .d (.s (.j [(6, 4)] .d .d) .d)) (.j [(6, 4)] .d .d)))
set_option linter.unusedVariables false in
def F13 (from' : Int) (to : Int) (v : Int) (w : World) (Q : Value → World → Prop) : Prop :=
 

(cond (decide (v ≥ (0 : Int))) (jn (fun s1 w2 => asB (s1.getD 0 undef) fun b4 => (Q (.bool b4) w2))
 (fun J3 => (cond (decide (to ≥ from')) (J3 [(.bool (decide (to ≤ (IntKind.wrap .i64 (from' + v)))))] w) (J3 [(.bool false)] w)))) 
(jn (fun s5 w6 => asB (s5.getD 0 undef) fun b8 => (Q (.bool b8) w6))
 (fun J7 => (cond (decide (to ≤ from')) (J7 [(.bool (decide (to ≥ (IntKind.wrap .i64 (from' + v)))))] w) (J7 [(.bool false)] w)))))
theorem F13_link (from' : Int) (to : Int) (v : Int) (w : World) (Q : Value → World → Prop) : fnEv Tryd.prog Tryd.f13 h13 [(.int .i64 from'), (.int .i64 to), (.int .i64 v)] w Q = F13 from' to v w Q := by kernel_rfl
theorem F13_calls {from' : Int} {to : Int} {v : Int} {w : World} {Q : Value → World → Prop} (hF_ : F13 from' to v w Q) : cl Tryd.prog 13 #[(.int .i64 from'), (.int .i64 to), (.int .i64 v)] w Q :=
  calls_of_ev (fn := Tryd.f13) Tryd.func13 h13 (args := [(.int .i64 from'), (.int .i64 to), (.int .i64 v)]) (by rw [F13_link]; exact hF_)

/-! tiltyard/tiltyardlaw20.slower -/
def h14 : Hint := (.s .d (.j [(4, 4)] .d .d))
set_option linter.unusedVariables false in
def F14 (v : Int) (now : Int) (w : World) (Q : Value → World → Prop) : Prop :=
 
(jn (fun s1 w2 => asB (s1.getD 0 undef) fun b4 => (Q (.bool b4) w2))
 (fun J3 => (cond (now == v) (J3 [(.bool true)] w) (J3 [(.bool (now == (0 : Int)))] w))))
theorem F14_link (v : Int) (now : Int) (w : World) (Q : Value → World → Prop) : fnEv Tryd.prog Tryd.f14 h14 [(.int .i64 v), (.int .i64 now)] w Q = F14 v now w Q := by kernel_rfl
theorem F14_calls {v : Int} {now : Int} {w : World} {Q : Value → World → Prop} (hF_ : F14 v now w Q) : cl Tryd.prog 14 #[(.int .i64 v), (.int .i64 now)] w Q :=
  calls_of_ev (fn := Tryd.f14) Tryd.func14 h14 (args := [(.int .i64 v), (.int .i64 now)]) (by rw [F14_link]; exact hF_)

/-! (*tiltyard/world.World).Get -/
def h15 : Hint := .d
set_option linter.unusedVariables false in
def F15 (w' : Option Addr) (h : Int) (w : World) (Q : Value → World → Prop) : Prop :=
 (nw w (.cells #[(.int .i64 (0 : Int)), (.int .i64 (0 : Int)), (.int .i64 (0 : Int)), (.int .i64 (0 : Int)), (.int .i64 (0 : Int)), (.int .i64 (0 : Int)), (.int .i64 (0 : Int)), (.int .i64 (0 : Int))] 40) fun r1 w2 => (lv (0 : Int) fun y3 => 
(cl Tryd.prog 30 #[(.pointer w'), (.int .i64 h)] w2 fun v4 w5 => asP v4 fun p6 => 

(cond (Option.isNone p6) (st w5 (⟨r1, 0, none⟩ : Addr) (.int .i64 (0 : Int)) fun w7 => (st w7 (Addr.add (⟨r1, 0, none⟩ : Addr) 1) (.int .i64 (0 : Int)) fun w8 => (st w8 (Addr.add (⟨r1, 0, none⟩ : Addr) 2) (.int .i64 (0 : Int)) fun w9 => (st w9 (Addr.add (⟨r1, 0, none⟩ : Addr) 3) (.int .i64 (0 : Int)) fun w10 => (st w10 (Addr.add (⟨r1, 0, none⟩ : Addr) 4) (.int .i64 (0 : Int)) fun w11 => (st w11 (Addr.add (⟨r1, 0, none⟩ : Addr) 5) (.int .i64 (0 : Int)) fun w12 => (st w12 (Addr.add (⟨r1, 0, none⟩ : Addr) 6) (.int .i64 (0 : Int)) fun w13 => (st w13 (Addr.add (⟨r1, 0, none⟩ : Addr) 7) (.int .i64 (0 : Int)) fun w14 => (lv (190 : Int) fun y15 => 
(ld w14 (⟨r1, 0, none⟩ : Addr) fun v16 => asI .i64 v16 fun x17 => (ld w14 (Addr.add (⟨r1, 0, none⟩ : Addr) 1) fun v18 => asI .i64 v18 fun x19 => (ld w14 (Addr.add (⟨r1, 0, none⟩ : Addr) 2) fun v20 => asI .i64 v20 fun x21 => (ld w14 (Addr.add (⟨r1, 0, none⟩ : Addr) 3) fun v22 => asI .i64 v22 fun x23 => (ld w14 (Addr.add (⟨r1, 0, none⟩ : Addr) 4) fun v24 => asI .i64 v24 fun x25 => (ld w14 (Addr.add (⟨r1, 0, none⟩ : Addr) 5) fun v26 => asI .i64 v26 fun x27 => (ld w14 (Addr.add (⟨r1, 0, none⟩ : Addr) 6) fun v28 => asI .i64 v28 fun x29 => (ld w14 (Addr.add (⟨r1, 0, none⟩ : Addr) 7) fun v30 => asI .i64 v30 fun x31 => (Q (.tuple #[(.agg #[(.int .i64 x17), (.int .i64 x19), (.int .i64 x21), (.int .i64 x23), (.int .i64 x25), (.int .i64 x27), (.int .i64 x29), (.int .i64 x31)]), (.int .i64 y15)]) w14)))))))))))))))))) 
(dr p6 fun a32 => (ld w5 (Addr.add a32 2) fun v33 => asI .i64 v33 fun x34 => (ld w5 (Addr.add (Addr.add a32 2) 1) fun v35 => asI .i64 v35 fun x36 => (ld w5 (Addr.add (Addr.add a32 2) 2) fun v37 => asI .i64 v37 fun x38 => (ld w5 (Addr.add (Addr.add a32 2) 3) fun v39 => asI .i64 v39 fun x40 => (ld w5 (Addr.add (Addr.add a32 2) 4) fun v41 => asI .i64 v41 fun x42 => (ld w5 (Addr.add (Addr.add a32 2) 5) fun v43 => asI .i64 v43 fun x44 => (ld w5 (Addr.add (Addr.add a32 2) 6) fun v45 => asI .i64 v45 fun x46 => (ld w5 (Addr.add (Addr.add a32 2) 7) fun v47 => asI .i64 v47 fun x48 => (st w5 (⟨r1, 0, none⟩ : Addr) (.int .i64 x34) fun w49 => (st w49 (Addr.add (⟨r1, 0, none⟩ : Addr) 1) (.int .i64 x36) fun w50 => (st w50 (Addr.add (⟨r1, 0, none⟩ : Addr) 2) (.int .i64 x38) fun w51 => (st w51 (Addr.add (⟨r1, 0, none⟩ : Addr) 3) (.int .i64 x40) fun w52 => (st w52 (Addr.add (⟨r1, 0, none⟩ : Addr) 4) (.int .i64 x42) fun w53 => (st w53 (Addr.add (⟨r1, 0, none⟩ : Addr) 5) (.int .i64 x44) fun w54 => (st w54 (Addr.add (⟨r1, 0, none⟩ : Addr) 6) (.int .i64 x46) fun w55 => (st w55 (Addr.add (⟨r1, 0, none⟩ : Addr) 7) (.int .i64 x48) fun w56 => (lv (0 : Int) fun y57 => 
(ld w56 (⟨r1, 0, none⟩ : Addr) fun v58 => asI .i64 v58 fun x59 => (ld w56 (Addr.add (⟨r1, 0, none⟩ : Addr) 1) fun v60 => asI .i64 v60 fun x61 => (ld w56 (Addr.add (⟨r1, 0, none⟩ : Addr) 2) fun v62 => asI .i64 v62 fun x63 => (ld w56 (Addr.add (⟨r1, 0, none⟩ : Addr) 3) fun v64 => asI .i64 v64 fun x65 => (ld w56 (Addr.add (⟨r1, 0, none⟩ : Addr) 4) fun v66 => asI .i64 v66 fun x67 => (ld w56 (Addr.add (⟨r1, 0, none⟩ : Addr) 5) fun v68 => asI .i64 v68 fun x69 => (ld w56 (Addr.add (⟨r1, 0, none⟩ : Addr) 6) fun v70 => asI .i64 v70 fun x71 => (ld w56 (Addr.add (⟨r1, 0, none⟩ : Addr) 7) fun v72 => asI .i64 v72 fun x73 => (Q (.tuple #[(.agg #[(.int .i64 x59), (.int .i64 x61), (.int .i64 x63), (.int .i64 x65), (.int .i64 x67), (.int .i64 x69), (.int .i64 x71), (.int .i64 x73)]), (.int .i64 y57)]) w56)))))))))))))))))))))))))))))))
theorem F15_link (w' : Option Addr) (h : Int) (w : World) (Q : Value → World → Prop) : fnEv Tryd.prog Tryd.f15 h15 [(.pointer w'), (.int .i64 h)] w Q = F15 w' h w Q := by kernel_rfl
theorem F15_calls {w' : Option Addr} {h : Int} {w : World} {Q : Value → World → Prop} (hF_ : F15 w' h w Q) : cl Tryd.prog 15 #[(.pointer w'), (.int .i64 h)] w Q :=
  calls_of_ev (fn := Tryd.f15) Tryd.func15 h15 (args := [(.pointer w'), (.int .i64 h)]) (by rw [F15_link]; exact hF_)

/-! (*tiltyard/world.World).Near -/
def h16 : Hint := (.s .d (.s .d (.s .d (.s (.o (ofL [0, 1, 2, 3, 4, 5, 6, 7, 8, 9, 10] .nil)) (.j [(8, 23)] (.s .d (.s (.s .d (.l [(8, 23), (32, 3)] .d)) .d)) (.s (.s .d (.l [(7, 23), (42, 3)] (.s .d (.s .d (.j [(7, 23)] (.s .d (.s .d (.s .d (.j [(64, 4)] .d .d)))) .d))))) .d))))))
set_option linter.unusedVariables false in
def F16 (w' : Option Addr) (b_0 : Int) (b_1 : Int) (b_2 : Int) (w : World) (Q : Value → World → Prop) : Prop :=
 (nw w (.cells #[(.int .i64 b_0), (.int .i64 b_1), (.int .i64 b_2)] 38) fun r1 w2 => (lv (0 : Int) fun y3 => 
(ld w2 (⟨r1, 0, none⟩ : Addr) fun v4 => asI .i64 v4 fun x5 => (ld w2 (Addr.add (⟨r1, 0, none⟩ : Addr) 1) fun v6 => asI .i64 v6 fun x7 => (ld w2 (Addr.add (⟨r1, 0, none⟩ : Addr) 2) fun v8 => asI .i64 v8 fun x9 => (cl Tryd.prog 31 #[(.agg #[(.int .i64 x5), (.int .i64 x7), (.int .i64 x9)])] w2 fun v10 w11 => asI .i64 v10 fun x12 => (lv x12 fun e_13 => 

(cond (e_13 != (0 : Int)) (lv e_13 fun y14 => 
(Q (.tuple #[(.slice none 0 0), (.int .i64 y14)]) w11)) 

(dw w11 fun w15 => (dr w' fun a16 => (ld w15 a16 fun v17 => asP v17 fun p18 => (ld w15 (⟨r1, 0, none⟩ : Addr) fun v19 => asI .i64 v19 fun x20 => (ld w15 (Addr.add (⟨r1, 0, none⟩ : Addr) 1) fun v21 => asI .i64 v21 fun x22 => (ld w15 (Addr.add (⟨r1, 0, none⟩ : Addr) 2) fun v23 => asI .i64 v23 fun x24 => (cl Tryd.prog 32 #[(.pointer p18), (.agg #[(.int .i64 x20), (.int .i64 x22), (.int .i64 x24)])] w15 fun v25 w26 => asT 2 v25 fun t27 => asS (t27 0) fun p28 n29 c30 => asI .i64 (t27 1) fun x31 => (lv x31 fun e_32 => 
(jn (fun s33 w34 => asS (s33.getD 0 undef) fun p51 n52 c53 => 
(lp [(.slice none 0 0), (.int .i64 (0 : Int))] w34 fun J56 s54 w55 => asS (s54.getD 0 undef) fun p57 n58 c59 => asI .i64 (s54.getD 1 undef) fun x60 => 
(cond (decide (x60 < (n52 : Int))) 
(jn (fun s61 w62 => asS (s61.getD 0 undef) fun p134 n135 c136 => (J56 [(.slice p134 n135 c136), (.int .i64 (IntKind.wrap .i64 (x60 + (1 : Int))))] w62))
 (fun J63 => (dr p51 fun a64 => (bnd x60 n52 (ld w55 (Addr.add a64 (Int.toNat x60 * 1)) fun v65 => asI .i64 v65 fun x66 => (lv x66 fun i_67 => 
(dr w' fun a68 => (bnd i_67 64 (ld w55 (Addr.add (Addr.add a68 1) (Int.toNat i_67 * 10)) fun v69 => asI .i64 v69 fun x70 => (ld w55 (Addr.add (Addr.add (Addr.add a68 1) (Int.toNat i_67 * 10)) 1) fun v71 => asB v71 fun b72 => (ld w55 (Addr.add (Addr.add (Addr.add a68 1) (Int.toNat i_67 * 10)) 2) fun v73 => asI .i64 v73 fun x74 => (ld w55 (Addr.add (Addr.add (Addr.add a68 1) (Int.toNat i_67 * 10)) 3) fun v75 => asI .i64 v75 fun x76 => (ld w55 (Addr.add (Addr.add (Addr.add a68 1) (Int.toNat i_67 * 10)) 4) fun v77 => asI .i64 v77 fun x78 => (ld w55 (Addr.add (Addr.add (Addr.add a68 1) (Int.toNat i_67 * 10)) 5) fun v79 => asI .i64 v79 fun x80 => (ld w55 (Addr.add (Addr.add (Addr.add a68 1) (Int.toNat i_67 * 10)) 6) fun v81 => asI .i64 v81 fun x82 => (ld w55 (Addr.add (Addr.add (Addr.add a68 1) (Int.toNat i_67 * 10)) 7) fun v83 => asI .i64 v83 fun x84 => (ld w55 (Addr.add (Addr.add (Addr.add a68 1) (Int.toNat i_67 * 10)) 8) fun v85 => asI .i64 v85 fun x86 => (ld w55 (Addr.add (Addr.add (Addr.add a68 1) (Int.toNat i_67 * 10)) 9) fun v87 => asI .i64 v87 fun x88 => (nw w55 (.cells #[(.int .i64 (0 : Int)), (.bool false), (.int .i64 (0 : Int)), (.int .i64 (0 : Int)), (.int .i64 (0 : Int)), (.int .i64 (0 : Int)), (.int .i64 (0 : Int)), (.int .i64 (0 : Int)), (.int .i64 (0 : Int)), (.int .i64 (0 : Int))] 67) fun r89 w90 => (st w90 (⟨r89, 0, none⟩ : Addr) (.int .i64 x70) fun w91 => (st w91 (Addr.add (⟨r89, 0, none⟩ : Addr) 1) (.bool b72) fun w92 => (st w92 (Addr.add (⟨r89, 0, none⟩ : Addr) 2) (.int .i64 x74) fun w93 => (st w93 (Addr.add (⟨r89, 0, none⟩ : Addr) 3) (.int .i64 x76) fun w94 => (st w94 (Addr.add (⟨r89, 0, none⟩ : Addr) 4) (.int .i64 x78) fun w95 => (st w95 (Addr.add (⟨r89, 0, none⟩ : Addr) 5) (.int .i64 x80) fun w96 => (st w96 (Addr.add (⟨r89, 0, none⟩ : Addr) 6) (.int .i64 x82) fun w97 => (st w97 (Addr.add (⟨r89, 0, none⟩ : Addr) 7) (.int .i64 x84) fun w98 => (st w98 (Addr.add (⟨r89, 0, none⟩ : Addr) 8) (.int .i64 x86) fun w99 => (st w99 (Addr.add (⟨r89, 0, none⟩ : Addr) 9) (.int .i64 x88) fun w100 => 
(ld w100 (Addr.add (Addr.add (⟨r89, 0, none⟩ : Addr) 2) 1) fun v101 => asI .i64 v101 fun x102 => (ld w100 (Addr.add (Addr.add (Addr.add (⟨r89, 0, none⟩ : Addr) 2) 1) 1) fun v103 => asI .i64 v103 fun x104 => (ld w100 (Addr.add (Addr.add (Addr.add (⟨r89, 0, none⟩ : Addr) 2) 1) 2) fun v105 => asI .i64 v105 fun x106 => (ld w100 (⟨r1, 0, none⟩ : Addr) fun v107 => asI .i64 v107 fun x108 => (ld w100 (Addr.add (⟨r1, 0, none⟩ : Addr) 1) fun v109 => asI .i64 v109 fun x110 => (ld w100 (Addr.add (⟨r1, 0, none⟩ : Addr) 2) fun v111 => asI .i64 v111 fun x112 => (cl Tryd.prog 12 #[(.agg #[(.int .i64 x102), (.int .i64 x104), (.int .i64 x106)]), (.agg #[(.int .i64 x108), (.int .i64 x110), (.int .i64 x112)])] w100 fun v113 w114 => asT 2 v113 fun t115 => asB (t115 0) fun b116 => asI .i64 (t115 1) fun x117 => (lv x117 fun __118 => 
(jn (fun s119 w120 => asB (s119.getD 0 undef) fun b124 => (cond b124 (ld w120 (Addr.add (⟨r89, 0, none⟩ : Addr) 2) fun v125 => asI .i64 v125 fun x126 => (nw w120 (.cells #[(.int .i64 x126)] 3) fun r127 w128 => (rn Tryd.prog (Builtin.append_ #[23, 23] 23 #[(.slice p57 n58 c59), (.slice (some (⟨r127, 0, none⟩ : Addr)) 1 1)]) w128 fun v129 w130 => asS v129 fun p131 n132 c133 => (J63 [(.slice p131 n132 c133)] w130)))) (J63 [(.slice p57 n58 c59)] w120)))
 (fun J121 => (cond b116 (ld w114 (Addr.add (⟨r89, 0, none⟩ : Addr) 1) fun v122 => asB v122 fun b123 => (J121 [(.bool b123)] w114)) (J121 [(.bool false)] w114))))))))))))))))))))))))))))))))))))))))) 
(lv (0 : Int) fun y137 => 
(Q (.tuple #[(.slice p57 n58 c59), (.int .i64 y137)]) w55)))))
 (fun J35 => 
(cond (e_32 != (0 : Int)) 
(lp [(.slice p28 n29 c30), (.int .i64 (0 : Int))] w26 fun J38 s36 w37 => asS (s36.getD 0 undef) fun p39 n40 c41 => asI .i64 (s36.getD 1 undef) fun x42 => 
(cond (decide (x42 < (64 : Int))) 
(lv x42 fun i_43 => 
(nw w37 (.cells #[(.int .i64 i_43)] 3) fun r44 w45 => (rn Tryd.prog (Builtin.append_ #[23, 23] 23 #[(.slice p39 n40 c41), (.slice (some (⟨r44, 0, none⟩ : Addr)) 1 1)]) w45 fun v46 w47 => asS v46 fun p48 n49 c50 => 
(J38 [(.slice p48 n49 c50), (.int .i64 (IntKind.wrap .i64 (x42 + (1 : Int))))] w47)))) (J35 [(.slice p39 n40 c41)] w37))) (J35 [(.slice p28 n29 c30)] w26))))))))))))))))))))
theorem F16_link (w' : Option Addr) (b_0 : Int) (b_1 : Int) (b_2 : Int) (w : World) (Q : Value → World → Prop) : fnEv Tryd.prog Tryd.f16 h16 [(.pointer w'), (.agg #[(.int .i64 b_0), (.int .i64 b_1), (.int .i64 b_2)])] w Q = F16 w' b_0 b_1 b_2 w Q := by kernel_rfl
theorem F16_calls {w' : Option Addr} {b_0 : Int} {b_1 : Int} {b_2 : Int} {w : World} {Q : Value → World → Prop} (hF_ : F16 w' b_0 b_1 b_2 w Q) : cl Tryd.prog 16 #[(.pointer w'), (.agg #[(.int .i64 b_0), (.int .i64 b_1), (.int .i64 b_2)])] w Q :=
  calls_of_ev (fn := Tryd.f16) Tryd.func16 h16 (args := [(.pointer w'), (.agg #[(.int .i64 b_0), (.int .i64 b_1), (.int .i64 b_2)])]) (by rw [F16_link]; exact hF_)

/-! tiltyard/physics.Free -/
def h17 : Hint := (.s .d (.s .d (.j [(6, 4), (7, 32)] .d .d)))
set_option linter.unusedVariables false in
def F17 (w' : Option Addr) (b_0 : Int) (b_1 : Int) (b_2 : Int) (but : Int) (w : World) (Q : Value → World → Prop) : Prop :=
 (nw w (.cells #[(.int .i64 b_0), (.int .i64 b_1), (.int .i64 b_2)] 38) fun r1 w2 => (nw w2 (.cells #[(.int .i64 but)] 3) fun r3 w4 => (lv (0 : Int) fun y5 => 
(ld w4 (⟨r1, 0, none⟩ : Addr) fun v6 => asI .i64 v6 fun x7 => (ld w4 (Addr.add (⟨r1, 0, none⟩ : Addr) 1) fun v8 => asI .i64 v8 fun x9 => (ld w4 (Addr.add (⟨r1, 0, none⟩ : Addr) 2) fun v10 => asI .i64 v10 fun x11 => (cl Tryd.prog 16 #[(.pointer w'), (.agg #[(.int .i64 x7), (.int .i64 x9), (.int .i64 x11)])] w4 fun v12 w13 => asT 2 v12 fun t14 => asS (t14 0) fun p15 n16 c17 => asI .i64 (t14 1) fun x18 => (lv x18 fun e_19 => 
(jn (fun s20 w21 => asB (s20.getD 0 undef) fun b28 => asI .i64 (s20.getD 1 undef) fun x29 => (Q (.tuple #[(.bool b28), (.int .i64 x29)]) w21))
 (fun J22 => (cond (e_19 == (0 : Int)) (cl Tryd.prog 33 #[(.slice p15 n16 c17), (.func (.func 34) #[] #[(.pointer (some (⟨r3, 0, none⟩ : Addr)))])] w13 fun v23 w24 => asB v23 fun b25 => (lv e_19 fun y26 => (J22 [(.bool (!b25)), (.int .i64 y26)] w24))) (lv e_19 fun y27 => (J22 [(.bool false), (.int .i64 y27)] w13)))))))))))))
theorem F17_link (w' : Option Addr) (b_0 : Int) (b_1 : Int) (b_2 : Int) (but : Int) (w : World) (Q : Value → World → Prop) : fnEv Tryd.prog Tryd.f17 h17 [(.pointer w'), (.agg #[(.int .i64 b_0), (.int .i64 b_1), (.int .i64 b_2)]), (.int .i64 but)] w Q = F17 w' b_0 b_1 b_2 but w Q := by kernel_rfl
theorem F17_calls {w' : Option Addr} {b_0 : Int} {b_1 : Int} {b_2 : Int} {but : Int} {w : World} {Q : Value → World → Prop} (hF_ : F17 w' b_0 b_1 b_2 but w Q) : cl Tryd.prog 17 #[(.pointer w'), (.agg #[(.int .i64 b_0), (.int .i64 b_1), (.int .i64 b_2)]), (.int .i64 but)] w Q :=
  calls_of_ev (fn := Tryd.f17) Tryd.func17 h17 (args := [(.pointer w'), (.agg #[(.int .i64 b_0), (.int .i64 b_1), (.int .i64 b_2)]), (.int .i64 but)]) (by rw [F17_link]; exact hF_)

/-! tiltyard/tiltyardref19.Same -/
def h18 : Hint := (.s .d (.s .d (.s (.s .d (.l [(5, 3)] (.s .d (.s (.s (.o (ofL [0, 1, 2, 3, 4, 5, 6, 7, 8] .nil)) .d) .d)))) .d)))
set_option linter.unusedVariables false in
def F18 (a : Option Addr) (a_n a_c : Nat) (b : Option Addr) (b_n b_c : Nat) (w : World) (Q : Value → World → Prop) : Prop :=
 

(cond ((a_n : Int) != (b_n : Int)) 
(Q (.bool false) w) 
(lv (0 : Int) fun i_1 => 
(lp [(.int .i64 i_1)] w fun J4 s2 w3 => asI .i64 (s2.getD 0 undef) fun x5 => 
(cond (decide (x5 < (a_n : Int))) 
(dw w3 fun w6 => (dr a fun a7 => (bnd x5 a_n (ld w6 (Addr.add a7 (Int.toNat x5 * 8)) fun v8 => asI .i64 v8 fun x9 => (ld w6 (Addr.add (Addr.add a7 (Int.toNat x5 * 8)) 1) fun v10 => asI .i64 v10 fun x11 => (ld w6 (Addr.add (Addr.add a7 (Int.toNat x5 * 8)) 2) fun v12 => asI .i64 v12 fun x13 => (ld w6 (Addr.add (Addr.add a7 (Int.toNat x5 * 8)) 3) fun v14 => asI .i64 v14 fun x15 => (ld w6 (Addr.add (Addr.add a7 (Int.toNat x5 * 8)) 4) fun v16 => asI .i64 v16 fun x17 => (ld w6 (Addr.add (Addr.add a7 (Int.toNat x5 * 8)) 5) fun v18 => asI .i64 v18 fun x19 => (ld w6 (Addr.add (Addr.add a7 (Int.toNat x5 * 8)) 6) fun v20 => asI .i64 v20 fun x21 => (ld w6 (Addr.add (Addr.add a7 (Int.toNat x5 * 8)) 7) fun v22 => asI .i64 v22 fun x23 => (dr b fun a24 => (bnd x5 b_n (ld w6 (Addr.add a24 (Int.toNat x5 * 8)) fun v25 => asI .i64 v25 fun x26 => (ld w6 (Addr.add (Addr.add a24 (Int.toNat x5 * 8)) 1) fun v27 => asI .i64 v27 fun x28 => (ld w6 (Addr.add (Addr.add a24 (Int.toNat x5 * 8)) 2) fun v29 => asI .i64 v29 fun x30 => (ld w6 (Addr.add (Addr.add a24 (Int.toNat x5 * 8)) 3) fun v31 => asI .i64 v31 fun x32 => (ld w6 (Addr.add (Addr.add a24 (Int.toNat x5 * 8)) 4) fun v33 => asI .i64 v33 fun x34 => (ld w6 (Addr.add (Addr.add a24 (Int.toNat x5 * 8)) 5) fun v35 => asI .i64 v35 fun x36 => (ld w6 (Addr.add (Addr.add a24 (Int.toNat x5 * 8)) 6) fun v37 => asI .i64 v37 fun x38 => (ld w6 (Addr.add (Addr.add a24 (Int.toNat x5 * 8)) 7) fun v39 => asI .i64 v39 fun x40 => (eqW Tryd.prog 40 (.agg #[(.int .i64 x9), (.int .i64 x11), (.int .i64 x13), (.int .i64 x15), (.int .i64 x17), (.int .i64 x19), (.int .i64 x21), (.int .i64 x23)]) (.agg #[(.int .i64 x26), (.int .i64 x28), (.int .i64 x30), (.int .i64 x32), (.int .i64 x34), (.int .i64 x36), (.int .i64 x38), (.int .i64 x40)]) fun b41 => 
(cond (!b41) 
(Q (.bool false) w6) 
(lv (IntKind.wrap .i64 (x5 + (1 : Int))) fun i_42 => (J4 [(.int .i64 i_42)] w6))))))))))))))))))))))))) 

(Q (.bool true) w3)))))
theorem F18_link (a : Option Addr) (a_n a_c : Nat) (b : Option Addr) (b_n b_c : Nat) (w : World) (Q : Value → World → Prop) : fnEv Tryd.prog Tryd.f18 h18 [(.slice a a_n a_c), (.slice b b_n b_c)] w Q = F18 a a_n a_c b b_n b_c w Q := by kernel_rfl
theorem F18_calls {a : Option Addr} {a_n a_c : Nat} {b : Option Addr} {b_n b_c : Nat} {w : World} {Q : Value → World → Prop} (hF_ : F18 a a_n a_c b b_n b_c w Q) : cl Tryd.prog 18 #[(.slice a a_n a_c), (.slice b b_n b_c)] w Q :=
  calls_of_ev (fn := Tryd.f18) Tryd.func18 h18 (args := [(.slice a a_n a_c), (.slice b b_n b_c)]) (by rw [F18_link]; exact hF_)

/-! (*tiltyard/world.World).Clone -/
def h19 : Hint := (.s .d (.s .d (.s .d (.s (.s .d (.l [(18, 3)] (.s .d (.s .d (.j [] (.s .d (.s .d (.s (.o (ofL [0, 1, 2, 3, 4, 5, 6, 7, 8] .nil)) .d))) .d))))) .d))))
set_option linter.unusedVariables false in
def F19 (w' : Option Addr) (w : World) (Q : Value → World → Prop) : Prop :=
 
(cl Tryd.prog 21 #[] w fun v1 w2 => asP v1 fun p3 => 
(dr w' fun a4 => (ldG Tryd.prog w2 (Addr.add a4 1) 640 fun l5 => (dr p3 fun a6 => (cond (Nat.beq (List.length l5) 640) (stCells (Addr.add a6 1) l5 0 w2 fun w7 => 
(dr p3 fun a8 => (ldG Tryd.prog w7 (Addr.add a8 1) 640 fun l9 => 
(lp [(.int .i64 (0 : Int))] w7 fun J12 s10 w11 => asI .i64 (s10.getD 0 undef) fun x13 => 
(cond (decide (x13 < (64 : Int))) 
(jn (fun s14 w15 => (J12 [(.int .i64 (IntKind.wrap .i64 (x13 + (1 : Int))))] w15))
 (fun J16 => (bnd x13 64 (asA 10 (.agg (Array.extract ((List.toArray l9) : Array Value) (Int.toNat x13 * 10) (Int.toNat x13 * 10 + 10))) fun a17 => asI .i64 (a17 0) fun x18 => asB (a17 1) fun b19 => asI .i64 (a17 2) fun x20 => asI .i64 (a17 3) fun x21 => asI .i64 (a17 4) fun x22 => asI .i64 (a17 5) fun x23 => asI .i64 (a17 6) fun x24 => asI .i64 (a17 7) fun x25 => asI .i64 (a17 8) fun x26 => asI .i64 (a17 9) fun x27 => (nw w11 (.cells #[(.int .i64 (0 : Int)), (.bool false), (.int .i64 (0 : Int)), (.int .i64 (0 : Int)), (.int .i64 (0 : Int)), (.int .i64 (0 : Int)), (.int .i64 (0 : Int)), (.int .i64 (0 : Int)), (.int .i64 (0 : Int)), (.int .i64 (0 : Int))] 67) fun r28 w29 => (lv x13 fun i_30 => (st w29 (⟨r28, 0, none⟩ : Addr) (.int .i64 x18) fun w31 => (st w31 (Addr.add (⟨r28, 0, none⟩ : Addr) 1) (.bool b19) fun w32 => (st w32 (Addr.add (⟨r28, 0, none⟩ : Addr) 2) (.int .i64 x20) fun w33 => (st w33 (Addr.add (⟨r28, 0, none⟩ : Addr) 3) (.int .i64 x21) fun w34 => (st w34 (Addr.add (⟨r28, 0, none⟩ : Addr) 4) (.int .i64 x22) fun w35 => (st w35 (Addr.add (⟨r28, 0, none⟩ : Addr) 5) (.int .i64 x23) fun w36 => (st w36 (Addr.add (⟨r28, 0, none⟩ : Addr) 6) (.int .i64 x24) fun w37 => (st w37 (Addr.add (⟨r28, 0, none⟩ : Addr) 7) (.int .i64 x25) fun w38 => (st w38 (Addr.add (⟨r28, 0, none⟩ : Addr) 8) (.int .i64 x26) fun w39 => (st w39 (Addr.add (⟨r28, 0, none⟩ : Addr) 9) (.int .i64 x27) fun w40 => 
(ld w40 (Addr.add (⟨r28, 0, none⟩ : Addr) 1) fun v41 => asB v41 fun b42 => 
(cond b42 (dw w40 fun w43 => (dr p3 fun a44 => (ld w43 a44 fun v45 => asP v45 fun p46 => (ld w43 (Addr.add (Addr.add (⟨r28, 0, none⟩ : Addr) 2) 1) fun v47 => asI .i64 v47 fun x48 => (ld w43 (Addr.add (Addr.add (Addr.add (⟨r28, 0, none⟩ : Addr) 2) 1) 1) fun v49 => asI .i64 v49 fun x50 => (ld w43 (Addr.add (Addr.add (Addr.add (⟨r28, 0, none⟩ : Addr) 2) 1) 2) fun v51 => asI .i64 v51 fun x52 => (cl Tryd.prog 35 #[(.pointer p46), (.int .i64 i_30), (.agg #[(.int .i64 x48), (.int .i64 x50), (.int .i64 x52)])] w43 fun v53 w54 => asI .i64 v53 fun x55 => (J16 [] w54)))))))) (J16 [] w40))))))))))))))))))) 

(Q (.pointer p3) w11)))))) False)))))
theorem F19_link (w' : Option Addr) (w : World) (Q : Value → World → Prop) : fnEv Tryd.prog Tryd.f19 h19 [(.pointer w')] w Q = F19 w' w Q := by kernel_rfl
theorem F19_calls {w' : Option Addr} {w : World} {Q : Value → World → Prop} (hF_ : F19 w' w Q) : cl Tryd.prog 19 #[(.pointer w')] w Q :=
  calls_of_ev (fn := Tryd.f19) Tryd.func19 h19 (args := [(.pointer w')]) (by rw [F19_link]; exact hF_)

/-! tiltyard/tiltyardlaw20.sameTouches -/
def h20 : Hint := (.s .d (.s .d (.s (.s .d (.l [(5, 3)] (.s .d (.s (.s (.o (ofL [0, 1, 2, 3, 4, 5, 6, 7, 8] .nil)) .d) .d)))) .d)))
set_option linter.unusedVariables false in
def F20 (a : Option Addr) (a_n a_c : Nat) (b : Option Addr) (b_n b_c : Nat) (w : World) (Q : Value → World → Prop) : Prop :=
 

(cond ((a_n : Int) != (b_n : Int)) 
(Q (.bool false) w) 
(lv (0 : Int) fun i_1 => 
(lp [(.int .i64 i_1)] w fun J4 s2 w3 => asI .i64 (s2.getD 0 undef) fun x5 => 
(cond (decide (x5 < (a_n : Int))) 
(dw w3 fun w6 => (dr a fun a7 => (bnd x5 a_n (ld w6 (Addr.add a7 (Int.toNat x5 * 2)) fun v8 => asI .i64 v8 fun x9 => (ld w6 (Addr.add (Addr.add a7 (Int.toNat x5 * 2)) 1) fun v10 => asI .i64 v10 fun x11 => (dr b fun a12 => (bnd x5 b_n (ld w6 (Addr.add a12 (Int.toNat x5 * 2)) fun v13 => asI .i64 v13 fun x14 => (ld w6 (Addr.add (Addr.add a12 (Int.toNat x5 * 2)) 1) fun v15 => asI .i64 v15 fun x16 => (eqW Tryd.prog 47 (.agg #[(.int .i64 x9), (.int .i64 x11)]) (.agg #[(.int .i64 x14), (.int .i64 x16)]) fun b17 => 
(cond (!b17) 
(Q (.bool false) w6) 
(lv (IntKind.wrap .i64 (x5 + (1 : Int))) fun i_18 => (J4 [(.int .i64 i_18)] w6))))))))))))) 

(Q (.bool true) w3)))))
theorem F20_link (a : Option Addr) (a_n a_c : Nat) (b : Option Addr) (b_n b_c : Nat) (w : World) (Q : Value → World → Prop) : fnEv Tryd.prog Tryd.f20 h20 [(.slice a a_n a_c), (.slice b b_n b_c)] w Q = F20 a a_n a_c b b_n b_c w Q := by kernel_rfl
theorem F20_calls {a : Option Addr} {a_n a_c : Nat} {b : Option Addr} {b_n b_c : Nat} {w : World} {Q : Value → World → Prop} (hF_ : F20 a a_n a_c b b_n b_c w Q) : cl Tryd.prog 20 #[(.slice a a_n a_c), (.slice b b_n b_c)] w Q :=
  calls_of_ev (fn := Tryd.f20) Tryd.func20 h20 (args := [(.slice a a_n a_c), (.slice b b_n b_c)]) (by rw [F20_link]; exact hF_)

/-! tiltyard/world.New -/
def h21 : Hint := .d
set_option linter.unusedVariables false in
def F21  (w : World) (Q : Value → World → Prop) : Prop :=
 
(cl Tryd.prog 36 #[(.int .i64 (34359738368 : Int))] w fun v1 w2 => asT 2 v1 fun t3 => asP (t3 0) fun p4 => asI .i64 (t3 1) fun x5 => (lv x5 fun __6 => 
(nw w2 (.cells #[(.pointer p4), (.int .i64 (0 : Int)), (.bool false), (.int .i64 (0 : Int)), (.int .i64 (0 : Int)), (.int .i64 (0 : Int)), (.int .i64 (0 : Int)), (.int .i64 (0 : Int)), (.int .i64 (0 : Int)), (.int .i64 (0 : Int)), (.int .i64 (0 : Int)), (.int .i64 (0 : Int)), (.bool false), (.int .i64 (0 : Int)), (.int .i64 (0 : Int)), (.int .i64 (0 : Int)), (.int .i64 (0 : Int)), (.int .i64 (0 : Int)), (.int .i64 (0 : Int)), (.int .i64 (0 : Int)), (.int .i64 (0 : Int)), (.int .i64 (0 : Int)), (.bool false), (.int .i64 (0 : Int)), (.int .i64 (0 : Int)), (.int .i64 (0 : Int)), (.int .i64 (0 : Int)), (.int .i64 (0 : Int)), (.int .i64 (0 : Int)), (.int .i64 (0 : Int)), (.int .i64 (0 : Int)), (.int .i64 (0 : Int)), (.bool false), (.int .i64 (0 : Int)), (.int .i64 (0 : Int)), (.int .i64 (0 : Int)), (.int .i64 (0 : Int)), (.int .i64 (0 : Int)), (.int .i64 (0 : Int)), (.int .i64 (0 : Int)), (.int .i64 (0 : Int)), (.int .i64 (0 : Int)), (.bool false), (.int .i64 (0 : Int)), (.int .i64 (0 : Int)), (.int .i64 (0 : Int)), (.int .i64 (0 : Int)), (.int .i64 (0 : Int)), (.int .i64 (0 : Int)), (.int .i64 (0 : Int)), (.int .i64 (0 : Int)), (.int .i64 (0 : Int)), (.bool false), (.int .i64 (0 : Int)), (.int .i64 (0 : Int)), (.int .i64 (0 : Int)), (.int .i64 (0 : Int)), (.int .i64 (0 : Int)), (.int .i64 (0 : Int)), (.int .i64 (0 : Int)), (.int .i64 (0 : Int)), (.int .i64 (0 : Int)), (.bool false), (.int .i64 (0 : Int)), (.int .i64 (0 : Int)), (.int .i64 (0 : Int)), (.int .i64 (0 : Int)), (.int .i64 (0 : Int)), (.int .i64 (0 : Int)), (.int .i64 (0 : Int)), (.int .i64 (0 : Int)), (.int .i64 (0 : Int)), (.bool false), (.int .i64 (0 : Int)), (.int .i64 (0 : Int)), (.int .i64 (0 : Int)), (.int .i64 (0 : Int)), (.int .i64 (0 : Int)), (.int .i64 (0 : Int)), (.int .i64 (0 : Int)), (.int .i64 (0 : Int)), (.int .i64 (0 : Int)), (.bool false), (.int .i64 (0 : Int)), (.int .i64 (0 : Int)), (.int .i64 (0 : Int)), (.int .i64 (0 : Int)), (.int .i64 (0 : Int)), (.int .i64 (0 : Int)), (.int .i64 (0 : Int)), (.int .i64 (0 : Int)), (.int .i64 (0 : Int)), (.bool false), (.int .i64 (0 : Int)), (.int .i64 (0 : Int)), (.int .i64 (0 : Int)), (.int .i64 (0 : Int)), (.int .i64 (0 : Int)), (.int .i64 (0 : Int)), (.int .i64 (0 : Int)), (.int .i64 (0 : Int)), (.int .i64 (0 : Int)), (.bool false), (.int .i64 (0 : Int)), (.int .i64 (0 : Int)), (.int .i64 (0 : Int)), (.int .i64 (0 : Int)), (.int .i64 (0 : Int)), (.int .i64 (0 : Int)), (.int .i64 (0 : Int)), (.int .i64 (0 : Int)), (.int .i64 (0 : Int)), (.bool false), (.int .i64 (0 : Int)), (.int .i64 (0 : Int)), (.int .i64 (0 : Int)), (.int .i64 (0 : Int)), (.int .i64 (0 : Int)), (.int .i64 (0 : Int)), (.int .i64 (0 : Int)), (.int .i64 (0 : Int)), (.int .i64 (0 : Int)), (.bool false), (.int .i64 (0 : Int)), (.int .i64 (0 : Int)), (.int .i64 (0 : Int)), (.int .i64 (0 : Int)), (.int .i64 (0 : Int)), (.int .i64 (0 : Int)), (.int .i64 (0 : Int)), (.int .i64 (0 : Int)), (.int .i64 (0 : Int)), (.bool false), (.int .i64 (0 : Int)), (.int .i64 (0 : Int)), (.int .i64 (0 : Int)), (.int .i64 (0 : Int)), (.int .i64 (0 : Int)), (.int .i64 (0 : Int)), (.int .i64 (0 : Int)), (.int .i64 (0 : Int)), (.int .i64 (0 : Int)), (.bool false), (.int .i64 (0 : Int)), (.int .i64 (0 : Int)), (.int .i64 (0 : Int)), (.int .i64 (0 : Int)), (.int .i64 (0 : Int)), (.int .i64 (0 : Int)), (.int .i64 (0 : Int)), (.int .i64 (0 : Int)), (.int .i64 (0 : Int)), (.bool false), (.int .i64 (0 : Int)), (.int .i64 (0 : Int)), (.int .i64 (0 : Int)), (.int .i64 (0 : Int)), (.int .i64 (0 : Int)), (.int .i64 (0 : Int)), (.int .i64 (0 : Int)), (.int .i64 (0 : Int)), (.int .i64 (0 : Int)), (.bool false), (.int .i64 (0 : Int)), (.int .i64 (0 : Int)), (.int .i64 (0 : Int)), (.int .i64 (0 : Int)), (.int .i64 (0 : Int)), (.int .i64 (0 : Int)), (.int .i64 (0 : Int)), (.int .i64 (0 : Int)), (.int .i64 (0 : Int)), (.bool false), (.int .i64 (0 : Int)), (.int .i64 (0 : Int)), (.int .i64 (0 : Int)), (.int .i64 (0 : Int)), (.int .i64 (0 : Int)), (.int .i64 (0 : Int)), (.int .i64 (0 : Int)), (.int .i64 (0 : Int)), (.int .i64 (0 : Int)), (.bool false), (.int .i64 (0 : Int)), (.int .i64 (0 : Int)), (.int .i64 (0 : Int)), (.int .i64 (0 : Int)), (.int .i64 (0 : Int)), (.int .i64 (0 : Int)), (.int .i64 (0 : Int)), (.int .i64 (0 : Int)), (.int .i64 (0 : Int)), (.bool false), (.int .i64 (0 : Int)), (.int .i64 (0 : Int)), (.int .i64 (0 : Int)), (.int .i64 (0 : Int)), (.int .i64 (0 : Int)), (.int .i64 (0 : Int)), (.int .i64 (0 : Int)), (.int .i64 (0 : Int)), (.int .i64 (0 : Int)), (.bool false), (.int .i64 (0 : Int)), (.int .i64 (0 : Int)), (.int .i64 (0 : Int)), (.int .i64 (0 : Int)), (.int .i64 (0 : Int)), (.int .i64 (0 : Int)), (.int .i64 (0 : Int)), (.int .i64 (0 : Int)), (.int .i64 (0 : Int)), (.bool false), (.int .i64 (0 : Int)), (.int .i64 (0 : Int)), (.int .i64 (0 : Int)), (.int .i64 (0 : Int)), (.int .i64 (0 : Int)), (.int .i64 (0 : Int)), (.int .i64 (0 : Int)), (.int .i64 (0 : Int)), (.int .i64 (0 : Int)), (.bool false), (.int .i64 (0 : Int)), (.int .i64 (0 : Int)), (.int .i64 (0 : Int)), (.int .i64 (0 : Int)), (.int .i64 (0 : Int)), (.int .i64 (0 : Int)), (.int .i64 (0 : Int)), (.int .i64 (0 : Int)), (.int .i64 (0 : Int)), (.bool false), (.int .i64 (0 : Int)), (.int .i64 (0 : Int)), (.int .i64 (0 : Int)), (.int .i64 (0 : Int)), (.int .i64 (0 : Int)), (.int .i64 (0 : Int)), (.int .i64 (0 : Int)), (.int .i64 (0 : Int)), (.int .i64 (0 : Int)), (.bool false), (.int .i64 (0 : Int)), (.int .i64 (0 : Int)), (.int .i64 (0 : Int)), (.int .i64 (0 : Int)), (.int .i64 (0 : Int)), (.int .i64 (0 : Int)), (.int .i64 (0 : Int)), (.int .i64 (0 : Int)), (.int .i64 (0 : Int)), (.bool false), (.int .i64 (0 : Int)), (.int .i64 (0 : Int)), (.int .i64 (0 : Int)), (.int .i64 (0 : Int)), (.int .i64 (0 : Int)), (.int .i64 (0 : Int)), (.int .i64 (0 : Int)), (.int .i64 (0 : Int)), (.int .i64 (0 : Int)), (.bool false), (.int .i64 (0 : Int)), (.int .i64 (0 : Int)), (.int .i64 (0 : Int)), (.int .i64 (0 : Int)), (.int .i64 (0 : Int)), (.int .i64 (0 : Int)), (.int .i64 (0 : Int)), (.int .i64 (0 : Int)), (.int .i64 (0 : Int)), (.bool false), (.int .i64 (0 : Int)), (.int .i64 (0 : Int)), (.int .i64 (0 : Int)), (.int .i64 (0 : Int)), (.int .i64 (0 : Int)), (.int .i64 (0 : Int)), (.int .i64 (0 : Int)), (.int .i64 (0 : Int)), (.int .i64 (0 : Int)), (.bool false), (.int .i64 (0 : Int)), (.int .i64 (0 : Int)), (.int .i64 (0 : Int)), (.int .i64 (0 : Int)), (.int .i64 (0 : Int)), (.int .i64 (0 : Int)), (.int .i64 (0 : Int)), (.int .i64 (0 : Int)), (.int .i64 (0 : Int)), (.bool false), (.int .i64 (0 : Int)), (.int .i64 (0 : Int)), (.int .i64 (0 : Int)), (.int .i64 (0 : Int)), (.int .i64 (0 : Int)), (.int .i64 (0 : Int)), (.int .i64 (0 : Int)), (.int .i64 (0 : Int)), (.int .i64 (0 : Int)), (.bool false), (.int .i64 (0 : Int)), (.int .i64 (0 : Int)), (.int .i64 (0 : Int)), (.int .i64 (0 : Int)), (.int .i64 (0 : Int)), (.int .i64 (0 : Int)), (.int .i64 (0 : Int)), (.int .i64 (0 : Int)), (.int .i64 (0 : Int)), (.bool false), (.int .i64 (0 : Int)), (.int .i64 (0 : Int)), (.int .i64 (0 : Int)), (.int .i64 (0 : Int)), (.int .i64 (0 : Int)), (.int .i64 (0 : Int)), (.int .i64 (0 : Int)), (.int .i64 (0 : Int)), (.int .i64 (0 : Int)), (.bool false), (.int .i64 (0 : Int)), (.int .i64 (0 : Int)), (.int .i64 (0 : Int)), (.int .i64 (0 : Int)), (.int .i64 (0 : Int)), (.int .i64 (0 : Int)), (.int .i64 (0 : Int)), (.int .i64 (0 : Int)), (.int .i64 (0 : Int)), (.bool false), (.int .i64 (0 : Int)), (.int .i64 (0 : Int)), (.int .i64 (0 : Int)), (.int .i64 (0 : Int)), (.int .i64 (0 : Int)), (.int .i64 (0 : Int)), (.int .i64 (0 : Int)), (.int .i64 (0 : Int)), (.int .i64 (0 : Int)), (.bool false), (.int .i64 (0 : Int)), (.int .i64 (0 : Int)), (.int .i64 (0 : Int)), (.int .i64 (0 : Int)), (.int .i64 (0 : Int)), (.int .i64 (0 : Int)), (.int .i64 (0 : Int)), (.int .i64 (0 : Int)), (.int .i64 (0 : Int)), (.bool false), (.int .i64 (0 : Int)), (.int .i64 (0 : Int)), (.int .i64 (0 : Int)), (.int .i64 (0 : Int)), (.int .i64 (0 : Int)), (.int .i64 (0 : Int)), (.int .i64 (0 : Int)), (.int .i64 (0 : Int)), (.int .i64 (0 : Int)), (.bool false), (.int .i64 (0 : Int)), (.int .i64 (0 : Int)), (.int .i64 (0 : Int)), (.int .i64 (0 : Int)), (.int .i64 (0 : Int)), (.int .i64 (0 : Int)), (.int .i64 (0 : Int)), (.int .i64 (0 : Int)), (.int .i64 (0 : Int)), (.bool false), (.int .i64 (0 : Int)), (.int .i64 (0 : Int)), (.int .i64 (0 : Int)), (.int .i64 (0 : Int)), (.int .i64 (0 : Int)), (.int .i64 (0 : Int)), (.int .i64 (0 : Int)), (.int .i64 (0 : Int)), (.int .i64 (0 : Int)), (.bool false), (.int .i64 (0 : Int)), (.int .i64 (0 : Int)), (.int .i64 (0 : Int)), (.int .i64 (0 : Int)), (.int .i64 (0 : Int)), (.int .i64 (0 : Int)), (.int .i64 (0 : Int)), (.int .i64 (0 : Int)), (.int .i64 (0 : Int)), (.bool false), (.int .i64 (0 : Int)), (.int .i64 (0 : Int)), (.int .i64 (0 : Int)), (.int .i64 (0 : Int)), (.int .i64 (0 : Int)), (.int .i64 (0 : Int)), (.int .i64 (0 : Int)), (.int .i64 (0 : Int)), (.int .i64 (0 : Int)), (.bool false), (.int .i64 (0 : Int)), (.int .i64 (0 : Int)), (.int .i64 (0 : Int)), (.int .i64 (0 : Int)), (.int .i64 (0 : Int)), (.int .i64 (0 : Int)), (.int .i64 (0 : Int)), (.int .i64 (0 : Int)), (.int .i64 (0 : Int)), (.bool false), (.int .i64 (0 : Int)), (.int .i64 (0 : Int)), (.int .i64 (0 : Int)), (.int .i64 (0 : Int)), (.int .i64 (0 : Int)), (.int .i64 (0 : Int)), (.int .i64 (0 : Int)), (.int .i64 (0 : Int)), (.int .i64 (0 : Int)), (.bool false), (.int .i64 (0 : Int)), (.int .i64 (0 : Int)), (.int .i64 (0 : Int)), (.int .i64 (0 : Int)), (.int .i64 (0 : Int)), (.int .i64 (0 : Int)), (.int .i64 (0 : Int)), (.int .i64 (0 : Int)), (.int .i64 (0 : Int)), (.bool false), (.int .i64 (0 : Int)), (.int .i64 (0 : Int)), (.int .i64 (0 : Int)), (.int .i64 (0 : Int)), (.int .i64 (0 : Int)), (.int .i64 (0 : Int)), (.int .i64 (0 : Int)), (.int .i64 (0 : Int)), (.int .i64 (0 : Int)), (.bool false), (.int .i64 (0 : Int)), (.int .i64 (0 : Int)), (.int .i64 (0 : Int)), (.int .i64 (0 : Int)), (.int .i64 (0 : Int)), (.int .i64 (0 : Int)), (.int .i64 (0 : Int)), (.int .i64 (0 : Int)), (.int .i64 (0 : Int)), (.bool false), (.int .i64 (0 : Int)), (.int .i64 (0 : Int)), (.int .i64 (0 : Int)), (.int .i64 (0 : Int)), (.int .i64 (0 : Int)), (.int .i64 (0 : Int)), (.int .i64 (0 : Int)), (.int .i64 (0 : Int)), (.int .i64 (0 : Int)), (.bool false), (.int .i64 (0 : Int)), (.int .i64 (0 : Int)), (.int .i64 (0 : Int)), (.int .i64 (0 : Int)), (.int .i64 (0 : Int)), (.int .i64 (0 : Int)), (.int .i64 (0 : Int)), (.int .i64 (0 : Int)), (.int .i64 (0 : Int)), (.bool false), (.int .i64 (0 : Int)), (.int .i64 (0 : Int)), (.int .i64 (0 : Int)), (.int .i64 (0 : Int)), (.int .i64 (0 : Int)), (.int .i64 (0 : Int)), (.int .i64 (0 : Int)), (.int .i64 (0 : Int)), (.int .i64 (0 : Int)), (.bool false), (.int .i64 (0 : Int)), (.int .i64 (0 : Int)), (.int .i64 (0 : Int)), (.int .i64 (0 : Int)), (.int .i64 (0 : Int)), (.int .i64 (0 : Int)), (.int .i64 (0 : Int)), (.int .i64 (0 : Int)), (.int .i64 (0 : Int)), (.bool false), (.int .i64 (0 : Int)), (.int .i64 (0 : Int)), (.int .i64 (0 : Int)), (.int .i64 (0 : Int)), (.int .i64 (0 : Int)), (.int .i64 (0 : Int)), (.int .i64 (0 : Int)), (.int .i64 (0 : Int)), (.int .i64 (0 : Int)), (.bool false), (.int .i64 (0 : Int)), (.int .i64 (0 : Int)), (.int .i64 (0 : Int)), (.int .i64 (0 : Int)), (.int .i64 (0 : Int)), (.int .i64 (0 : Int)), (.int .i64 (0 : Int)), (.int .i64 (0 : Int)), (.int .i64 (0 : Int)), (.bool false), (.int .i64 (0 : Int)), (.int .i64 (0 : Int)), (.int .i64 (0 : Int)), (.int .i64 (0 : Int)), (.int .i64 (0 : Int)), (.int .i64 (0 : Int)), (.int .i64 (0 : Int)), (.int .i64 (0 : Int)), (.int .i64 (0 : Int)), (.bool false), (.int .i64 (0 : Int)), (.int .i64 (0 : Int)), (.int .i64 (0 : Int)), (.int .i64 (0 : Int)), (.int .i64 (0 : Int)), (.int .i64 (0 : Int)), (.int .i64 (0 : Int)), (.int .i64 (0 : Int)), (.int .i64 (0 : Int)), (.bool false), (.int .i64 (0 : Int)), (.int .i64 (0 : Int)), (.int .i64 (0 : Int)), (.int .i64 (0 : Int)), (.int .i64 (0 : Int)), (.int .i64 (0 : Int)), (.int .i64 (0 : Int)), (.int .i64 (0 : Int)), (.int .i64 (0 : Int)), (.bool false), (.int .i64 (0 : Int)), (.int .i64 (0 : Int)), (.int .i64 (0 : Int)), (.int .i64 (0 : Int)), (.int .i64 (0 : Int)), (.int .i64 (0 : Int)), (.int .i64 (0 : Int)), (.int .i64 (0 : Int)), (.int .i64 (0 : Int)), (.bool false), (.int .i64 (0 : Int)), (.int .i64 (0 : Int)), (.int .i64 (0 : Int)), (.int .i64 (0 : Int)), (.int .i64 (0 : Int)), (.int .i64 (0 : Int)), (.int .i64 (0 : Int)), (.int .i64 (0 : Int)), (.int .i64 (0 : Int)), (.bool false), (.int .i64 (0 : Int)), (.int .i64 (0 : Int)), (.int .i64 (0 : Int)), (.int .i64 (0 : Int)), (.int .i64 (0 : Int)), (.int .i64 (0 : Int)), (.int .i64 (0 : Int)), (.int .i64 (0 : Int)), (.int .i64 (0 : Int)), (.bool false), (.int .i64 (0 : Int)), (.int .i64 (0 : Int)), (.int .i64 (0 : Int)), (.int .i64 (0 : Int)), (.int .i64 (0 : Int)), (.int .i64 (0 : Int)), (.int .i64 (0 : Int)), (.int .i64 (0 : Int)), (.int .i64 (0 : Int)), (.bool false), (.int .i64 (0 : Int)), (.int .i64 (0 : Int)), (.int .i64 (0 : Int)), (.int .i64 (0 : Int)), (.int .i64 (0 : Int)), (.int .i64 (0 : Int)), (.int .i64 (0 : Int)), (.int .i64 (0 : Int)), (.int .i64 (0 : Int)), (.bool false), (.int .i64 (0 : Int)), (.int .i64 (0 : Int)), (.int .i64 (0 : Int)), (.int .i64 (0 : Int)), (.int .i64 (0 : Int)), (.int .i64 (0 : Int)), (.int .i64 (0 : Int)), (.int .i64 (0 : Int)), (.int .i64 (0 : Int)), (.bool false), (.int .i64 (0 : Int)), (.int .i64 (0 : Int)), (.int .i64 (0 : Int)), (.int .i64 (0 : Int)), (.int .i64 (0 : Int)), (.int .i64 (0 : Int)), (.int .i64 (0 : Int)), (.int .i64 (0 : Int)), (.int .i64 (0 : Int)), (.bool false), (.int .i64 (0 : Int)), (.int .i64 (0 : Int)), (.int .i64 (0 : Int)), (.int .i64 (0 : Int)), (.int .i64 (0 : Int)), (.int .i64 (0 : Int)), (.int .i64 (0 : Int)), (.int .i64 (0 : Int)), (.int .i64 (0 : Int)), (.bool false), (.int .i64 (0 : Int)), (.int .i64 (0 : Int)), (.int .i64 (0 : Int)), (.int .i64 (0 : Int)), (.int .i64 (0 : Int)), (.int .i64 (0 : Int)), (.int .i64 (0 : Int)), (.int .i64 (0 : Int)), (.int .i64 (0 : Int)), (.bool false), (.int .i64 (0 : Int)), (.int .i64 (0 : Int)), (.int .i64 (0 : Int)), (.int .i64 (0 : Int)), (.int .i64 (0 : Int)), (.int .i64 (0 : Int)), (.int .i64 (0 : Int)), (.int .i64 (0 : Int))] 70) fun r7 w8 => 
(Q (.pointer (some (⟨r7, 0, none⟩ : Addr))) w8))))
theorem F21_link  (w : World) (Q : Value → World → Prop) : fnEv Tryd.prog Tryd.f21 h21 [] w Q = F21  w Q := by kernel_rfl
theorem F21_calls  {w : World} {Q : Value → World → Prop} (hF_ : F21  w Q) : cl Tryd.prog 21 #[] w Q :=
  calls_of_ev (fn := Tryd.f21) Tryd.func21 h21 (args := []) (by rw [F21_link]; exact hF_)

/-! (*tiltyard/world.World).Spawn -/
def h22 : Hint := (.s .d (.s .d (.s (.s .d (.l [(14, 3)] (.s .d (.s .d (.s (.s .d (.s .d (.s (.j [(32, 4)] .d .d) (.s .d (.s .d (.s .d (.s .d (.s (.o (ofL [0, 1, 2, 3, 4, 5, 6, 7] .nil)) .d)))))))) .d))))) .d)))
set_option linter.unusedVariables false in
def F22 (w' : Option Addr) (e_0 : Int) (e_1 : Int) (e_2 : Int) (e_3 : Int) (e_4 : Int) (e_5 : Int) (e_6 : Int) (e_7 : Int) (w : World) (Q : Value → World → Prop) : Prop :=
 (nw w (.cells #[(.int .i64 e_0), (.int .i64 e_1), (.int .i64 e_2), (.int .i64 e_3), (.int .i64 e_4), (.int .i64 e_5), (.int .i64 e_6), (.int .i64 e_7)] 40) fun r1 w2 => (lv (0 : Int) fun y3 => (lv (0 : Int) fun y4 => 
(ld w2 (⟨r1, 0, none⟩ : Addr) fun v5 => asI .i64 v5 fun x6 => (ld w2 (Addr.add (⟨r1, 0, none⟩ : Addr) 1) fun v7 => asI .i64 v7 fun x8 => (ld w2 (Addr.add (⟨r1, 0, none⟩ : Addr) 2) fun v9 => asI .i64 v9 fun x10 => (ld w2 (Addr.add (⟨r1, 0, none⟩ : Addr) 3) fun v11 => asI .i64 v11 fun x12 => (ld w2 (Addr.add (⟨r1, 0, none⟩ : Addr) 4) fun v13 => asI .i64 v13 fun x14 => (ld w2 (Addr.add (⟨r1, 0, none⟩ : Addr) 5) fun v15 => asI .i64 v15 fun x16 => (ld w2 (Addr.add (⟨r1, 0, none⟩ : Addr) 6) fun v17 => asI .i64 v17 fun x18 => (ld w2 (Addr.add (⟨r1, 0, none⟩ : Addr) 7) fun v19 => asI .i64 v19 fun x20 => (cl Tryd.prog 37 #[(.agg #[(.int .i64 x6), (.int .i64 x8), (.int .i64 x10), (.int .i64 x12), (.int .i64 x14), (.int .i64 x16), (.int .i64 x18), (.int .i64 x20)])] w2 fun v21 w22 => asI .i64 v21 fun x23 => (lv x23 fun e_24 => 

(cond (e_24 != (0 : Int)) (lv (0 : Int) fun y25 => (lv e_24 fun y26 => 
(Q (.tuple #[(.int .i64 y25), (.int .i64 y26)]) w22))) 

(lp [(.int .i64 (0 : Int))] w22 fun J29 s27 w28 => asI .i64 (s27.getD 0 undef) fun x30 => 
(cond (decide (x30 < (64 : Int))) 
(lv x30 fun i_31 => 
(dr w' fun a32 => (bnd i_31 64 
(jn (fun s33 w34 => asB (s33.getD 0 undef) fun b40 => (cond b40 
(J29 [(.int .i64 (IntKind.wrap .i64 (x30 + (1 : Int))))] w34) 
(ld w34 (Addr.add (Addr.add a32 1) (Int.toNat i_31 * 10)) fun v41 => asI .i64 v41 fun x42 => (st w34 (Addr.add (Addr.add a32 1) (Int.toNat i_31 * 10)) (.int .i64 (IntKind.wrap .i64 (x42 + (1 : Int)))) fun w43 => 
(st w43 (Addr.add (Addr.add (Addr.add a32 1) (Int.toNat i_31 * 10)) 1) (.bool true) fun w44 => 
(ld w44 (⟨r1, 0, none⟩ : Addr) fun v45 => asI .i64 v45 fun x46 => (ld w44 (Addr.add (⟨r1, 0, none⟩ : Addr) 1) fun v47 => asI .i64 v47 fun x48 => (ld w44 (Addr.add (⟨r1, 0, none⟩ : Addr) 2) fun v49 => asI .i64 v49 fun x50 => (ld w44 (Addr.add (⟨r1, 0, none⟩ : Addr) 3) fun v51 => asI .i64 v51 fun x52 => (ld w44 (Addr.add (⟨r1, 0, none⟩ : Addr) 4) fun v53 => asI .i64 v53 fun x54 => (ld w44 (Addr.add (⟨r1, 0, none⟩ : Addr) 5) fun v55 => asI .i64 v55 fun x56 => (ld w44 (Addr.add (⟨r1, 0, none⟩ : Addr) 6) fun v57 => asI .i64 v57 fun x58 => (ld w44 (Addr.add (⟨r1, 0, none⟩ : Addr) 7) fun v59 => asI .i64 v59 fun x60 => (st w44 (Addr.add (Addr.add (Addr.add a32 1) (Int.toNat i_31 * 10)) 2) (.int .i64 x46) fun w61 => (st w61 (Addr.add (Addr.add (Addr.add (Addr.add a32 1) (Int.toNat i_31 * 10)) 2) 1) (.int .i64 x48) fun w62 => (st w62 (Addr.add (Addr.add (Addr.add (Addr.add a32 1) (Int.toNat i_31 * 10)) 2) 2) (.int .i64 x50) fun w63 => (st w63 (Addr.add (Addr.add (Addr.add (Addr.add a32 1) (Int.toNat i_31 * 10)) 2) 3) (.int .i64 x52) fun w64 => (st w64 (Addr.add (Addr.add (Addr.add (Addr.add a32 1) (Int.toNat i_31 * 10)) 2) 4) (.int .i64 x54) fun w65 => (st w65 (Addr.add (Addr.add (Addr.add (Addr.add a32 1) (Int.toNat i_31 * 10)) 2) 5) (.int .i64 x56) fun w66 => (st w66 (Addr.add (Addr.add (Addr.add (Addr.add a32 1) (Int.toNat i_31 * 10)) 2) 6) (.int .i64 x58) fun w67 => (st w67 (Addr.add (Addr.add (Addr.add (Addr.add a32 1) (Int.toNat i_31 * 10)) 2) 7) (.int .i64 x60) fun w68 => 
(ld w68 (Addr.add (Addr.add a32 1) (Int.toNat i_31 * 10)) fun v69 => asI .i64 v69 fun x70 => (st w68 (Addr.add (Addr.add (Addr.add a32 1) (Int.toNat i_31 * 10)) 2) (.int .i64 (IntKind.wrap .i64 ((IntKind.wrap .i64 (x70 * (64 : Int))) + i_31))) fun w71 => 
(dw w71 fun w72 => (dr w' fun a73 => (ld w72 a73 fun v74 => asP v74 fun p75 => (ld w72 (Addr.add (⟨r1, 0, none⟩ : Addr) 1) fun v76 => asI .i64 v76 fun x77 => (ld w72 (Addr.add (Addr.add (⟨r1, 0, none⟩ : Addr) 1) 1) fun v78 => asI .i64 v78 fun x79 => (ld w72 (Addr.add (Addr.add (⟨r1, 0, none⟩ : Addr) 1) 2) fun v80 => asI .i64 v80 fun x81 => (cl Tryd.prog 35 #[(.pointer p75), (.int .i64 i_31), (.agg #[(.int .i64 x77), (.int .i64 x79), (.int .i64 x81)])] w72 fun v82 w83 => asI .i64 v82 fun x84 => 
(ld w83 (Addr.add (Addr.add (Addr.add a32 1) (Int.toNat i_31 * 10)) 2) fun v85 => asI .i64 v85 fun x86 => (lv x86 fun y87 => (lv (0 : Int) fun y88 => 
(Q (.tuple #[(.int .i64 y87), (.int .i64 y88)]) w83))))))))))))))))))))))))))))))))))
 (fun J35 => (ld w28 (Addr.add (Addr.add (Addr.add a32 1) (Int.toNat i_31 * 10)) 1) fun v36 => asB v36 fun b37 => (cond b37 (J35 [(.bool true)] w28) (ld w28 (Addr.add (Addr.add a32 1) (Int.toNat i_31 * 10)) fun v38 => asI .i64 v38 fun x39 => (J35 [(.bool (x39 == (1099511627776 : Int)))] w28))))))))) 
(lv (0 : Int) fun y89 => (lv (2 : Int) fun y90 => 
(Q (.tuple #[(.int .i64 y89), (.int .i64 y90)]) w28)))))))))))))))))))
theorem F22_link (w' : Option Addr) (e_0 : Int) (e_1 : Int) (e_2 : Int) (e_3 : Int) (e_4 : Int) (e_5 : Int) (e_6 : Int) (e_7 : Int) (w : World) (Q : Value → World → Prop) : fnEv Tryd.prog Tryd.f22 h22 [(.pointer w'), (.agg #[(.int .i64 e_0), (.int .i64 e_1), (.int .i64 e_2), (.int .i64 e_3), (.int .i64 e_4), (.int .i64 e_5), (.int .i64 e_6), (.int .i64 e_7)])] w Q = F22 w' e_0 e_1 e_2 e_3 e_4 e_5 e_6 e_7 w Q := by kernel_rfl
theorem F22_calls {w' : Option Addr} {e_0 : Int} {e_1 : Int} {e_2 : Int} {e_3 : Int} {e_4 : Int} {e_5 : Int} {e_6 : Int} {e_7 : Int} {w : World} {Q : Value → World → Prop} (hF_ : F22 w' e_0 e_1 e_2 e_3 e_4 e_5 e_6 e_7 w Q) : cl Tryd.prog 22 #[(.pointer w'), (.agg #[(.int .i64 e_0), (.int .i64 e_1), (.int .i64 e_2), (.int .i64 e_3), (.int .i64 e_4), (.int .i64 e_5), (.int .i64 e_6), (.int .i64 e_7)])] w Q :=
  calls_of_ev (fn := Tryd.f22) Tryd.func22 h22 (args := [(.pointer w'), (.agg #[(.int .i64 e_0), (.int .i64 e_1), (.int .i64 e_2), (.int .i64 e_3), (.int .i64 e_4), (.int .i64 e_5), (.int .i64 e_6), (.int .i64 e_7)])]) (by rw [F22_link]; exact hF_)

/-! (*tiltyard/tiltyardref19.World).Spawn -/
def h23 : Hint := (.s .d (.s .d (.s .d (.s (.s .d (.l [(7, 3)] (.s .d (.s (.j [(32, 4)] .d (.s (.s (.o (ofL [0, 1, 2, 3, 4, 5, 6, 7, 8, 9, 10] .nil)) (.s .d (.s .d (.s (.o (ofL [0, 1, 2, 3, 4, 5, 6] .nil)) .d)))) .d)) .d)))) .d))))
set_option linter.unusedVariables false in
def F23 (w' : Option Addr) (e_0 : Int) (e_1 : Int) (e_2 : Int) (e_3 : Int) (e_4 : Int) (e_5 : Int) (e_6 : Int) (e_7 : Int) (w : World) (Q : Value → World → Prop) : Prop :=
 (nw w (.cells #[(.int .i64 e_0), (.int .i64 e_1), (.int .i64 e_2), (.int .i64 e_3), (.int .i64 e_4), (.int .i64 e_5), (.int .i64 e_6), (.int .i64 e_7)] 40) fun r1 w2 => (lv (0 : Int) fun y3 => (lv (0 : Int) fun y4 => 
(ld w2 (⟨r1, 0, none⟩ : Addr) fun v5 => asI .i64 v5 fun x6 => (ld w2 (Addr.add (⟨r1, 0, none⟩ : Addr) 1) fun v7 => asI .i64 v7 fun x8 => (ld w2 (Addr.add (⟨r1, 0, none⟩ : Addr) 2) fun v9 => asI .i64 v9 fun x10 => (ld w2 (Addr.add (⟨r1, 0, none⟩ : Addr) 3) fun v11 => asI .i64 v11 fun x12 => (ld w2 (Addr.add (⟨r1, 0, none⟩ : Addr) 4) fun v13 => asI .i64 v13 fun x14 => (ld w2 (Addr.add (⟨r1, 0, none⟩ : Addr) 5) fun v15 => asI .i64 v15 fun x16 => (ld w2 (Addr.add (⟨r1, 0, none⟩ : Addr) 6) fun v17 => asI .i64 v17 fun x18 => (ld w2 (Addr.add (⟨r1, 0, none⟩ : Addr) 7) fun v19 => asI .i64 v19 fun x20 => (cl Tryd.prog 38 #[(.agg #[(.int .i64 x6), (.int .i64 x8), (.int .i64 x10), (.int .i64 x12), (.int .i64 x14), (.int .i64 x16), (.int .i64 x18), (.int .i64 x20)])] w2 fun v21 w22 => asI .i64 v21 fun x23 => (lv x23 fun bad_24 => 

(cond (bad_24 != (0 : Int)) (lv (0 : Int) fun y25 => (lv bad_24 fun y26 => 
(Q (.tuple #[(.int .i64 y25), (.int .i64 y26)]) w22))) 
(lv (0 : Int) fun i_27 => 
(lp [(.int .i64 i_27)] w22 fun J30 s28 w29 => asI .i64 (s28.getD 0 undef) fun x31 => 
(cond (decide (x31 < (64 : Int))) 
(jn (fun s32 w33 => asB (s32.getD 0 undef) fun b41 => (cond b41 (dw w33 fun w42 => (dr w' fun a43 => (bnd x31 64 (ld w42 (Addr.add a43 (Int.toNat x31 * 1)) fun v44 => asI .i64 v44 fun x45 => (dr w' fun a46 => (bnd x31 64 (st w42 (Addr.add a46 (Int.toNat x31 * 1)) (.int .i64 (IntKind.wrap .i64 (x45 + (1 : Int)))) fun w47 => 
(dr w' fun a48 => (bnd x31 64 (ld w47 (Addr.add a48 (Int.toNat x31 * 1)) fun v49 => asI .i64 v49 fun x50 => (st w47 (⟨r1, 0, none⟩ : Addr) (.int .i64 (IntKind.wrap .i64 ((IntKind.wrap .i64 (x50 * (64 : Int))) + x31))) fun w51 => 
(dr w' fun a52 => (bnd x31 64 (st w51 (Addr.add (Addr.add a52 64) (Int.toNat x31 * 1)) (.bool true) fun w53 => 
(dw w53 fun w54 => (ld w54 (⟨r1, 0, none⟩ : Addr) fun v55 => asI .i64 v55 fun x56 => (ld w54 (Addr.add (⟨r1, 0, none⟩ : Addr) 1) fun v57 => asI .i64 v57 fun x58 => (ld w54 (Addr.add (⟨r1, 0, none⟩ : Addr) 2) fun v59 => asI .i64 v59 fun x60 => (ld w54 (Addr.add (⟨r1, 0, none⟩ : Addr) 3) fun v61 => asI .i64 v61 fun x62 => (ld w54 (Addr.add (⟨r1, 0, none⟩ : Addr) 4) fun v63 => asI .i64 v63 fun x64 => (ld w54 (Addr.add (⟨r1, 0, none⟩ : Addr) 5) fun v65 => asI .i64 v65 fun x66 => (ld w54 (Addr.add (⟨r1, 0, none⟩ : Addr) 6) fun v67 => asI .i64 v67 fun x68 => (ld w54 (Addr.add (⟨r1, 0, none⟩ : Addr) 7) fun v69 => asI .i64 v69 fun x70 => (dr w' fun a71 => (bnd x31 64 (st w54 (Addr.add (Addr.add a71 128) (Int.toNat x31 * 8)) (.int .i64 x56) fun w72 => (st w72 (Addr.add (Addr.add (Addr.add a71 128) (Int.toNat x31 * 8)) 1) (.int .i64 x58) fun w73 => (st w73 (Addr.add (Addr.add (Addr.add a71 128) (Int.toNat x31 * 8)) 2) (.int .i64 x60) fun w74 => (st w74 (Addr.add (Addr.add (Addr.add a71 128) (Int.toNat x31 * 8)) 3) (.int .i64 x62) fun w75 => (st w75 (Addr.add (Addr.add (Addr.add a71 128) (Int.toNat x31 * 8)) 4) (.int .i64 x64) fun w76 => (st w76 (Addr.add (Addr.add (Addr.add a71 128) (Int.toNat x31 * 8)) 5) (.int .i64 x66) fun w77 => (st w77 (Addr.add (Addr.add (Addr.add a71 128) (Int.toNat x31 * 8)) 6) (.int .i64 x68) fun w78 => (st w78 (Addr.add (Addr.add (Addr.add a71 128) (Int.toNat x31 * 8)) 7) (.int .i64 x70) fun w79 => 
(ld w79 (⟨r1, 0, none⟩ : Addr) fun v80 => asI .i64 v80 fun x81 => (lv x81 fun y82 => (lv (0 : Int) fun y83 => 
(Q (.tuple #[(.int .i64 y82), (.int .i64 y83)]) w79))))))))))))))))))))))))))))))))))))) 
(lv (IntKind.wrap .i64 (x31 + (1 : Int))) fun i_84 => (J30 [(.int .i64 i_84)] w33))))
 (fun J34 => (dr w' fun a35 => (bnd x31 64 (ld w29 (Addr.add (Addr.add a35 64) (Int.toNat x31 * 1)) fun v36 => asB v36 fun b37 => (cond (!b37) (dr w' fun a38 => (bnd x31 64 (ld w29 (Addr.add a38 (Int.toNat x31 * 1)) fun v39 => asI .i64 v39 fun x40 => (J34 [(.bool (decide (x40 < (1099511627776 : Int))))] w29)))) (J34 [(.bool false)] w29))))))) 
(lv (0 : Int) fun y85 => (lv (2 : Int) fun y86 => 
(Q (.tuple #[(.int .i64 y85), (.int .i64 y86)]) w29))))))))))))))))))))
theorem F23_link (w' : Option Addr) (e_0 : Int) (e_1 : Int) (e_2 : Int) (e_3 : Int) (e_4 : Int) (e_5 : Int) (e_6 : Int) (e_7 : Int) (w : World) (Q : Value → World → Prop) : fnEv Tryd.prog Tryd.f23 h23 [(.pointer w'), (.agg #[(.int .i64 e_0), (.int .i64 e_1), (.int .i64 e_2), (.int .i64 e_3), (.int .i64 e_4), (.int .i64 e_5), (.int .i64 e_6), (.int .i64 e_7)])] w Q = F23 w' e_0 e_1 e_2 e_3 e_4 e_5 e_6 e_7 w Q := by kernel_rfl
theorem F23_calls {w' : Option Addr} {e_0 : Int} {e_1 : Int} {e_2 : Int} {e_3 : Int} {e_4 : Int} {e_5 : Int} {e_6 : Int} {e_7 : Int} {w : World} {Q : Value → World → Prop} (hF_ : F23 w' e_0 e_1 e_2 e_3 e_4 e_5 e_6 e_7 w Q) : cl Tryd.prog 23 #[(.pointer w'), (.agg #[(.int .i64 e_0), (.int .i64 e_1), (.int .i64 e_2), (.int .i64 e_3), (.int .i64 e_4), (.int .i64 e_5), (.int .i64 e_6), (.int .i64 e_7)])] w Q :=
  calls_of_ev (fn := Tryd.f23) Tryd.func23 h23 (args := [(.pointer w'), (.agg #[(.int .i64 e_0), (.int .i64 e_1), (.int .i64 e_2), (.int .i64 e_3), (.int .i64 e_4), (.int .i64 e_5), (.int .i64 e_6), (.int .i64 e_7)])]) (by rw [F23_link]; exact hF_)

/-! (*tiltyard/world.World).Kill -/
def h24 : Hint := .d
set_option linter.unusedVariables false in
def F24 (w' : Option Addr) (h : Int) (w : World) (Q : Value → World → Prop) : Prop :=
 (lv (0 : Int) fun y1 => 
(cl Tryd.prog 30 #[(.pointer w'), (.int .i64 h)] w fun v2 w3 => asP v2 fun p4 => 

(cond (Option.isNone p4) (lv (190 : Int) fun y5 => 
(Q (.int .i64 y5) w3)) 
(dr p4 fun a6 => (st w3 (Addr.add a6 1) (.bool false) fun w7 => 
(dr w' fun a8 => (ld w7 a8 fun v9 => asP v9 fun p10 => (cl Tryd.prog 39 #[(.pointer p10), (.int .i64 (Int.tmod h (64 : Int)))] w7 fun v11 w12 => asI .i64 v11 fun x13 => 
(lv (0 : Int) fun y14 => 
(Q (.int .i64 y14) w12))))))))))
theorem F24_link (w' : Option Addr) (h : Int) (w : World) (Q : Value → World → Prop) : fnEv Tryd.prog Tryd.f24 h24 [(.pointer w'), (.int .i64 h)] w Q = F24 w' h w Q := by kernel_rfl
theorem F24_calls {w' : Option Addr} {h : Int} {w : World} {Q : Value → World → Prop} (hF_ : F24 w' h w Q) : cl Tryd.prog 24 #[(.pointer w'), (.int .i64 h)] w Q :=
  calls_of_ev (fn := Tryd.f24) Tryd.func24 h24 (args := [(.pointer w'), (.int .i64 h)]) (by rw [F24_link]; exact hF_)

/-! (*tiltyard/tiltyardref19.World).Kill -/
def h25 : Hint := .d
set_option linter.unusedVariables false in
def F25 (w' : Option Addr) (h : Int) (w : World) (Q : Value → World → Prop) : Prop :=
 (lv (0 : Int) fun y1 => 
(cl Tryd.prog 40 #[(.pointer w'), (.int .i64 h)] w fun v2 w3 => asI .i64 v2 fun x4 => (lv x4 fun i_5 => 

(cond (decide (i_5 < (0 : Int))) (lv (190 : Int) fun y6 => 
(Q (.int .i64 y6) w3)) 
(dr w' fun a7 => (bnd i_5 64 (st w3 (Addr.add (Addr.add a7 64) (Int.toNat i_5 * 1)) (.bool false) fun w8 => 
(lv (0 : Int) fun y9 => 
(Q (.int .i64 y9) w8)))))))))
theorem F25_link (w' : Option Addr) (h : Int) (w : World) (Q : Value → World → Prop) : fnEv Tryd.prog Tryd.f25 h25 [(.pointer w'), (.int .i64 h)] w Q = F25 w' h w Q := by kernel_rfl
theorem F25_calls {w' : Option Addr} {h : Int} {w : World} {Q : Value → World → Prop} (hF_ : F25 w' h w Q) : cl Tryd.prog 25 #[(.pointer w'), (.int .i64 h)] w Q :=
  calls_of_ev (fn := Tryd.f25) Tryd.func25 h25 (args := [(.pointer w'), (.int .i64 h)]) (by rw [F25_link]; exact hF_)

/-! (*tiltyard/world.World).Set -/
def h26 : Hint := (.s .d (.s .d (.s .d (.s .d (.s .d (.s .d (.s (.o (ofL [0, 1, 2, 3, 4, 5, 6, 7, 8] .nil)) .d)))))))
set_option linter.unusedVariables false in
def F26 (w' : Option Addr) (h : Int) (e_0 : Int) (e_1 : Int) (e_2 : Int) (e_3 : Int) (e_4 : Int) (e_5 : Int) (e_6 : Int) (e_7 : Int) (w : World) (Q : Value → World → Prop) : Prop :=
 (nw w (.cells #[(.int .i64 e_0), (.int .i64 e_1), (.int .i64 e_2), (.int .i64 e_3), (.int .i64 e_4), (.int .i64 e_5), (.int .i64 e_6), (.int .i64 e_7)] 40) fun r1 w2 => (lv (0 : Int) fun y3 => 
(cl Tryd.prog 30 #[(.pointer w'), (.int .i64 h)] w2 fun v4 w5 => asP v4 fun p6 => 

(cond (Option.isNone p6) (lv (190 : Int) fun y7 => 
(Q (.int .i64 y7) w5)) 
(ld w5 (⟨r1, 0, none⟩ : Addr) fun v8 => asI .i64 v8 fun x9 => (ld w5 (Addr.add (⟨r1, 0, none⟩ : Addr) 1) fun v10 => asI .i64 v10 fun x11 => (ld w5 (Addr.add (⟨r1, 0, none⟩ : Addr) 2) fun v12 => asI .i64 v12 fun x13 => (ld w5 (Addr.add (⟨r1, 0, none⟩ : Addr) 3) fun v14 => asI .i64 v14 fun x15 => (ld w5 (Addr.add (⟨r1, 0, none⟩ : Addr) 4) fun v16 => asI .i64 v16 fun x17 => (ld w5 (Addr.add (⟨r1, 0, none⟩ : Addr) 5) fun v18 => asI .i64 v18 fun x19 => (ld w5 (Addr.add (⟨r1, 0, none⟩ : Addr) 6) fun v20 => asI .i64 v20 fun x21 => (ld w5 (Addr.add (⟨r1, 0, none⟩ : Addr) 7) fun v22 => asI .i64 v22 fun x23 => (cl Tryd.prog 37 #[(.agg #[(.int .i64 x9), (.int .i64 x11), (.int .i64 x13), (.int .i64 x15), (.int .i64 x17), (.int .i64 x19), (.int .i64 x21), (.int .i64 x23)])] w5 fun v24 w25 => asI .i64 v24 fun x26 => (lv x26 fun e_27 => 

(cond (e_27 != (0 : Int)) (lv e_27 fun y28 => 
(Q (.int .i64 y28) w25)) 
(ld w25 (⟨r1, 0, none⟩ : Addr) fun v29 => asI .i64 v29 fun x30 => (ld w25 (Addr.add (⟨r1, 0, none⟩ : Addr) 1) fun v31 => asI .i64 v31 fun x32 => (ld w25 (Addr.add (⟨r1, 0, none⟩ : Addr) 2) fun v33 => asI .i64 v33 fun x34 => (ld w25 (Addr.add (⟨r1, 0, none⟩ : Addr) 3) fun v35 => asI .i64 v35 fun x36 => (ld w25 (Addr.add (⟨r1, 0, none⟩ : Addr) 4) fun v37 => asI .i64 v37 fun x38 => (ld w25 (Addr.add (⟨r1, 0, none⟩ : Addr) 5) fun v39 => asI .i64 v39 fun x40 => (ld w25 (Addr.add (⟨r1, 0, none⟩ : Addr) 6) fun v41 => asI .i64 v41 fun x42 => (ld w25 (Addr.add (⟨r1, 0, none⟩ : Addr) 7) fun v43 => asI .i64 v43 fun x44 => (dr p6 fun a45 => (st w25 (Addr.add a45 2) (.int .i64 x30) fun w46 => (st w46 (Addr.add (Addr.add a45 2) 1) (.int .i64 x32) fun w47 => (st w47 (Addr.add (Addr.add a45 2) 2) (.int .i64 x34) fun w48 => (st w48 (Addr.add (Addr.add a45 2) 3) (.int .i64 x36) fun w49 => (st w49 (Addr.add (Addr.add a45 2) 4) (.int .i64 x38) fun w50 => (st w50 (Addr.add (Addr.add a45 2) 5) (.int .i64 x40) fun w51 => (st w51 (Addr.add (Addr.add a45 2) 6) (.int .i64 x42) fun w52 => (st w52 (Addr.add (Addr.add a45 2) 7) (.int .i64 x44) fun w53 => 
(dr p6 fun a54 => (st w53 (Addr.add a54 2) (.int .i64 h) fun w55 => 
(dw w55 fun w56 => (dr w' fun a57 => (ld w56 a57 fun v58 => asP v58 fun p59 => (ld w56 (Addr.add (⟨r1, 0, none⟩ : Addr) 1) fun v60 => asI .i64 v60 fun x61 => (ld w56 (Addr.add (Addr.add (⟨r1, 0, none⟩ : Addr) 1) 1) fun v62 => asI .i64 v62 fun x63 => (ld w56 (Addr.add (Addr.add (⟨r1, 0, none⟩ : Addr) 1) 2) fun v64 => asI .i64 v64 fun x65 => (cl Tryd.prog 41 #[(.pointer p59), (.int .i64 (Int.tmod h (64 : Int))), (.agg #[(.int .i64 x61), (.int .i64 x63), (.int .i64 x65)])] w56 fun v66 w67 => asI .i64 v66 fun x68 => 
(lv (0 : Int) fun y69 => 
(Q (.int .i64 y69) w67)))))))))))))))))))))))))))))))))))))))))))
theorem F26_link (w' : Option Addr) (h : Int) (e_0 : Int) (e_1 : Int) (e_2 : Int) (e_3 : Int) (e_4 : Int) (e_5 : Int) (e_6 : Int) (e_7 : Int) (w : World) (Q : Value → World → Prop) : fnEv Tryd.prog Tryd.f26 h26 [(.pointer w'), (.int .i64 h), (.agg #[(.int .i64 e_0), (.int .i64 e_1), (.int .i64 e_2), (.int .i64 e_3), (.int .i64 e_4), (.int .i64 e_5), (.int .i64 e_6), (.int .i64 e_7)])] w Q = F26 w' h e_0 e_1 e_2 e_3 e_4 e_5 e_6 e_7 w Q := by kernel_rfl
theorem F26_calls {w' : Option Addr} {h : Int} {e_0 : Int} {e_1 : Int} {e_2 : Int} {e_3 : Int} {e_4 : Int} {e_5 : Int} {e_6 : Int} {e_7 : Int} {w : World} {Q : Value → World → Prop} (hF_ : F26 w' h e_0 e_1 e_2 e_3 e_4 e_5 e_6 e_7 w Q) : cl Tryd.prog 26 #[(.pointer w'), (.int .i64 h), (.agg #[(.int .i64 e_0), (.int .i64 e_1), (.int .i64 e_2), (.int .i64 e_3), (.int .i64 e_4), (.int .i64 e_5), (.int .i64 e_6), (.int .i64 e_7)])] w Q :=
  calls_of_ev (fn := Tryd.f26) Tryd.func26 h26 (args := [(.pointer w'), (.int .i64 h), (.agg #[(.int .i64 e_0), (.int .i64 e_1), (.int .i64 e_2), (.int .i64 e_3), (.int .i64 e_4), (.int .i64 e_5), (.int .i64 e_6), (.int .i64 e_7)])]) (by rw [F26_link]; exact hF_)

/-! tiltyard/physics.turn -/
def h27 : Hint := (.s .d (.s .d (.s .d (.s (.s .d (.l [(7, 23), (8, 92), (20, 3)] (.s .d (.s .d (.j [(7, 23), (8, 92)] (.s .d (.s (.o (ofL [0, 1, 2, 3, 4, 5, 6] .nil)) (.s (.o (ofL [0, 1, 2, 5, 6, 7] (.alt (ofL [3] (.alt (ofL [4, 8, 9, 10, 11] .nil) (ofL [8, 4, 9, 10, 11] .nil))) (ofL [8, 3, 4, 9, 10, 11] .nil)))) .d))) .d))))) (.s (.o (ofL [0, 1, 2, 3, 4, 5, 6, 8, 9, 10, 11, 12, 13, 7, 14, 15, 16] .nil)) (.s (.o (ofL [0, 1, 2, 3, 4, 5, 6, 7, 8, 9, 10, 11, 12, 13, 14, 15, 16] .nil)) (.s .d (.s .d (.j [] .d .d)))))))))
set_option linter.unusedVariables false in
def F27 (w' : Option Addr) (e : Option Addr) (k : Int) (w : World) (Q : Value → World → Prop) : Prop :=
 (lv (0 : Int) fun y1 => 


(cl Tryd.prog 10 #[(.pointer w')] w fun v2 w3 => asS v2 fun p4 n5 c6 => 
(lp [(.slice none 0 0), (.slice none 0 0), (.int .i64 (0 : Int))] w3 fun J9 s7 w8 => asS (s7.getD 0 undef) fun p10 n11 c12 => asS (s7.getD 1 undef) fun p13 n14 c15 => asI .i64 (s7.getD 2 undef) fun x16 => 
(cond (decide (x16 < (n5 : Int))) 
(jn (fun s17 w18 => asS (s17.getD 0 undef) fun p102 n103 c104 => asS (s17.getD 1 undef) fun p105 n106 c107 => (J9 [(.slice p102 n103 c104), (.slice p105 n106 c107), (.int .i64 (IntKind.wrap .i64 (x16 + (1 : Int))))] w18))
 (fun J19 => (dr p4 fun a20 => (bnd x16 n5 (ld w8 (Addr.add a20 (Int.toNat x16 * 8)) fun v21 => asI .i64 v21 fun x22 => (ld w8 (Addr.add (Addr.add a20 (Int.toNat x16 * 8)) 1) fun v23 => asI .i64 v23 fun x24 => (ld w8 (Addr.add (Addr.add a20 (Int.toNat x16 * 8)) 2) fun v25 => asI .i64 v25 fun x26 => (ld w8 (Addr.add (Addr.add a20 (Int.toNat x16 * 8)) 3) fun v27 => asI .i64 v27 fun x28 => (ld w8 (Addr.add (Addr.add a20 (Int.toNat x16 * 8)) 4) fun v29 => asI .i64 v29 fun x30 => (ld w8 (Addr.add (Addr.add a20 (Int.toNat x16 * 8)) 5) fun v31 => asI .i64 v31 fun x32 => (ld w8 (Addr.add (Addr.add a20 (Int.toNat x16 * 8)) 6) fun v33 => asI .i64 v33 fun x34 => (ld w8 (Addr.add (Addr.add a20 (Int.toNat x16 * 8)) 7) fun v35 => asI .i64 v35 fun x36 => (nw w8 (.cells #[(.int .i64 (0 : Int)), (.int .i64 (0 : Int)), (.int .i64 (0 : Int)), (.int .i64 (0 : Int)), (.int .i64 (0 : Int)), (.int .i64 (0 : Int)), (.int .i64 (0 : Int)), (.int .i64 (0 : Int))] 40) fun r37 w38 => (st w38 (⟨r37, 0, none⟩ : Addr) (.int .i64 x22) fun w39 => (st w39 (Addr.add (⟨r37, 0, none⟩ : Addr) 1) (.int .i64 x24) fun w40 => (st w40 (Addr.add (⟨r37, 0, none⟩ : Addr) 2) (.int .i64 x26) fun w41 => (st w41 (Addr.add (⟨r37, 0, none⟩ : Addr) 3) (.int .i64 x28) fun w42 => (st w42 (Addr.add (⟨r37, 0, none⟩ : Addr) 4) (.int .i64 x30) fun w43 => (st w43 (Addr.add (⟨r37, 0, none⟩ : Addr) 5) (.int .i64 x32) fun w44 => (st w44 (Addr.add (⟨r37, 0, none⟩ : Addr) 6) (.int .i64 x34) fun w45 => (st w45 (Addr.add (⟨r37, 0, none⟩ : Addr) 7) (.int .i64 x36) fun w46 => 
(dw w46 fun w47 => (ld w47 (⟨r37, 0, none⟩ : Addr) fun v48 => asI .i64 v48 fun x49 => (dr e fun a50 => (ld w47 a50 fun v51 => asI .i64 v51 fun x52 => 
(cond (x49 != x52) (dw w47 fun w53 => (ld w53 (⟨r37, 0, none⟩ : Addr) fun v54 => asI .i64 v54 fun x55 => (ld w53 (Addr.add (⟨r37, 0, none⟩ : Addr) 1) fun v56 => asI .i64 v56 fun x57 => (ld w53 (Addr.add (Addr.add (⟨r37, 0, none⟩ : Addr) 1) 1) fun v58 => asI .i64 v58 fun x59 => (ld w53 (Addr.add (Addr.add (⟨r37, 0, none⟩ : Addr) 1) 2) fun v60 => asI .i64 v60 fun x61 => 
((nw w53 (.cells #[(.int .i64 x55)] 3) fun r62 w63 => (hd w63 (Addr.add (⟨r37, 0, none⟩ : Addr) 1) (.int .i64 x57) (hd w63 (Addr.add (Addr.add (⟨r37, 0, none⟩ : Addr) 1) 1) (.int .i64 x59) (hd w63 (Addr.add (Addr.add (⟨r37, 0, none⟩ : Addr) 1) 2) (.int .i64 x61) 
((rn Tryd.prog (Builtin.append_ #[23, 23] 23 #[(.slice p10 n11 c12), (.slice (some (⟨r62, 0, none⟩ : Addr)) 1 1)]) w63 fun v64 w65 => asS v64 fun p66 n67 c68 => (hd w65 (Addr.add (⟨r37, 0, none⟩ : Addr) 1) (.int .i64 x57) (hd w65 (Addr.add (Addr.add (⟨r37, 0, none⟩ : Addr) 1) 1) (.int .i64 x59) (hd w65 (Addr.add (Addr.add (⟨r37, 0, none⟩ : Addr) 1) 2) (.int .i64 x61) (nw w65 (.cells #[(.int .i64 x57), (.int .i64 x59), (.int .i64 x61)] 38) fun r69 w70 => (rn Tryd.prog (Builtin.append_ #[92, 92] 92 #[(.slice p13 n14 c15), (.slice (some (⟨r69, 0, none⟩ : Addr)) 1 1)]) w70 fun v71 w72 => asS v71 fun p73 n74 c75 => (J19 [(.slice p66 n67 c68), (.slice p73 n74 c75)] w72))))))) ∧ (nw w63 (.cells #[(.int .i64 x57), (.int .i64 x59), (.int .i64 x61)] 38) fun r76 w77 => (rn Tryd.prog (Builtin.append_ #[23, 23] 23 #[(.slice p10 n11 c12), (.slice (some (⟨r62, 0, none⟩ : Addr)) 1 1)]) w77 fun v78 w79 => asS v78 fun p80 n81 c82 => (rn Tryd.prog (Builtin.append_ #[92, 92] 92 #[(.slice p13 n14 c15), (.slice (some (⟨r76, 0, none⟩ : Addr)) 1 1)]) w79 fun v83 w84 => asS v83 fun p85 n86 c87 => (J19 [(.slice p80 n81 c82), (.slice p85 n86 c87)] w84))))))))) ∧ (nw w53 (.cells #[(.int .i64 x57), (.int .i64 x59), (.int .i64 x61)] 38) fun r88 w89 => (hd w89 (⟨r37, 0, none⟩ : Addr) (.int .i64 x55) (nw w89 (.cells #[(.int .i64 x55)] 3) fun r90 w91 => (rn Tryd.prog (Builtin.append_ #[23, 23] 23 #[(.slice p10 n11 c12), (.slice (some (⟨r90, 0, none⟩ : Addr)) 1 1)]) w91 fun v92 w93 => asS v92 fun p94 n95 c96 => (rn Tryd.prog (Builtin.append_ #[92, 92] 92 #[(.slice p13 n14 c15), (.slice (some (⟨r88, 0, none⟩ : Addr)) 1 1)]) w93 fun v97 w98 => asS v97 fun p99 n100 c101 => (J19 [(.slice p94 n95 c96), (.slice p99 n100 c101)] w98)))))))))))) (J19 [(.slice p10 n11 c12), (.slice p13 n14 c15)] w47))))))))))))))))))))))))))) 
(dw w8 fun w108 => (bnd k 2 (ld w108 (Addr.add (⟨0, 0, none⟩ : Addr) (Int.toNat k * 1)) fun v109 => asN v109 fun k110 fs111 cs112 => (dr e fun a113 => (bnd k 2 (ld w108 (Addr.add (⟨0, 0, none⟩ : Addr) (Int.toNat k * 1)) fun v114 => asN v114 fun k115 fs116 cs117 => (dr e fun a118 => (cond (callOk Tryd.prog k110) (cl Tryd.prog k110 (fs111 ++ #[(.pointer (some (Addr.add a113 1)))] ++ cs112) w108 fun v119 w120 => asP v119 fun p121 => (hd w120 (Addr.add (⟨0, 0, none⟩ : Addr) (Int.toNat k * 1)) (.func (.func k115) fs116 cs117) (cond (callOk Tryd.prog k115) (cl Tryd.prog k115 (fs116 ++ #[(.pointer (some (Addr.add a118 4)))] ++ cs117) w120 fun v122 w123 => asP v122 fun p124 => 
(dw w123 fun w125 => (dr e fun a126 => (ld w125 (Addr.add a126 1) fun v127 => asI .i64 v127 fun x128 => (ld w125 (Addr.add (Addr.add a126 1) 1) fun v129 => asI .i64 v129 fun x130 => (ld w125 (Addr.add (Addr.add a126 1) 2) fun v131 => asI .i64 v131 fun x132 => (dr p124 fun a133 => (ld w125 a133 fun v134 => asI .i64 v134 fun x135 => (cl Tryd.prog 42 #[(.agg #[(.int .i64 x128), (.int .i64 x130), (.int .i64 x132)]), (.int .i64 k), (.int .i64 x135), (.slice p13 n14 c15)] w125 fun v136 w137 => asT 3 v136 fun t138 => asI .i64 (t138 0) fun x139 => asI .i64 (t138 1) fun x140 => asI .i64 (t138 2) fun x141 => (lv x139 fun d_142 => (lv x140 fun by_143 => (lv x141 fun __144 => 
(dr p121 fun a145 => (ld w137 a145 fun v146 => asI .i64 v146 fun x147 => (lv (IntKind.wrap .i64 (x147 + d_142)) fun to_148 => 
(dr p121 fun a149 => (st w137 a149 (.int .i64 (if (if (4398046511104 : Int) < to_148 then (4398046511104 : Int) else to_148) > (-4398046511104 : Int) then (if (4398046511104 : Int) < to_148 then (4398046511104 : Int) else to_148) else (-4398046511104 : Int))) fun w150 => 
(jn (fun s151 w152 => (lv (0 : Int) fun y165 => 
(Q (.int .i64 y165) w152)))
 (fun J153 => (dr p121 fun a154 => (ld w150 a154 fun v155 => asI .i64 v155 fun x156 => 
(cond (x156 != to_148) (dr p124 fun a157 => (st w150 a157 (.int .i64 (0 : Int)) fun w158 => (J153 [] w158))) 
(cond (decide (by_143 ≥ (0 : Int))) (dr p124 fun a159 => (st w150 a159 (.int .i64 (0 : Int)) fun w160 => 
(dr p10 fun a161 => (bnd by_143 n11 (ld w160 (Addr.add a161 (Int.toNat by_143 * 1)) fun v162 => asI .i64 v162 fun x163 => (lv x163 fun y164 => 
(Q (.int .i64 y164) w160))))))) (J153 [] w150)))))))))))))))))))))))) (xt Tryd.prog k115 (fs116 ++ #[(.pointer (some (Addr.add a118 4)))] ++ cs117) w120 fun v122 w123 => asP v122 fun p124 => 
(dw w123 fun w125 => (dr e fun a126 => (ld w125 (Addr.add a126 1) fun v127 => asI .i64 v127 fun x128 => (ld w125 (Addr.add (Addr.add a126 1) 1) fun v129 => asI .i64 v129 fun x130 => (ld w125 (Addr.add (Addr.add a126 1) 2) fun v131 => asI .i64 v131 fun x132 => (dr p124 fun a133 => (ld w125 a133 fun v134 => asI .i64 v134 fun x135 => (cl Tryd.prog 42 #[(.agg #[(.int .i64 x128), (.int .i64 x130), (.int .i64 x132)]), (.int .i64 k), (.int .i64 x135), (.slice p13 n14 c15)] w125 fun v136 w137 => asT 3 v136 fun t138 => asI .i64 (t138 0) fun x139 => asI .i64 (t138 1) fun x140 => asI .i64 (t138 2) fun x141 => (lv x139 fun d_142 => (lv x140 fun by_143 => (lv x141 fun __144 => 
(dr p121 fun a145 => (ld w137 a145 fun v146 => asI .i64 v146 fun x147 => (lv (IntKind.wrap .i64 (x147 + d_142)) fun to_148 => 
(dr p121 fun a149 => (st w137 a149 (.int .i64 (if (if (4398046511104 : Int) < to_148 then (4398046511104 : Int) else to_148) > (-4398046511104 : Int) then (if (4398046511104 : Int) < to_148 then (4398046511104 : Int) else to_148) else (-4398046511104 : Int))) fun w150 => 
(jn (fun s151 w152 => (lv (0 : Int) fun y165 => 
(Q (.int .i64 y165) w152)))
 (fun J153 => (dr p121 fun a154 => (ld w150 a154 fun v155 => asI .i64 v155 fun x156 => 
(cond (x156 != to_148) (dr p124 fun a157 => (st w150 a157 (.int .i64 (0 : Int)) fun w158 => (J153 [] w158))) 
(cond (decide (by_143 ≥ (0 : Int))) (dr p124 fun a159 => (st w150 a159 (.int .i64 (0 : Int)) fun w160 => 
(dr p10 fun a161 => (bnd by_143 n11 (ld w160 (Addr.add a161 (Int.toNat by_143 * 1)) fun v162 => asI .i64 v162 fun x163 => (lv x163 fun y164 => 
(Q (.int .i64 y164) w160))))))) (J153 [] w150))))))))))))))))))))))))))) (xt Tryd.prog k110 (fs111 ++ #[(.pointer (some (Addr.add a113 1)))] ++ cs112) w108 fun v119 w120 => asP v119 fun p121 => (hd w120 (Addr.add (⟨0, 0, none⟩ : Addr) (Int.toNat k * 1)) (.func (.func k115) fs116 cs117) (cond (callOk Tryd.prog k115) (cl Tryd.prog k115 (fs116 ++ #[(.pointer (some (Addr.add a118 4)))] ++ cs117) w120 fun v122 w123 => asP v122 fun p124 => 
(dw w123 fun w125 => (dr e fun a126 => (ld w125 (Addr.add a126 1) fun v127 => asI .i64 v127 fun x128 => (ld w125 (Addr.add (Addr.add a126 1) 1) fun v129 => asI .i64 v129 fun x130 => (ld w125 (Addr.add (Addr.add a126 1) 2) fun v131 => asI .i64 v131 fun x132 => (dr p124 fun a133 => (ld w125 a133 fun v134 => asI .i64 v134 fun x135 => (cl Tryd.prog 42 #[(.agg #[(.int .i64 x128), (.int .i64 x130), (.int .i64 x132)]), (.int .i64 k), (.int .i64 x135), (.slice p13 n14 c15)] w125 fun v136 w137 => asT 3 v136 fun t138 => asI .i64 (t138 0) fun x139 => asI .i64 (t138 1) fun x140 => asI .i64 (t138 2) fun x141 => (lv x139 fun d_142 => (lv x140 fun by_143 => (lv x141 fun __144 => 
(dr p121 fun a145 => (ld w137 a145 fun v146 => asI .i64 v146 fun x147 => (lv (IntKind.wrap .i64 (x147 + d_142)) fun to_148 => 
(dr p121 fun a149 => (st w137 a149 (.int .i64 (if (if (4398046511104 : Int) < to_148 then (4398046511104 : Int) else to_148) > (-4398046511104 : Int) then (if (4398046511104 : Int) < to_148 then (4398046511104 : Int) else to_148) else (-4398046511104 : Int))) fun w150 => 
(jn (fun s151 w152 => (lv (0 : Int) fun y165 => 
(Q (.int .i64 y165) w152)))
 (fun J153 => (dr p121 fun a154 => (ld w150 a154 fun v155 => asI .i64 v155 fun x156 => 
(cond (x156 != to_148) (dr p124 fun a157 => (st w150 a157 (.int .i64 (0 : Int)) fun w158 => (J153 [] w158))) 
(cond (decide (by_143 ≥ (0 : Int))) (dr p124 fun a159 => (st w150 a159 (.int .i64 (0 : Int)) fun w160 => 
(dr p10 fun a161 => (bnd by_143 n11 (ld w160 (Addr.add a161 (Int.toNat by_143 * 1)) fun v162 => asI .i64 v162 fun x163 => (lv x163 fun y164 => 
(Q (.int .i64 y164) w160))))))) (J153 [] w150)))))))))))))))))))))))) (xt Tryd.prog k115 (fs116 ++ #[(.pointer (some (Addr.add a118 4)))] ++ cs117) w120 fun v122 w123 => asP v122 fun p124 => 
(dw w123 fun w125 => (dr e fun a126 => (ld w125 (Addr.add a126 1) fun v127 => asI .i64 v127 fun x128 => (ld w125 (Addr.add (Addr.add a126 1) 1) fun v129 => asI .i64 v129 fun x130 => (ld w125 (Addr.add (Addr.add a126 1) 2) fun v131 => asI .i64 v131 fun x132 => (dr p124 fun a133 => (ld w125 a133 fun v134 => asI .i64 v134 fun x135 => (cl Tryd.prog 42 #[(.agg #[(.int .i64 x128), (.int .i64 x130), (.int .i64 x132)]), (.int .i64 k), (.int .i64 x135), (.slice p13 n14 c15)] w125 fun v136 w137 => asT 3 v136 fun t138 => asI .i64 (t138 0) fun x139 => asI .i64 (t138 1) fun x140 => asI .i64 (t138 2) fun x141 => (lv x139 fun d_142 => (lv x140 fun by_143 => (lv x141 fun __144 => 
(dr p121 fun a145 => (ld w137 a145 fun v146 => asI .i64 v146 fun x147 => (lv (IntKind.wrap .i64 (x147 + d_142)) fun to_148 => 
(dr p121 fun a149 => (st w137 a149 (.int .i64 (if (if (4398046511104 : Int) < to_148 then (4398046511104 : Int) else to_148) > (-4398046511104 : Int) then (if (4398046511104 : Int) < to_148 then (4398046511104 : Int) else to_148) else (-4398046511104 : Int))) fun w150 => 
(jn (fun s151 w152 => (lv (0 : Int) fun y165 => 
(Q (.int .i64 y165) w152)))
 (fun J153 => (dr p121 fun a154 => (ld w150 a154 fun v155 => asI .i64 v155 fun x156 => 
(cond (x156 != to_148) (dr p124 fun a157 => (st w150 a157 (.int .i64 (0 : Int)) fun w158 => (J153 [] w158))) 
(cond (decide (by_143 ≥ (0 : Int))) (dr p124 fun a159 => (st w150 a159 (.int .i64 (0 : Int)) fun w160 => 
(dr p10 fun a161 => (bnd by_143 n11 (ld w160 (Addr.add a161 (Int.toNat by_143 * 1)) fun v162 => asI .i64 v162 fun x163 => (lv x163 fun y164 => 
(Q (.int .i64 y164) w160))))))) (J153 [] w150)))))))))))))))))))))))))))))))))))))))
theorem F27_link (w' : Option Addr) (e : Option Addr) (k : Int) (w : World) (Q : Value → World → Prop) : fnEv Tryd.prog Tryd.f27 h27 [(.pointer w'), (.pointer e), (.int .i64 k)] w Q = F27 w' e k w Q := by kernel_rfl
theorem F27_calls {w' : Option Addr} {e : Option Addr} {k : Int} {w : World} {Q : Value → World → Prop} (hF_ : F27 w' e k w Q) : cl Tryd.prog 27 #[(.pointer w'), (.pointer e), (.int .i64 k)] w Q :=
  calls_of_ev (fn := Tryd.f27) Tryd.func27 h27 (args := [(.pointer w'), (.pointer e), (.int .i64 k)]) (by rw [F27_link]; exact hF_)

/-! slices.Contains[[]int,int] -/
def h28 : Hint := .d
set_option linter.unusedVariables false in
def F28 (s : Option Addr) (s_n s_c : Nat) (v : Int) (w : World) (Q : Value → World → Prop) : Prop :=
 
(cl Tryd.prog 43 #[(.slice s s_n s_c), (.int .i64 v)] w fun v1 w2 => asI .i64 v1 fun x3 => 
(Q (.bool (decide (x3 ≥ (0 : Int)))) w2))
theorem F28_link (s : Option Addr) (s_n s_c : Nat) (v : Int) (w : World) (Q : Value → World → Prop) : fnEv Tryd.prog Tryd.f28 h28 [(.slice s s_n s_c), (.int .i64 v)] w Q = F28 s s_n s_c v w Q := by kernel_rfl
theorem F28_calls {s : Option Addr} {s_n s_c : Nat} {v : Int} {w : World} {Q : Value → World → Prop} (hF_ : F28 s s_n s_c v w Q) : cl Tryd.prog 28 #[(.slice s s_n s_c), (.int .i64 v)] w Q :=
  calls_of_ev (fn := Tryd.f28) Tryd.func28 h28 (args := [(.slice s s_n s_c), (.int .i64 v)]) (by rw [F28_link]; exact hF_)

/-! tiltyard/box.Gap -/
def h29 : Hint := (.s .d (.s (.j [(15, 4)] .d .d) (.s .d (.s (.o (ofL [0, 1, 2, 3, 4, 5, 6] .nil)) .d))))
set_option linter.unusedVariables false in
def F29 (a_0 : Int) (a_1 : Int) (a_2 : Int) (b_0 : Int) (b_1 : Int) (b_2 : Int) (w : World) (Q : Value → World → Prop) : Prop :=
 (nw w (.cells #[(.int .i64 a_0), (.int .i64 a_1), (.int .i64 a_2)] 38) fun r1 w2 => (nw w2 (.cells #[(.int .i64 b_0), (.int .i64 b_1), (.int .i64 b_2)] 38) fun r3 w4 => (lv (0 : Int) fun y5 => (lv (0 : Int) fun y6 => (lv (0 : Int) fun y7 => 
(jn (fun s8 w9 => asB (s8.getD 0 undef) fun b29 => (cond b29 (lv (0 : Int) fun y30 => (lv (0 : Int) fun y31 => (lv (60 : Int) fun y32 => 
(Q (.tuple #[(.int .i64 y30), (.int .i64 y31), (.int .i64 y32)]) w9)))) 
(ld w9 (⟨r1, 0, none⟩ : Addr) fun v33 => asI .i64 v33 fun x34 => (ld w9 (Addr.add (⟨r1, 0, none⟩ : Addr) 1) fun v35 => asI .i64 v35 fun x36 => (ld w9 (Addr.add (⟨r1, 0, none⟩ : Addr) 2) fun v37 => asI .i64 v37 fun x38 => (ld w9 (⟨r3, 0, none⟩ : Addr) fun v39 => asI .i64 v39 fun x40 => (ld w9 (Addr.add (⟨r3, 0, none⟩ : Addr) 1) fun v41 => asI .i64 v41 fun x42 => (ld w9 (Addr.add (⟨r3, 0, none⟩ : Addr) 2) fun v43 => asI .i64 v43 fun x44 => (cl Tryd.prog 44 #[(.agg #[(.int .i64 x34), (.int .i64 x36), (.int .i64 x38)]), (.agg #[(.int .i64 x40), (.int .i64 x42), (.int .i64 x44)])] w9 fun v45 w46 => asA 2 v45 fun a47 => asI .i64 (a47 0) fun x48 => asI .i64 (a47 1) fun x49 => (nw w46 (.cells #[(.int .i64 (0 : Int)), (.int .i64 (0 : Int))] 97) fun r50 w51 => (st w51 (⟨r50, 0, none⟩ : Addr) (.int .i64 x48) fun w52 => (st w52 (Addr.add (⟨r50, 0, none⟩ : Addr) 1) (.int .i64 x49) fun w53 => 
(dw w53 fun w54 => (ld w54 (⟨r50, 0, none⟩ : Addr) fun v55 => asI .i64 v55 fun x56 => (ld w54 (Addr.add (⟨r50, 0, none⟩ : Addr) 1) fun v57 => asI .i64 v57 fun x58 => (lv x56 fun y59 => (lv x58 fun y60 => (lv (0 : Int) fun y61 => 
(Q (.tuple #[(.int .i64 y59), (.int .i64 y60), (.int .i64 y61)]) w54)))))))))))))))))))
 (fun J10 => (ld w4 (⟨r1, 0, none⟩ : Addr) fun v11 => asI .i64 v11 fun x12 => (ld w4 (Addr.add (⟨r1, 0, none⟩ : Addr) 1) fun v13 => asI .i64 v13 fun x14 => (ld w4 (Addr.add (⟨r1, 0, none⟩ : Addr) 2) fun v15 => asI .i64 v15 fun x16 => (cl Tryd.prog 31 #[(.agg #[(.int .i64 x12), (.int .i64 x14), (.int .i64 x16)])] w4 fun v17 w18 => asI .i64 v17 fun x19 => (cond (x19 != (0 : Int)) (J10 [(.bool true)] w18) (ld w18 (⟨r3, 0, none⟩ : Addr) fun v20 => asI .i64 v20 fun x21 => (ld w18 (Addr.add (⟨r3, 0, none⟩ : Addr) 1) fun v22 => asI .i64 v22 fun x23 => (ld w18 (Addr.add (⟨r3, 0, none⟩ : Addr) 2) fun v24 => asI .i64 v24 fun x25 => (cl Tryd.prog 31 #[(.agg #[(.int .i64 x21), (.int .i64 x23), (.int .i64 x25)])] w18 fun v26 w27 => asI .i64 v26 fun x28 => (J10 [(.bool (x28 != (0 : Int)))] w27)))))))))))))))))
theorem F29_link (a_0 : Int) (a_1 : Int) (a_2 : Int) (b_0 : Int) (b_1 : Int) (b_2 : Int) (w : World) (Q : Value → World → Prop) : fnEv Tryd.prog Tryd.f29 h29 [(.agg #[(.int .i64 a_0), (.int .i64 a_1), (.int .i64 a_2)]), (.agg #[(.int .i64 b_0), (.int .i64 b_1), (.int .i64 b_2)])] w Q = F29 a_0 a_1 a_2 b_0 b_1 b_2 w Q := by kernel_rfl
theorem F29_calls {a_0 : Int} {a_1 : Int} {a_2 : Int} {b_0 : Int} {b_1 : Int} {b_2 : Int} {w : World} {Q : Value → World → Prop} (hF_ : F29 a_0 a_1 a_2 b_0 b_1 b_2 w Q) : cl Tryd.prog 29 #[(.agg #[(.int .i64 a_0), (.int .i64 a_1), (.int .i64 a_2)]), (.agg #[(.int .i64 b_0), (.int .i64 b_1), (.int .i64 b_2)])] w Q :=
  calls_of_ev (fn := Tryd.f29) Tryd.func29 h29 (args := [(.agg #[(.int .i64 a_0), (.int .i64 a_1), (.int .i64 a_2)]), (.agg #[(.int .i64 b_0), (.int .i64 b_1), (.int .i64 b_2)])]) (by rw [F29_link]; exact hF_)

/-! (*tiltyard/world.World).at -/
def h30 : Hint := (.s .d (.s .d (.s (.s .d (.j [(26, 4)] .d .d)) .d)))
set_option linter.unusedVariables false in
def F30 (w' : Option Addr) (h : Int) (w : World) (Q : Value → World → Prop) : Prop :=
 

(cond (decide (h < (64 : Int))) 
(Q (.pointer none) w) 
(dr w' fun a1 => (bnd (Int.tmod h (64 : Int)) 64 
(jn (fun s2 w3 => asB (s2.getD 0 undef) fun b9 => (cond b9 
(Q (.pointer (some (Addr.add (Addr.add a1 1) (Int.toNat (Int.tmod h (64 : Int)) * 10)))) w3) 

(Q (.pointer none) w3)))
 (fun J4 => (ld w (Addr.add (Addr.add (Addr.add a1 1) (Int.toNat (Int.tmod h (64 : Int)) * 10)) 1) fun v5 => asB v5 fun b6 => (cond b6 (ld w (Addr.add (Addr.add (Addr.add a1 1) (Int.toNat (Int.tmod h (64 : Int)) * 10)) 2) fun v7 => asI .i64 v7 fun x8 => (J4 [(.bool (x8 == h))] w)) (J4 [(.bool false)] w))))))))
theorem F30_link (w' : Option Addr) (h : Int) (w : World) (Q : Value → World → Prop) : fnEv Tryd.prog Tryd.f30 h30 [(.pointer w'), (.int .i64 h)] w Q = F30 w' h w Q := by kernel_rfl
theorem F30_calls {w' : Option Addr} {h : Int} {w : World} {Q : Value → World → Prop} (hF_ : F30 w' h w Q) : cl Tryd.prog 30 #[(.pointer w'), (.int .i64 h)] w Q :=
  calls_of_ev (fn := Tryd.f30) Tryd.func30 h30 (args := [(.pointer w'), (.int .i64 h)]) (by rw [F30_link]; exact hF_)

/-! tiltyard/box.Right -/
def h31 : Hint := (.s .d (.s (.j [(24, 4)] .d .d) .d))
set_option linter.unusedVariables false in
def F31 (b_0 : Int) (b_1 : Int) (b_2 : Int) (w : World) (Q : Value → World → Prop) : Prop :=
 (nw w (.cells #[(.int .i64 b_0), (.int .i64 b_1), (.int .i64 b_2)] 38) fun r1 w2 => (lv (0 : Int) fun y3 => 
(jn (fun s4 w5 => asB (s4.getD 0 undef) fun b21 => (cond b21 (lv (60 : Int) fun y22 => 
(Q (.int .i64 y22) w5)) 
(lv (0 : Int) fun y23 => 
(Q (.int .i64 y23) w5))))
 (fun J6 => (ld w2 (⟨r1, 0, none⟩ : Addr) fun v7 => asI .i64 v7 fun x8 => (cl Tryd.prog 45 #[(.int .i64 x8)] w2 fun v9 w10 => asB v9 fun b11 => (cond (!b11) (J6 [(.bool true)] w10) (ld w10 (Addr.add (⟨r1, 0, none⟩ : Addr) 1) fun v12 => asI .i64 v12 fun x13 => (cl Tryd.prog 45 #[(.int .i64 x13)] w10 fun v14 w15 => asB v14 fun b16 => (cond (!b16) (J6 [(.bool true)] w15) (ld w15 (Addr.add (⟨r1, 0, none⟩ : Addr) 2) fun v17 => asI .i64 v17 fun x18 => (cond (decide (x18 < (1 : Int))) (J6 [(.bool true)] w15) (ld w15 (Addr.add (⟨r1, 0, none⟩ : Addr) 2) fun v19 => asI .i64 v19 fun x20 => (J6 [(.bool (decide (x20 > (1099511627776 : Int))))] w15))))))))))))))
theorem F31_link (b_0 : Int) (b_1 : Int) (b_2 : Int) (w : World) (Q : Value → World → Prop) : fnEv Tryd.prog Tryd.f31 h31 [(.agg #[(.int .i64 b_0), (.int .i64 b_1), (.int .i64 b_2)])] w Q = F31 b_0 b_1 b_2 w Q := by kernel_rfl
theorem F31_calls {b_0 : Int} {b_1 : Int} {b_2 : Int} {w : World} {Q : Value → World → Prop} (hF_ : F31 b_0 b_1 b_2 w Q) : cl Tryd.prog 31 #[(.agg #[(.int .i64 b_0), (.int .i64 b_1), (.int .i64 b_2)])] w Q :=
  calls_of_ev (fn := Tryd.f31) Tryd.func31 h31 (args := [(.agg #[(.int .i64 b_0), (.int .i64 b_1), (.int .i64 b_2)])]) (by rw [F31_link]; exact hF_)

/-! (*tiltyard/grid.Grid).Near -/
def h32 : Hint := (.s .d (.s (.o (ofL [0, 1, 2, 3, 4, 5, 6, 7, 8, 9, 10] .nil)) (.s .d (.s .d (.s (.s .d (.l [(30, 3)] (.s .d (.s .d (.s (.s .d (.s .d (.l [(41, 3)] (.s .d (.s .d (.j [] (.s .d (.s (.o (ofL [0, 1, 2, 3, 4, 5, 6, 7, 8, 9, 10, 11, 12] .nil)) .d)) .d)))))) .d))))) .d)))))
set_option linter.unusedVariables false in
def F32 (g : Option Addr) (b_0 : Int) (b_1 : Int) (b_2 : Int) (w : World) (Q : Value → World → Prop) : Prop :=
 (nw w (.cells #[(.int .i64 b_0), (.int .i64 b_1), (.int .i64 b_2)] 38) fun r1 w2 => (lv (0 : Int) fun y3 => 
(dw w2 fun w4 => (dr g fun a5 => (ld w4 a5 fun v6 => asI .i64 v6 fun x7 => (ld w4 (⟨r1, 0, none⟩ : Addr) fun v8 => asI .i64 v8 fun x9 => (ld w4 (Addr.add (⟨r1, 0, none⟩ : Addr) 1) fun v10 => asI .i64 v10 fun x11 => (ld w4 (Addr.add (⟨r1, 0, none⟩ : Addr) 2) fun v12 => asI .i64 v12 fun x13 => (cl Tryd.prog 46 #[(.int .i64 x7), (.agg #[(.int .i64 x9), (.int .i64 x11), (.int .i64 x13)])] w4 fun v14 w15 => asT 2 v14 fun t16 => asS (t16 0) fun p17 n18 c19 => asI .i64 (t16 1) fun x20 => (lv x20 fun e_21 => 

(cond (e_21 != (0 : Int)) (lv e_21 fun y22 => 
(Q (.tuple #[(.slice none 0 0), (.int .i64 y22)]) w15)) 
(rn Tryd.prog (Instr.makeMap 106 none) w15 fun v23 w24 => asM v23 fun r25 => 

(lp [(.int .i64 (0 : Int))] w24 fun J28 s26 w27 => asI .i64 (s26.getD 0 undef) fun x29 => 
(cond (decide (x29 < (n18 : Int))) 
(dr p17 fun a30 => (bnd x29 n18 (ld w27 (Addr.add a30 (Int.toNat x29 * 1)) fun v31 => asC .f64 v31 fun f32 g33 => 
(dr g fun a34 => (ld w27 (Addr.add a34 2) fun v35 => asM v35 fun r36 => (rq Tryd.prog (Instr.lookup 103 (.map r36) (.complex .f64 f32 g33) false) w27 fun v37 => asS v37 fun p38 n39 c40 => 
(lp [(.int .i64 (0 : Int))] w27 fun J43 s41 w42 => asI .i64 (s41.getD 0 undef) fun x44 => 
(cond (decide (x44 < (n39 : Int))) 
(jn (fun s45 w46 => (J43 [(.int .i64 (IntKind.wrap .i64 (x44 + (1 : Int))))] w46))
 (fun J47 => (dr p38 fun a48 => (bnd x44 n39 (ld w42 (Addr.add a48 (Int.toNat x44 * 1)) fun v49 => asI .i64 v49 fun x50 => (lv x50 fun id_51 => 
(dw w42 fun w52 => (dr g fun a53 => (ld w52 (Addr.add a53 1) fun v54 => asM v54 fun r55 => (rq Tryd.prog (Instr.lookup 102 (.map r55) (.int .i64 id_51) false) w52 fun v56 => asA 3 v56 fun a57 => asI .i64 (a57 0) fun x58 => asI .i64 (a57 1) fun x59 => asI .i64 (a57 2) fun x60 => (ld w52 (⟨r1, 0, none⟩ : Addr) fun v61 => asI .i64 v61 fun x62 => (ld w52 (Addr.add (⟨r1, 0, none⟩ : Addr) 1) fun v63 => asI .i64 v63 fun x64 => (ld w52 (Addr.add (⟨r1, 0, none⟩ : Addr) 2) fun v65 => asI .i64 v65 fun x66 => (cl Tryd.prog 12 #[(.agg #[(.int .i64 x58), (.int .i64 x59), (.int .i64 x60)]), (.agg #[(.int .i64 x62), (.int .i64 x64), (.int .i64 x66)])] w52 fun v67 w68 => asT 2 v67 fun t69 => asB (t69 0) fun b70 => asI .i64 (t69 1) fun x71 => (hd w68 (Addr.add a53 1) (.map r55) (lv x71 fun __72 => 

(cond b70 (ru Tryd.prog (Instr.mapUpdate 106 (.map r25) (.int .i64 id_51) (.bool true)) w68 fun w73 => (J47 [] w73)) (J47 [] w68)))))))))))))))))) 
(J28 [(.int .i64 (IntKind.wrap .i64 (x29 + (1 : Int))))] w42))))))))) 
(cl Tryd.prog 48 #[(.map r25)] w27 fun v74 w75 => asN v74 fun k76 fs77 cs78 => (cl Tryd.prog 47 #[(.func (.func k76) fs77 cs78)] w75 fun v79 w80 => asS v79 fun p81 n82 c83 => (lv (0 : Int) fun y84 => 
(Q (.tuple #[(.slice p81 n82 c83), (.int .i64 y84)]) w80))))))))))))))))))
theorem F32_link (g : Option Addr) (b_0 : Int) (b_1 : Int) (b_2 : Int) (w : World) (Q : Value → World → Prop) : fnEv Tryd.prog Tryd.f32 h32 [(.pointer g), (.agg #[(.int .i64 b_0), (.int .i64 b_1), (.int .i64 b_2)])] w Q = F32 g b_0 b_1 b_2 w Q := by kernel_rfl
theorem F32_calls {g : Option Addr} {b_0 : Int} {b_1 : Int} {b_2 : Int} {w : World} {Q : Value → World → Prop} (hF_ : F32 g b_0 b_1 b_2 w Q) : cl Tryd.prog 32 #[(.pointer g), (.agg #[(.int .i64 b_0), (.int .i64 b_1), (.int .i64 b_2)])] w Q :=
  calls_of_ev (fn := Tryd.f32) Tryd.func32 h32 (args := [(.pointer g), (.agg #[(.int .i64 b_0), (.int .i64 b_1), (.int .i64 b_2)])]) (by rw [F32_link]; exact hF_)

/-! slices.ContainsFunc[[]int,int] -/
def h33 : Hint := .d
set_option linter.unusedVariables false in
def F33 (s : Option Addr) (s_n s_c : Nat) (f : Nat) (f_fs f_cs : Array Value) (w : World) (Q : Value → World → Prop) : Prop :=
 
(cl Tryd.prog 49 #[(.slice s s_n s_c), (.func (.func f) f_fs f_cs)] w fun v1 w2 => asI .i64 v1 fun x3 => 
(Q (.bool (decide (x3 ≥ (0 : Int)))) w2))
theorem F33_link (s : Option Addr) (s_n s_c : Nat) (f : Nat) (f_fs f_cs : Array Value) (w : World) (Q : Value → World → Prop) : fnEv Tryd.prog Tryd.f33 h33 [(.slice s s_n s_c), (.func (.func f) f_fs f_cs)] w Q = F33 s s_n s_c f f_fs f_cs w Q := by kernel_rfl
theorem F33_calls {s : Option Addr} {s_n s_c : Nat} {f : Nat} {f_fs f_cs : Array Value} {w : World} {Q : Value → World → Prop} (hF_ : F33 s s_n s_c f f_fs f_cs w Q) : cl Tryd.prog 33 #[(.slice s s_n s_c), (.func (.func f) f_fs f_cs)] w Q :=
  calls_of_ev (fn := Tryd.f33) Tryd.func33 h33 (args := [(.slice s s_n s_c), (.func (.func f) f_fs f_cs)]) (by rw [F33_link]; exact hF_)

/-! tiltyard/physics.Free$1 -/
def h34 : Hint := .d
set_option linter.unusedVariables false in
def F34 (h : Int) (free0_p : Option Addr) (w : World) (Q : Value → World → Prop) : Prop :=
 
(dr free0_p fun a1 => (ld w a1 fun v2 => asI .i64 v2 fun x3 => 
(Q (.bool (h != x3)) w)))
theorem F34_link (h : Int) (free0_p : Option Addr) (w : World) (Q : Value → World → Prop) : fnEv Tryd.prog Tryd.f34 h34 [(.int .i64 h), (.pointer free0_p)] w Q = F34 h free0_p w Q := by kernel_rfl
theorem F34_calls {h : Int} {free0_p : Option Addr} {w : World} {Q : Value → World → Prop} (hF_ : F34 h free0_p w Q) : cl Tryd.prog 34 #[(.int .i64 h), (.pointer free0_p)] w Q :=
  calls_of_ev (fn := Tryd.f34) Tryd.func34 h34 (args := [(.int .i64 h), (.pointer free0_p)]) (by rw [F34_link]; exact hF_)

/-! (*tiltyard/grid.Grid).Put -/
def h35 : Hint := (.s .d (.s .d (.s .d (.s (.o (ofL [0, 1, 2, 3, 4, 5, 6, 7, 8, 9, 10] .nil)) .d))))
set_option linter.unusedVariables false in
def F35 (g : Option Addr) (id : Int) (b_0 : Int) (b_1 : Int) (b_2 : Int) (w : World) (Q : Value → World → Prop) : Prop :=
 (nw w (.cells #[(.int .i64 b_0), (.int .i64 b_1), (.int .i64 b_2)] 38) fun r1 w2 => (lv (0 : Int) fun y3 => 

(cond (decide (id < (0 : Int))) (lv (1 : Int) fun y4 => 
(Q (.int .i64 y4) w2)) 
(dr g fun a5 => (ld w2 (Addr.add a5 1) fun v6 => asM v6 fun r7 => (rq Tryd.prog (Instr.lookup 102 (.map r7) (.int .i64 id) true) w2 fun v8 => asT 2 v8 fun t9 => asA 3 (t9 0) fun a10 => asI .i64 (a10 0) fun x11 => asI .i64 (a10 1) fun x12 => asI .i64 (a10 2) fun x13 => asB (t9 1) fun b14 => (nw w2 (.cells #[(.int .i64 (0 : Int)), (.int .i64 (0 : Int)), (.int .i64 (0 : Int))] 38) fun r15 w16 => (st w16 (⟨r15, 0, none⟩ : Addr) (.int .i64 x11) fun w17 => (st w17 (Addr.add (⟨r15, 0, none⟩ : Addr) 1) (.int .i64 x12) fun w18 => (st w18 (Addr.add (⟨r15, 0, none⟩ : Addr) 2) (.int .i64 x13) fun w19 => 

(cond b14 (lv (180 : Int) fun y20 => 
(Q (.int .i64 y20) w19)) 
(dw w19 fun w21 => (dr g fun a22 => (ld w21 a22 fun v23 => asI .i64 v23 fun x24 => (ld w21 (⟨r1, 0, none⟩ : Addr) fun v25 => asI .i64 v25 fun x26 => (ld w21 (Addr.add (⟨r1, 0, none⟩ : Addr) 1) fun v27 => asI .i64 v27 fun x28 => (ld w21 (Addr.add (⟨r1, 0, none⟩ : Addr) 2) fun v29 => asI .i64 v29 fun x30 => (cl Tryd.prog 46 #[(.int .i64 x24), (.agg #[(.int .i64 x26), (.int .i64 x28), (.int .i64 x30)])] w21 fun v31 w32 => asT 2 v31 fun t33 => asS (t33 0) fun p34 n35 c36 => asI .i64 (t33 1) fun x37 => (lv x37 fun e_38 => 

(cond (e_38 != (0 : Int)) (lv e_38 fun y39 => 
(Q (.int .i64 y39) w32)) 
(ld w32 (⟨r1, 0, none⟩ : Addr) fun v40 => asI .i64 v40 fun x41 => (ld w32 (Addr.add (⟨r1, 0, none⟩ : Addr) 1) fun v42 => asI .i64 v42 fun x43 => (ld w32 (Addr.add (⟨r1, 0, none⟩ : Addr) 2) fun v44 => asI .i64 v44 fun x45 => (cl Tryd.prog 50 #[(.pointer g), (.int .i64 id), (.agg #[(.int .i64 x41), (.int .i64 x43), (.int .i64 x45)]), (.slice p34 n35 c36)] w32 fun v46 w47 => 
(lv (0 : Int) fun y48 => 
(Q (.int .i64 y48) w47))))))))))))))))))))))))))
theorem F35_link (g : Option Addr) (id : Int) (b_0 : Int) (b_1 : Int) (b_2 : Int) (w : World) (Q : Value → World → Prop) : fnEv Tryd.prog Tryd.f35 h35 [(.pointer g), (.int .i64 id), (.agg #[(.int .i64 b_0), (.int .i64 b_1), (.int .i64 b_2)])] w Q = F35 g id b_0 b_1 b_2 w Q := by kernel_rfl
theorem F35_calls {g : Option Addr} {id : Int} {b_0 : Int} {b_1 : Int} {b_2 : Int} {w : World} {Q : Value → World → Prop} (hF_ : F35 g id b_0 b_1 b_2 w Q) : cl Tryd.prog 35 #[(.pointer g), (.int .i64 id), (.agg #[(.int .i64 b_0), (.int .i64 b_1), (.int .i64 b_2)])] w Q :=
  calls_of_ev (fn := Tryd.f35) Tryd.func35 h35 (args := [(.pointer g), (.int .i64 id), (.agg #[(.int .i64 b_0), (.int .i64 b_1), (.int .i64 b_2)])]) (by rw [F35_link]; exact hF_)

/-! tiltyard/grid.New -/
def h36 : Hint := .d
set_option linter.unusedVariables false in
def F36 (s : Int) (w : World) (Q : Value → World → Prop) : Prop :=
 (lv (0 : Int) fun y1 => 
(cl Tryd.prog 51 #[(.int .i64 s)] w fun v2 w3 => asB v2 fun b4 => 
(cond (!b4) (lv (1 : Int) fun y5 => 
(Q (.tuple #[(.pointer none), (.int .i64 y5)]) w3)) 
(rn Tryd.prog (Instr.makeMap 102 none) w3 fun v6 w7 => asM v6 fun r8 => (rn Tryd.prog (Instr.makeMap 103 none) w7 fun v9 w10 => asM v9 fun r11 => (nw w10 (.cells #[(.int .i64 s), (.map r8), (.map r11)] 105) fun r12 w13 => (lv (0 : Int) fun y14 => 
(Q (.tuple #[(.pointer (some (⟨r12, 0, none⟩ : Addr))), (.int .i64 y14)]) w13))))))))
theorem F36_link (s : Int) (w : World) (Q : Value → World → Prop) : fnEv Tryd.prog Tryd.f36 h36 [(.int .i64 s)] w Q = F36 s w Q := by kernel_rfl
theorem F36_calls {s : Int} {w : World} {Q : Value → World → Prop} (hF_ : F36 s w Q) : cl Tryd.prog 36 #[(.int .i64 s)] w Q :=
  calls_of_ev (fn := Tryd.f36) Tryd.func36 h36 (args := [(.int .i64 s)]) (by rw [F36_link]; exact hF_)

/-! tiltyard/world.Right -/
def h37 : Hint := (.s .d (.s (.j [(3, 15), (4, 15)] (.o (ofL [0, 1, 2, 3, 4] (.alt (ofL [5, 6, 7, 8] .nil) (ofL [6, 5, 7, 8] .nil)))) (.j [(10, 4)] .d (.s .d (.j [(27, 4)] .d .d)))) .d))
set_option linter.unusedVariables false in
def F37 (e_0 : Int) (e_1 : Int) (e_2 : Int) (e_3 : Int) (e_4 : Int) (e_5 : Int) (e_6 : Int) (e_7 : Int) (w : World) (Q : Value → World → Prop) : Prop :=
 (nw w (.cells #[(.int .i64 e_0), (.int .i64 e_1), (.int .i64 e_2), (.int .i64 e_3), (.int .i64 e_4), (.int .i64 e_5), (.int .i64 e_6), (.int .i64 e_7)] 40) fun r1 w2 => (lv (0 : Int) fun y3 => 
(jn (fun s4 w5 => asP (s4.getD 0 undef) fun p32 => asP (s4.getD 1 undef) fun p33 => (jn (fun s34 w35 => asB (s34.getD 0 undef) fun b53 => (cond b53 (lv (60 : Int) fun y54 => 
(Q (.int .i64 y54) w35)) (jn (fun s55 w56 => asB (s55.getD 0 undef) fun b74 => (cond b74 (lv (1 : Int) fun y75 => 
(Q (.int .i64 y75) w56)) 
(lv (0 : Int) fun y76 => 
(Q (.int .i64 y76) w56))))
 (fun J57 => (dr p33 fun a58 => (ld w35 a58 fun v59 => asI .i64 v59 fun x60 => (cl Tryd.prog 52 #[(.int .i64 x60), (.int .i64 (17179869184 : Int))] w35 fun v61 w62 => asB v61 fun b63 => 
(cond (!b63) (J57 [(.bool (!b63))] w62) (dr p33 fun a64 => (ld w62 (Addr.add a64 1) fun v65 => asI .i64 v65 fun x66 => (cl Tryd.prog 52 #[(.int .i64 x66), (.int .i64 (17179869184 : Int))] w62 fun v67 w68 => asB v67 fun b69 => 
(cond (!b69) (J57 [(.bool (!b69))] w68) (ld w68 (Addr.add (⟨r1, 0, none⟩ : Addr) 6) fun v70 => asI .i64 v70 fun x71 => 
(cond (decide (x71 < (0 : Int))) (J57 [(.bool (decide (x71 < (0 : Int))))] w68) (ld w68 (Addr.add (⟨r1, 0, none⟩ : Addr) 6) fun v72 => asI .i64 v72 fun x73 => (J57 [(.bool (decide (x73 > (8 : Int))))] w68))))))))))))))))
 (fun J36 => (dr p32 fun a37 => (ld w5 a37 fun v38 => asI .i64 v38 fun x39 => (cl Tryd.prog 52 #[(.int .i64 x39), (.int .i64 (4398046511104 : Int))] w5 fun v40 w41 => asB v40 fun b42 => 
(cond (!b42) (J36 [(.bool (!b42))] w41) (dr p32 fun a43 => (ld w41 (Addr.add a43 1) fun v44 => asI .i64 v44 fun x45 => (cl Tryd.prog 52 #[(.int .i64 x45), (.int .i64 (4398046511104 : Int))] w41 fun v46 w47 => asB v46 fun b48 => 
(cond (!b48) (J36 [(.bool (!b48))] w47) (ld w47 (Addr.add (Addr.add (⟨r1, 0, none⟩ : Addr) 1) 2) fun v49 => asI .i64 v49 fun x50 => 
(cond (decide (x50 < (1 : Int))) (J36 [(.bool (decide (x50 < (1 : Int))))] w47) (ld w47 (Addr.add (Addr.add (⟨r1, 0, none⟩ : Addr) 1) 2) fun v51 => asI .i64 v51 fun x52 => (J36 [(.bool (decide (x52 > (17179869184 : Int))))] w47)))))))))))))))
 (fun J6 => (dw w2 fun w7 => (ld w7 (Addr.add (⟨r1, 0, none⟩ : Addr) 1) fun v8 => asI .i64 v8 fun x9 => (ld w7 (Addr.add (Addr.add (⟨r1, 0, none⟩ : Addr) 1) 1) fun v10 => asI .i64 v10 fun x11 => (ld w7 (Addr.add (⟨r1, 0, none⟩ : Addr) 4) fun v12 => asI .i64 v12 fun x13 => (ld w7 (Addr.add (Addr.add (⟨r1, 0, none⟩ : Addr) 4) 1) fun v14 => asI .i64 v14 fun x15 => 
((nw w7 (.cells #[(.int .i64 (0 : Int)), (.int .i64 (0 : Int))] 36) fun r16 w17 => (hd w17 (Addr.add (⟨r1, 0, none⟩ : Addr) 4) (.int .i64 x13) (hd w17 (Addr.add (Addr.add (⟨r1, 0, none⟩ : Addr) 4) 1) (.int .i64 x15) (hd w17 (Addr.add (⟨r1, 0, none⟩ : Addr) 1) (.int .i64 x9) (hd w17 (Addr.add (Addr.add (⟨r1, 0, none⟩ : Addr) 1) 1) (.int .i64 x11) (nw w17 (.cells #[(.int .i64 (0 : Int)), (.int .i64 (0 : Int))] 36) fun r18 w19 => (hd w19 (Addr.add (⟨r1, 0, none⟩ : Addr) 4) (.int .i64 x13) (hd w19 (Addr.add (Addr.add (⟨r1, 0, none⟩ : Addr) 4) 1) (.int .i64 x15) (hd w19 (Addr.add (⟨r1, 0, none⟩ : Addr) 1) (.int .i64 x9) (hd w19 (Addr.add (Addr.add (⟨r1, 0, none⟩ : Addr) 1) 1) (.int .i64 x11) (st w19 (⟨r16, 0, none⟩ : Addr) (.int .i64 x9) fun w20 => (st w20 (Addr.add (⟨r16, 0, none⟩ : Addr) 1) (.int .i64 x11) fun w21 => (hd w21 (Addr.add (⟨r1, 0, none⟩ : Addr) 4) (.int .i64 x13) (hd w21 (Addr.add (Addr.add (⟨r1, 0, none⟩ : Addr) 4) 1) (.int .i64 x15) (st w21 (⟨r18, 0, none⟩ : Addr) (.int .i64 x13) fun w22 => (st w22 (Addr.add (⟨r18, 0, none⟩ : Addr) 1) (.int .i64 x15) fun w23 => (J6 [(.pointer (some (⟨r16, 0, none⟩ : Addr))), (.pointer (some (⟨r18, 0, none⟩ : Addr)))] w23))))))))))))))))) ∧ (nw w7 (.cells #[(.int .i64 (0 : Int)), (.int .i64 (0 : Int))] 36) fun r24 w25 => (hd w25 (Addr.add (⟨r1, 0, none⟩ : Addr) 4) (.int .i64 x13) (hd w25 (Addr.add (Addr.add (⟨r1, 0, none⟩ : Addr) 4) 1) (.int .i64 x15) (hd w25 (Addr.add (⟨r1, 0, none⟩ : Addr) 1) (.int .i64 x9) (hd w25 (Addr.add (Addr.add (⟨r1, 0, none⟩ : Addr) 1) 1) (.int .i64 x11) (nw w25 (.cells #[(.int .i64 (0 : Int)), (.int .i64 (0 : Int))] 36) fun r26 w27 => (hd w27 (Addr.add (⟨r1, 0, none⟩ : Addr) 4) (.int .i64 x13) (hd w27 (Addr.add (Addr.add (⟨r1, 0, none⟩ : Addr) 4) 1) (.int .i64 x15) (hd w27 (Addr.add (⟨r1, 0, none⟩ : Addr) 1) (.int .i64 x9) (hd w27 (Addr.add (Addr.add (⟨r1, 0, none⟩ : Addr) 1) 1) (.int .i64 x11) (st w27 (⟨r26, 0, none⟩ : Addr) (.int .i64 x9) fun w28 => (st w28 (Addr.add (⟨r26, 0, none⟩ : Addr) 1) (.int .i64 x11) fun w29 => (hd w29 (Addr.add (⟨r1, 0, none⟩ : Addr) 4) (.int .i64 x13) (hd w29 (Addr.add (Addr.add (⟨r1, 0, none⟩ : Addr) 4) 1) (.int .i64 x15) (st w29 (⟨r24, 0, none⟩ : Addr) (.int .i64 x13) fun w30 => (st w30 (Addr.add (⟨r24, 0, none⟩ : Addr) 1) (.int .i64 x15) fun w31 => (J6 [(.pointer (some (⟨r26, 0, none⟩ : Addr))), (.pointer (some (⟨r24, 0, none⟩ : Addr)))] w31)))))))))))))))))))))))))))
theorem F37_link (e_0 : Int) (e_1 : Int) (e_2 : Int) (e_3 : Int) (e_4 : Int) (e_5 : Int) (e_6 : Int) (e_7 : Int) (w : World) (Q : Value → World → Prop) : fnEv Tryd.prog Tryd.f37 h37 [(.agg #[(.int .i64 e_0), (.int .i64 e_1), (.int .i64 e_2), (.int .i64 e_3), (.int .i64 e_4), (.int .i64 e_5), (.int .i64 e_6), (.int .i64 e_7)])] w Q = F37 e_0 e_1 e_2 e_3 e_4 e_5 e_6 e_7 w Q := by kernel_rfl
theorem F37_calls {e_0 : Int} {e_1 : Int} {e_2 : Int} {e_3 : Int} {e_4 : Int} {e_5 : Int} {e_6 : Int} {e_7 : Int} {w : World} {Q : Value → World → Prop} (hF_ : F37 e_0 e_1 e_2 e_3 e_4 e_5 e_6 e_7 w Q) : cl Tryd.prog 37 #[(.agg #[(.int .i64 e_0), (.int .i64 e_1), (.int .i64 e_2), (.int .i64 e_3), (.int .i64 e_4), (.int .i64 e_5), (.int .i64 e_6), (.int .i64 e_7)])] w Q :=
  calls_of_ev (fn := Tryd.f37) Tryd.func37 h37 (args := [(.agg #[(.int .i64 e_0), (.int .i64 e_1), (.int .i64 e_2), (.int .i64 e_3), (.int .i64 e_4), (.int .i64 e_5), (.int .i64 e_6), (.int .i64 e_7)])]) (by rw [F37_link]; exact hF_)

/-! tiltyard/tiltyardref19.Right -/
def h38 : Hint := (.s .d (.s .d (.s .d (.s (.j [(32, 4)] .d .d) (.s .d (.s .d (.s (.j [(56, 4)] .d .d) .d)))))))
set_option linter.unusedVariables false in
def F38 (e_0 : Int) (e_1 : Int) (e_2 : Int) (e_3 : Int) (e_4 : Int) (e_5 : Int) (e_6 : Int) (e_7 : Int) (w : World) (Q : Value → World → Prop) : Prop :=
 (nw w (.cells #[(.int .i64 e_0), (.int .i64 e_1), (.int .i64 e_2), (.int .i64 e_3), (.int .i64 e_4), (.int .i64 e_5), (.int .i64 e_6), (.int .i64 e_7)] 40) fun r1 w2 => (lv (0 : Int) fun y3 => 
(ld w2 (Addr.add (⟨r1, 0, none⟩ : Addr) 1) fun v4 => asI .i64 v4 fun x5 => (cl Tryd.prog 53 #[(.int .i64 x5), (.int .i64 (4398046511104 : Int))] w2 fun v6 w7 => asB v6 fun b8 => 
(ld w7 (Addr.add (Addr.add (⟨r1, 0, none⟩ : Addr) 1) 1) fun v9 => asI .i64 v9 fun x10 => (cl Tryd.prog 53 #[(.int .i64 x10), (.int .i64 (4398046511104 : Int))] w7 fun v11 w12 => asB v11 fun b13 => 
(jn (fun s14 w15 => asB (s14.getD 0 undef) fun b21 => (cond b21 (lv (60 : Int) fun y22 => 
(Q (.int .i64 y22) w15)) 
(ld w15 (Addr.add (⟨r1, 0, none⟩ : Addr) 4) fun v23 => asI .i64 v23 fun x24 => (cl Tryd.prog 53 #[(.int .i64 x24), (.int .i64 (17179869184 : Int))] w15 fun v25 w26 => asB v25 fun b27 => 
(ld w26 (Addr.add (Addr.add (⟨r1, 0, none⟩ : Addr) 4) 1) fun v28 => asI .i64 v28 fun x29 => (cl Tryd.prog 53 #[(.int .i64 x29), (.int .i64 (17179869184 : Int))] w26 fun v30 w31 => asB v30 fun b32 => 
(jn (fun s33 w34 => asB (s33.getD 0 undef) fun b40 => (cond b40 (lv (1 : Int) fun y41 => 
(Q (.int .i64 y41) w34)) 
(lv (0 : Int) fun y42 => 
(Q (.int .i64 y42) w34))))
 (fun J35 => (cond (!b27) (J35 [(.bool true)] w31) (cond (!b32) (J35 [(.bool true)] w31) (ld w31 (Addr.add (⟨r1, 0, none⟩ : Addr) 6) fun v36 => asI .i64 v36 fun x37 => (cond (decide (x37 < (0 : Int))) (J35 [(.bool true)] w31) (ld w31 (Addr.add (⟨r1, 0, none⟩ : Addr) 6) fun v38 => asI .i64 v38 fun x39 => (J35 [(.bool (decide (x39 > (8 : Int))))] w31))))))))))))))
 (fun J16 => (cond (!b8) (J16 [(.bool true)] w12) (cond (!b13) (J16 [(.bool true)] w12) (ld w12 (Addr.add (Addr.add (⟨r1, 0, none⟩ : Addr) 1) 2) fun v17 => asI .i64 v17 fun x18 => (cond (decide (x18 < (1 : Int))) (J16 [(.bool true)] w12) (ld w12 (Addr.add (Addr.add (⟨r1, 0, none⟩ : Addr) 1) 2) fun v19 => asI .i64 v19 fun x20 => (J16 [(.bool (decide (x20 > (17179869184 : Int))))] w12))))))))))))))
theorem F38_link (e_0 : Int) (e_1 : Int) (e_2 : Int) (e_3 : Int) (e_4 : Int) (e_5 : Int) (e_6 : Int) (e_7 : Int) (w : World) (Q : Value → World → Prop) : fnEv Tryd.prog Tryd.f38 h38 [(.agg #[(.int .i64 e_0), (.int .i64 e_1), (.int .i64 e_2), (.int .i64 e_3), (.int .i64 e_4), (.int .i64 e_5), (.int .i64 e_6), (.int .i64 e_7)])] w Q = F38 e_0 e_1 e_2 e_3 e_4 e_5 e_6 e_7 w Q := by kernel_rfl
theorem F38_calls {e_0 : Int} {e_1 : Int} {e_2 : Int} {e_3 : Int} {e_4 : Int} {e_5 : Int} {e_6 : Int} {e_7 : Int} {w : World} {Q : Value → World → Prop} (hF_ : F38 e_0 e_1 e_2 e_3 e_4 e_5 e_6 e_7 w Q) : cl Tryd.prog 38 #[(.agg #[(.int .i64 e_0), (.int .i64 e_1), (.int .i64 e_2), (.int .i64 e_3), (.int .i64 e_4), (.int .i64 e_5), (.int .i64 e_6), (.int .i64 e_7)])] w Q :=
  calls_of_ev (fn := Tryd.f38) Tryd.func38 h38 (args := [(.agg #[(.int .i64 e_0), (.int .i64 e_1), (.int .i64 e_2), (.int .i64 e_3), (.int .i64 e_4), (.int .i64 e_5), (.int .i64 e_6), (.int .i64 e_7)])]) (by rw [F38_link]; exact hF_)

/-! (*tiltyard/grid.Grid).Drop -/
def h39 : Hint := .d
set_option linter.unusedVariables false in
def F39 (g : Option Addr) (id : Int) (w : World) (Q : Value → World → Prop) : Prop :=
 (lv (0 : Int) fun y1 => 
(dr g fun a2 => (ld w (Addr.add a2 1) fun v3 => asM v3 fun r4 => (rq Tryd.prog (Instr.lookup 102 (.map r4) (.int .i64 id) true) w fun v5 => asT 2 v5 fun t6 => asA 3 (t6 0) fun a7 => asI .i64 (a7 0) fun x8 => asI .i64 (a7 1) fun x9 => asI .i64 (a7 2) fun x10 => asB (t6 1) fun b11 => (nw w (.cells #[(.int .i64 (0 : Int)), (.int .i64 (0 : Int)), (.int .i64 (0 : Int))] 38) fun r12 w13 => (st w13 (⟨r12, 0, none⟩ : Addr) (.int .i64 x8) fun w14 => (st w14 (Addr.add (⟨r12, 0, none⟩ : Addr) 1) (.int .i64 x9) fun w15 => (st w15 (Addr.add (⟨r12, 0, none⟩ : Addr) 2) (.int .i64 x10) fun w16 => 

(cond (!b11) (lv (181 : Int) fun y17 => 
(Q (.int .i64 y17) w16)) 
(cl Tryd.prog 54 #[(.pointer g), (.int .i64 id)] w16 fun v18 w19 => 
(lv (0 : Int) fun y20 => 
(Q (.int .i64 y20) w19))))))))))))
theorem F39_link (g : Option Addr) (id : Int) (w : World) (Q : Value → World → Prop) : fnEv Tryd.prog Tryd.f39 h39 [(.pointer g), (.int .i64 id)] w Q = F39 g id w Q := by kernel_rfl
theorem F39_calls {g : Option Addr} {id : Int} {w : World} {Q : Value → World → Prop} (hF_ : F39 g id w Q) : cl Tryd.prog 39 #[(.pointer g), (.int .i64 id)] w Q :=
  calls_of_ev (fn := Tryd.f39) Tryd.func39 h39 (args := [(.pointer g), (.int .i64 id)]) (by rw [F39_link]; exact hF_)

/-! (*tiltyard/tiltyardref19.World).place -/
def h40 : Hint := (.s .d (.s (.s .d (.l [(5, 3)] (.s .d (.s (.j [(26, 4)] .d .d) .d)))) .d))
set_option linter.unusedVariables false in
def F40 (w' : Option Addr) (h : Int) (w : World) (Q : Value → World → Prop) : Prop :=
 (lv (0 : Int) fun y1 => 
(lv (0 : Int) fun i_2 => 
(lp [(.int .i64 i_2)] w fun J5 s3 w4 => asI .i64 (s3.getD 0 undef) fun x6 => 
(cond (decide (x6 < (64 : Int))) 
(jn (fun s7 w8 => asB (s7.getD 0 undef) fun b16 => (cond b16 (lv x6 fun y17 => 
(Q (.int .i64 y17) w8)) 
(lv (IntKind.wrap .i64 (x6 + (1 : Int))) fun i_18 => (J5 [(.int .i64 i_18)] w8))))
 (fun J9 => (dr w' fun a10 => (bnd x6 64 (ld w4 (Addr.add (Addr.add a10 64) (Int.toNat x6 * 1)) fun v11 => asB v11 fun b12 => (cond b12 (dr w' fun a13 => (bnd x6 64 (ld w4 (Addr.add (Addr.add a13 128) (Int.toNat x6 * 8)) fun v14 => asI .i64 v14 fun x15 => (J9 [(.bool (x15 == h))] w4)))) (J9 [(.bool false)] w4))))))) 
(lv (-1 : Int) fun y19 => 
(Q (.int .i64 y19) w4))))))
theorem F40_link (w' : Option Addr) (h : Int) (w : World) (Q : Value → World → Prop) : fnEv Tryd.prog Tryd.f40 h40 [(.pointer w'), (.int .i64 h)] w Q = F40 w' h w Q := by kernel_rfl
theorem F40_calls {w' : Option Addr} {h : Int} {w : World} {Q : Value → World → Prop} (hF_ : F40 w' h w Q) : cl Tryd.prog 40 #[(.pointer w'), (.int .i64 h)] w Q :=
  calls_of_ev (fn := Tryd.f40) Tryd.func40 h40 (args := [(.pointer w'), (.int .i64 h)]) (by rw [F40_link]; exact hF_)

/-! (*tiltyard/grid.Grid).Move -/
def h41 : Hint := (.s .d (.s .d (.s (.o (ofL [0, 1, 2, 3, 4, 5, 6, 7, 8, 9, 10] .nil)) .d)))
set_option linter.unusedVariables false in
def F41 (g : Option Addr) (id : Int) (b_0 : Int) (b_1 : Int) (b_2 : Int) (w : World) (Q : Value → World → Prop) : Prop :=
 (nw w (.cells #[(.int .i64 b_0), (.int .i64 b_1), (.int .i64 b_2)] 38) fun r1 w2 => (lv (0 : Int) fun y3 => 
(dr g fun a4 => (ld w2 (Addr.add a4 1) fun v5 => asM v5 fun r6 => (rq Tryd.prog (Instr.lookup 102 (.map r6) (.int .i64 id) true) w2 fun v7 => asT 2 v7 fun t8 => asA 3 (t8 0) fun a9 => asI .i64 (a9 0) fun x10 => asI .i64 (a9 1) fun x11 => asI .i64 (a9 2) fun x12 => asB (t8 1) fun b13 => (nw w2 (.cells #[(.int .i64 (0 : Int)), (.int .i64 (0 : Int)), (.int .i64 (0 : Int))] 38) fun r14 w15 => (st w15 (⟨r14, 0, none⟩ : Addr) (.int .i64 x10) fun w16 => (st w16 (Addr.add (⟨r14, 0, none⟩ : Addr) 1) (.int .i64 x11) fun w17 => (st w17 (Addr.add (⟨r14, 0, none⟩ : Addr) 2) (.int .i64 x12) fun w18 => 

(cond (!b13) (lv (181 : Int) fun y19 => 
(Q (.int .i64 y19) w18)) 
(dw w18 fun w20 => (dr g fun a21 => (ld w20 a21 fun v22 => asI .i64 v22 fun x23 => (ld w20 (⟨r1, 0, none⟩ : Addr) fun v24 => asI .i64 v24 fun x25 => (ld w20 (Addr.add (⟨r1, 0, none⟩ : Addr) 1) fun v26 => asI .i64 v26 fun x27 => (ld w20 (Addr.add (⟨r1, 0, none⟩ : Addr) 2) fun v28 => asI .i64 v28 fun x29 => (cl Tryd.prog 46 #[(.int .i64 x23), (.agg #[(.int .i64 x25), (.int .i64 x27), (.int .i64 x29)])] w20 fun v30 w31 => asT 2 v30 fun t32 => asS (t32 0) fun p33 n34 c35 => asI .i64 (t32 1) fun x36 => (lv x36 fun e_37 => 

(cond (e_37 != (0 : Int)) (lv e_37 fun y38 => 
(Q (.int .i64 y38) w31)) 
(cl Tryd.prog 54 #[(.pointer g), (.int .i64 id)] w31 fun v39 w40 => 
(ld w40 (⟨r1, 0, none⟩ : Addr) fun v41 => asI .i64 v41 fun x42 => (ld w40 (Addr.add (⟨r1, 0, none⟩ : Addr) 1) fun v43 => asI .i64 v43 fun x44 => (ld w40 (Addr.add (⟨r1, 0, none⟩ : Addr) 2) fun v45 => asI .i64 v45 fun x46 => (cl Tryd.prog 50 #[(.pointer g), (.int .i64 id), (.agg #[(.int .i64 x42), (.int .i64 x44), (.int .i64 x46)]), (.slice p33 n34 c35)] w40 fun v47 w48 => 
(lv (0 : Int) fun y49 => 
(Q (.int .i64 y49) w48))))))))))))))))))))))))))
theorem F41_link (g : Option Addr) (id : Int) (b_0 : Int) (b_1 : Int) (b_2 : Int) (w : World) (Q : Value → World → Prop) : fnEv Tryd.prog Tryd.f41 h41 [(.pointer g), (.int .i64 id), (.agg #[(.int .i64 b_0), (.int .i64 b_1), (.int .i64 b_2)])] w Q = F41 g id b_0 b_1 b_2 w Q := by kernel_rfl
theorem F41_calls {g : Option Addr} {id : Int} {b_0 : Int} {b_1 : Int} {b_2 : Int} {w : World} {Q : Value → World → Prop} (hF_ : F41 g id b_0 b_1 b_2 w Q) : cl Tryd.prog 41 #[(.pointer g), (.int .i64 id), (.agg #[(.int .i64 b_0), (.int .i64 b_1), (.int .i64 b_2)])] w Q :=
  calls_of_ev (fn := Tryd.f41) Tryd.func41 h41 (args := [(.pointer g), (.int .i64 id), (.agg #[(.int .i64 b_0), (.int .i64 b_1), (.int .i64 b_2)])]) (by rw [F41_link]; exact hF_)

/-! tiltyard/box.Push -/
def h42 : Hint := (.s .d (.s (.s .d (.s .d (.j [(23, 4)] .d .d))) (.s .d (.j [(11, 3)] .d (.s .d (.s (.s .d (.l [(12, 3), (13, 3), (42, 3)] (.s .d (.s .d (.j [(12, 3), (13, 3)] (.s .d (.s .d (.s (.o (ofL [0, 1, 2, 4, 6, 7, 9, 3, 5, 8, 10, 11, 12, 13] .nil)) (.j [(84, 4)] .d .d)))) .d))))) .d))))))
set_option linter.unusedVariables false in
def F42 (a_0 : Int) (a_1 : Int) (a_2 : Int) (axis : Int) (d : Int) (l : Option Addr) (l_n l_c : Nat) (w : World) (Q : Value → World → Prop) : Prop :=
 (nw w (.cells #[(.int .i64 a_0), (.int .i64 a_1), (.int .i64 a_2)] 38) fun r1 w2 => (lv (0 : Int) fun y3 => (lv (0 : Int) fun y4 => (lv (0 : Int) fun y5 => 
(ld w2 (⟨r1, 0, none⟩ : Addr) fun v6 => asI .i64 v6 fun x7 => (ld w2 (Addr.add (⟨r1, 0, none⟩ : Addr) 1) fun v8 => asI .i64 v8 fun x9 => (ld w2 (Addr.add (⟨r1, 0, none⟩ : Addr) 2) fun v10 => asI .i64 v10 fun x11 => (cl Tryd.prog 55 #[(.agg #[(.int .i64 x7), (.int .i64 x9), (.int .i64 x11)]), (.slice l l_n l_c)] w2 fun v12 w13 => asB v12 fun b14 => 
(cond (!b14) (lv (0 : Int) fun y15 => (lv (0 : Int) fun y16 => (lv (60 : Int) fun y17 => 
(Q (.tuple #[(.int .i64 y15), (.int .i64 y16), (.int .i64 y17)]) w13)))) (jn (fun s18 w19 => asB (s18.getD 0 undef) fun b27 => (cond b27 (lv (0 : Int) fun y28 => (lv (0 : Int) fun y29 => (lv (1 : Int) fun y30 => 
(Q (.tuple #[(.int .i64 y28), (.int .i64 y29), (.int .i64 y30)]) w19)))) 
(lv (1 : Int) fun sign_31 => 
(jn (fun s32 w33 => asI .i64 (s32.getD 0 undef) fun x36 => (lv (IntKind.wrap .i64 (x36 * d)) fun way_37 => (lv (-1 : Int) fun who_38 => 

(lp [(.int .i64 way_37), (.int .i64 who_38), (.int .i64 (0 : Int))] w33 fun J41 s39 w40 => asI .i64 (s39.getD 0 undef) fun x42 => asI .i64 (s39.getD 1 undef) fun x43 => asI .i64 (s39.getD 2 undef) fun x44 => 
(cond (decide (x44 < (l_n : Int))) 
(jn (fun s45 w46 => asI .i64 (s45.getD 0 undef) fun x120 => asI .i64 (s45.getD 1 undef) fun x121 => (J41 [(.int .i64 x120), (.int .i64 x121), (.int .i64 (IntKind.wrap .i64 (x44 + (1 : Int))))] w46))
 (fun J47 => (dr l fun a48 => (bnd x44 l_n (ld w40 (Addr.add a48 (Int.toNat x44 * 3)) fun v49 => asI .i64 v49 fun x50 => (ld w40 (Addr.add (Addr.add a48 (Int.toNat x44 * 3)) 1) fun v51 => asI .i64 v51 fun x52 => (ld w40 (Addr.add (Addr.add a48 (Int.toNat x44 * 3)) 2) fun v53 => asI .i64 v53 fun x54 => (nw w40 (.cells #[(.int .i64 (0 : Int)), (.int .i64 (0 : Int)), (.int .i64 (0 : Int))] 38) fun r55 w56 => (lv x44 fun i_57 => (st w56 (⟨r55, 0, none⟩ : Addr) (.int .i64 x50) fun w58 => (st w58 (Addr.add (⟨r55, 0, none⟩ : Addr) 1) (.int .i64 x52) fun w59 => (st w59 (Addr.add (⟨r55, 0, none⟩ : Addr) 2) (.int .i64 x54) fun w60 => 
(ld w60 (⟨r1, 0, none⟩ : Addr) fun v61 => asI .i64 v61 fun x62 => (ld w60 (Addr.add (⟨r1, 0, none⟩ : Addr) 1) fun v63 => asI .i64 v63 fun x64 => (ld w60 (Addr.add (⟨r1, 0, none⟩ : Addr) 2) fun v65 => asI .i64 v65 fun x66 => (ld w60 (⟨r55, 0, none⟩ : Addr) fun v67 => asI .i64 v67 fun x68 => (ld w60 (Addr.add (⟨r55, 0, none⟩ : Addr) 1) fun v69 => asI .i64 v69 fun x70 => (ld w60 (Addr.add (⟨r55, 0, none⟩ : Addr) 2) fun v71 => asI .i64 v71 fun x72 => (cl Tryd.prog 44 #[(.agg #[(.int .i64 x62), (.int .i64 x64), (.int .i64 x66)]), (.agg #[(.int .i64 x68), (.int .i64 x70), (.int .i64 x72)])] w60 fun v73 w74 => asA 2 v73 fun a75 => asI .i64 (a75 0) fun x76 => asI .i64 (a75 1) fun x77 => (nw w74 (.cells #[(.int .i64 (0 : Int)), (.int .i64 (0 : Int))] 97) fun r78 w79 => (st w79 (⟨r78, 0, none⟩ : Addr) (.int .i64 x76) fun w80 => (st w80 (Addr.add (⟨r78, 0, none⟩ : Addr) 1) (.int .i64 x77) fun w81 => 
(dw w81 fun w82 => (ld w82 (⟨r55, 0, none⟩ : Addr) fun v83 => asI .i64 v83 fun x84 => (ld w82 (Addr.add (⟨r55, 0, none⟩ : Addr) 1) fun v85 => asI .i64 v85 fun x86 => (ld w82 (⟨r1, 0, none⟩ : Addr) fun v87 => asI .i64 v87 fun x88 => (ld w82 (Addr.add (⟨r1, 0, none⟩ : Addr) 1) fun v89 => asI .i64 v89 fun x90 => (cl Tryd.prog 56 #[(.agg #[(.int .i64 x84), (.int .i64 x86)])] w82 fun v91 w92 => asA 2 v91 fun a93 => asI .i64 (a93 0) fun x94 => asI .i64 (a93 1) fun x95 => (hd w92 (⟨r1, 0, none⟩ : Addr) (.int .i64 x88) (hd w92 (Addr.add (⟨r1, 0, none⟩ : Addr) 1) (.int .i64 x90) (bnd axis 2 (so ((#[(.int .i64 x94), (.int .i64 x95)] : Array Value)[Int.toNat axis * 1]?) fun v96 => asI .i64 v96 fun x97 => (cl Tryd.prog 56 #[(.agg #[(.int .i64 x88), (.int .i64 x90)])] w92 fun v98 w99 => asA 2 v98 fun a100 => asI .i64 (a100 0) fun x101 => asI .i64 (a100 1) fun x102 => (bnd axis 2 (so ((#[(.int .i64 x101), (.int .i64 x102)] : Array Value)[Int.toNat axis * 1]?) fun v103 => asI .i64 v103 fun x104 => (lv (IntKind.wrap .i64 (x36 * (IntKind.wrap .i64 (x97 - x104)))) fun side_105 => 
(jn (fun s106 w107 => asB (s106.getD 0 undef) fun b115 => (cond b115 (bnd axis 2 (ld w107 (Addr.add (⟨r78, 0, none⟩ : Addr) (Int.toNat axis * 1)) fun v116 => asI .i64 v116 fun x117 => (lv x117 fun way_118 => (lv i_57 fun who_119 => (J47 [(.int .i64 way_118), (.int .i64 who_119)] w107))))) (J47 [(.int .i64 x42), (.int .i64 x43)] w107)))
 (fun J108 => (cond (decide (side_105 > (0 : Int))) (bnd axis 2 (ld w99 (Addr.add (⟨r78, 0, none⟩ : Addr) (Int.toNat axis * 1)) fun v109 => asI .i64 v109 fun x110 => (cond (decide ((0 : Int) ≤ x110)) (bnd axis 2 (ld w99 (Addr.add (⟨r78, 0, none⟩ : Addr) (Int.toNat axis * 1)) fun v111 => asI .i64 v111 fun x112 => (cond (decide (x112 < x42)) (bnd (IntKind.wrap .i64 ((1 : Int) - axis)) 2 (ld w99 (Addr.add (⟨r78, 0, none⟩ : Addr) (Int.toNat (IntKind.wrap .i64 ((1 : Int) - axis)) * 1)) fun v113 => asI .i64 v113 fun x114 => (J108 [(.bool (decide (x114 < (0 : Int))))] w99))) (J108 [(.bool false)] w99)))) (J108 [(.bool false)] w99)))) (J108 [(.bool false)] w99)))))))))))))))))))))))))))))))))))))))) 
(lv (IntKind.wrap .i64 (x36 * x42)) fun y122 => (lv x43 fun y123 => (lv (0 : Int) fun y124 => 
(Q (.tuple #[(.int .i64 y122), (.int .i64 y123), (.int .i64 y124)]) w40)))))))))
 (fun J34 => 
(cond (decide (d < (0 : Int))) (lv (-1 : Int) fun sign_35 => (J34 [(.int .i64 sign_35)] w19)) (J34 [(.int .i64 sign_31)] w19)))))))
 (fun J20 => (cond (axis != (0 : Int)) (cond (axis != (1 : Int)) (J20 [(.bool true)] w13) (cl Tryd.prog 45 #[(.int .i64 d)] w13 fun v21 w22 => asB v21 fun b23 => (J20 [(.bool (!b23))] w22))) (cl Tryd.prog 45 #[(.int .i64 d)] w13 fun v24 w25 => asB v24 fun b26 => (J20 [(.bool (!b26))] w25))))))))))))))
theorem F42_link (a_0 : Int) (a_1 : Int) (a_2 : Int) (axis : Int) (d : Int) (l : Option Addr) (l_n l_c : Nat) (w : World) (Q : Value → World → Prop) : fnEv Tryd.prog Tryd.f42 h42 [(.agg #[(.int .i64 a_0), (.int .i64 a_1), (.int .i64 a_2)]), (.int .i64 axis), (.int .i64 d), (.slice l l_n l_c)] w Q = F42 a_0 a_1 a_2 axis d l l_n l_c w Q := by kernel_rfl
theorem F42_calls {a_0 : Int} {a_1 : Int} {a_2 : Int} {axis : Int} {d : Int} {l : Option Addr} {l_n l_c : Nat} {w : World} {Q : Value → World → Prop} (hF_ : F42 a_0 a_1 a_2 axis d l l_n l_c w Q) : cl Tryd.prog 42 #[(.agg #[(.int .i64 a_0), (.int .i64 a_1), (.int .i64 a_2)]), (.int .i64 axis), (.int .i64 d), (.slice l l_n l_c)] w Q :=
  calls_of_ev (fn := Tryd.f42) Tryd.func42 h42 (args := [(.agg #[(.int .i64 a_0), (.int .i64 a_1), (.int .i64 a_2)]), (.int .i64 axis), (.int .i64 d), (.slice l l_n l_c)]) (by rw [F42_link]; exact hF_)

/-! slices.Index[[]int,int] -/
def h43 : Hint := (.s .d (.s (.s .d (.l [(8, 3)] .d)) .d))
set_option linter.unusedVariables false in
def F43 (s : Option Addr) (s_n s_c : Nat) (v : Int) (w : World) (Q : Value → World → Prop) : Prop :=
 (lv (0 : Int) fun y1 => 

(lp [(.int .i64 (0 : Int))] w fun J4 s2 w3 => asI .i64 (s2.getD 0 undef) fun x5 => 
(cond (decide (x5 < (s_n : Int))) 
(lv x5 fun i_6 => 
(dr s fun a7 => (bnd i_6 s_n (ld w3 (Addr.add a7 (Int.toNat i_6 * 1)) fun v8 => asI .i64 v8 fun x9 => 
(cond (v == x9) (lv i_6 fun y10 => 
(Q (.int .i64 y10) w3)) 
(J4 [(.int .i64 (IntKind.wrap .i64 (x5 + (1 : Int))))] w3)))))) 
(lv (-1 : Int) fun y11 => 
(Q (.int .i64 y11) w3)))))
theorem F43_link (s : Option Addr) (s_n s_c : Nat) (v : Int) (w : World) (Q : Value → World → Prop) : fnEv Tryd.prog Tryd.f43 h43 [(.slice s s_n s_c), (.int .i64 v)] w Q = F43 s s_n s_c v w Q := by kernel_rfl
theorem F43_calls {s : Option Addr} {s_n s_c : Nat} {v : Int} {w : World} {Q : Value → World → Prop} (hF_ : F43 s s_n s_c v w Q) : cl Tryd.prog 43 #[(.slice s s_n s_c), (.int .i64 v)] w Q :=
  calls_of_ev (fn := Tryd.f43) Tryd.func43 h43 (args := [(.slice s s_n s_c), (.int .i64 v)]) (by rw [F43_link]; exact hF_)

/-! tiltyard/box.gaps -/
def h44 : Hint := (.s .d (.j [(5, 15), (6, 15)] (.o (ofL [0, 1, 3, 4] (.alt (ofL [2] (.alt (ofL [5] (.alt (ofL [6, 7, 8, 9] .nil) (ofL [7, 6, 8, 9] .nil))) (.alt (ofL [6] (.alt (ofL [5, 7, 8, 9] .nil) (ofL [7, 5, 8, 9] .nil))) (ofL [7] (.alt (ofL [5, 6, 8, 9] .nil) (ofL [6, 5, 8, 9] .nil)))))) (.alt (ofL [6] (.alt (ofL [2] (.alt (ofL [5, 7, 8, 9] .nil) (ofL [7, 5, 8, 9] .nil))) (ofL [7, 2, 5, 8, 9] .nil))) (ofL [7] (.alt (ofL [2] (.alt (ofL [5, 6, 8, 9] .nil) (ofL [6, 5, 8, 9] .nil))) (ofL [6, 2, 5, 8, 9] .nil))))))) .d))
set_option linter.unusedVariables false in
def F44 (a_0 : Int) (a_1 : Int) (a_2 : Int) (b_0 : Int) (b_1 : Int) (b_2 : Int) (w : World) (Q : Value → World → Prop) : Prop :=
 (nw w (.cells #[(.int .i64 a_0), (.int .i64 a_1), (.int .i64 a_2)] 38) fun r1 w2 => (nw w2 (.cells #[(.int .i64 b_0), (.int .i64 b_1), (.int .i64 b_2)] 38) fun r3 w4 => (nw w4 (.cells #[(.int .i64 (0 : Int)), (.int .i64 (0 : Int))] 97) fun r5 w6 => 
(jn (fun s7 w8 => asP (s7.getD 0 undef) fun p183 => asP (s7.getD 1 undef) fun p184 => 
(cl Tryd.prog 57 #[(.int .i64 (0 : Int)), (.pointer p183), (.pointer p184), (.pointer (some (⟨r1, 0, none⟩ : Addr))), (.pointer (some (⟨r3, 0, none⟩ : Addr)))] w8 fun v185 w186 => asI .i64 v185 fun x187 => (cl Tryd.prog 57 #[(.int .i64 (1 : Int)), (.pointer p183), (.pointer p184), (.pointer (some (⟨r1, 0, none⟩ : Addr))), (.pointer (some (⟨r3, 0, none⟩ : Addr)))] w186 fun v188 w189 => asI .i64 v188 fun x190 => (st w189 (⟨r5, 0, none⟩ : Addr) (.int .i64 x187) fun w191 => (st w191 (Addr.add (⟨r5, 0, none⟩ : Addr) 1) (.int .i64 x190) fun w192 => 
(ld w192 (⟨r5, 0, none⟩ : Addr) fun v193 => asI .i64 v193 fun x194 => (ld w192 (Addr.add (⟨r5, 0, none⟩ : Addr) 1) fun v195 => asI .i64 v195 fun x196 => (Q (.agg #[(.int .i64 x194), (.int .i64 x196)]) w192))))))))
 (fun J9 => (dw w6 fun w10 => (ld w10 (⟨r1, 0, none⟩ : Addr) fun v11 => asI .i64 v11 fun x12 => (ld w10 (Addr.add (⟨r1, 0, none⟩ : Addr) 1) fun v13 => asI .i64 v13 fun x14 => (ld w10 (⟨r3, 0, none⟩ : Addr) fun v15 => asI .i64 v15 fun x16 => (ld w10 (Addr.add (⟨r3, 0, none⟩ : Addr) 1) fun v17 => asI .i64 v17 fun x18 => 
((cl Tryd.prog 56 #[(.agg #[(.int .i64 x12), (.int .i64 x14)])] w10 fun v19 w20 => asA 2 v19 fun a21 => asI .i64 (a21 0) fun x22 => asI .i64 (a21 1) fun x23 => (hd w20 (⟨r3, 0, none⟩ : Addr) (.int .i64 x16) (hd w20 (Addr.add (⟨r3, 0, none⟩ : Addr) 1) (.int .i64 x18) 
((cl Tryd.prog 56 #[(.agg #[(.int .i64 x16), (.int .i64 x18)])] w20 fun v24 w25 => asA 2 v24 fun a26 => asI .i64 (a26 0) fun x27 => asI .i64 (a26 1) fun x28 => 
((nw w25 (.cells #[(.int .i64 (0 : Int)), (.int .i64 (0 : Int))] 97) fun r29 w30 => (nw w30 (.cells #[(.int .i64 (0 : Int)), (.int .i64 (0 : Int))] 97) fun r31 w32 => (st w32 (⟨r29, 0, none⟩ : Addr) (.int .i64 x22) fun w33 => (st w33 (Addr.add (⟨r29, 0, none⟩ : Addr) 1) (.int .i64 x23) fun w34 => (st w34 (⟨r31, 0, none⟩ : Addr) (.int .i64 x27) fun w35 => (st w35 (Addr.add (⟨r31, 0, none⟩ : Addr) 1) (.int .i64 x28) fun w36 => (J9 [(.pointer (some (⟨r29, 0, none⟩ : Addr))), (.pointer (some (⟨r31, 0, none⟩ : Addr)))] w36))))))) ∧ (nw w25 (.cells #[(.int .i64 (0 : Int)), (.int .i64 (0 : Int))] 97) fun r37 w38 => (nw w38 (.cells #[(.int .i64 (0 : Int)), (.int .i64 (0 : Int))] 97) fun r39 w40 => (st w40 (⟨r39, 0, none⟩ : Addr) (.int .i64 x22) fun w41 => (st w41 (Addr.add (⟨r39, 0, none⟩ : Addr) 1) (.int .i64 x23) fun w42 => (st w42 (⟨r37, 0, none⟩ : Addr) (.int .i64 x27) fun w43 => (st w43 (Addr.add (⟨r37, 0, none⟩ : Addr) 1) (.int .i64 x28) fun w44 => (J9 [(.pointer (some (⟨r39, 0, none⟩ : Addr))), (.pointer (some (⟨r37, 0, none⟩ : Addr)))] w44))))))))) ∧ ((nw w20 (.cells #[(.int .i64 (0 : Int)), (.int .i64 (0 : Int))] 97) fun r45 w46 => (hd w46 (⟨r3, 0, none⟩ : Addr) (.int .i64 x16) (hd w46 (Addr.add (⟨r3, 0, none⟩ : Addr) 1) (.int .i64 x18) 
((cl Tryd.prog 56 #[(.agg #[(.int .i64 x16), (.int .i64 x18)])] w46 fun v47 w48 => asA 2 v47 fun a49 => asI .i64 (a49 0) fun x50 => asI .i64 (a49 1) fun x51 => (nw w48 (.cells #[(.int .i64 (0 : Int)), (.int .i64 (0 : Int))] 97) fun r52 w53 => (st w53 (⟨r45, 0, none⟩ : Addr) (.int .i64 x22) fun w54 => (st w54 (Addr.add (⟨r45, 0, none⟩ : Addr) 1) (.int .i64 x23) fun w55 => (st w55 (⟨r52, 0, none⟩ : Addr) (.int .i64 x50) fun w56 => (st w56 (Addr.add (⟨r52, 0, none⟩ : Addr) 1) (.int .i64 x51) fun w57 => (J9 [(.pointer (some (⟨r45, 0, none⟩ : Addr))), (.pointer (some (⟨r52, 0, none⟩ : Addr)))] w57))))))) ∧ (nw w46 (.cells #[(.int .i64 (0 : Int)), (.int .i64 (0 : Int))] 97) fun r58 w59 => (hd w59 (⟨r3, 0, none⟩ : Addr) (.int .i64 x16) (hd w59 (Addr.add (⟨r3, 0, none⟩ : Addr) 1) (.int .i64 x18) (cl Tryd.prog 56 #[(.agg #[(.int .i64 x16), (.int .i64 x18)])] w59 fun v60 w61 => asA 2 v60 fun a62 => asI .i64 (a62 0) fun x63 => asI .i64 (a62 1) fun x64 => (st w61 (⟨r45, 0, none⟩ : Addr) (.int .i64 x22) fun w65 => (st w65 (Addr.add (⟨r45, 0, none⟩ : Addr) 1) (.int .i64 x23) fun w66 => (st w66 (⟨r58, 0, none⟩ : Addr) (.int .i64 x63) fun w67 => (st w67 (Addr.add (⟨r58, 0, none⟩ : Addr) 1) (.int .i64 x64) fun w68 => (J9 [(.pointer (some (⟨r45, 0, none⟩ : Addr))), (.pointer (some (⟨r58, 0, none⟩ : Addr)))] w68))))))))))))) ∧ (nw w20 (.cells #[(.int .i64 (0 : Int)), (.int .i64 (0 : Int))] 97) fun r69 w70 => (hd w70 (⟨r3, 0, none⟩ : Addr) (.int .i64 x16) (hd w70 (Addr.add (⟨r3, 0, none⟩ : Addr) 1) (.int .i64 x18) 
((cl Tryd.prog 56 #[(.agg #[(.int .i64 x16), (.int .i64 x18)])] w70 fun v71 w72 => asA 2 v71 fun a73 => asI .i64 (a73 0) fun x74 => asI .i64 (a73 1) fun x75 => (nw w72 (.cells #[(.int .i64 (0 : Int)), (.int .i64 (0 : Int))] 97) fun r76 w77 => (st w77 (⟨r76, 0, none⟩ : Addr) (.int .i64 x22) fun w78 => (st w78 (Addr.add (⟨r76, 0, none⟩ : Addr) 1) (.int .i64 x23) fun w79 => (st w79 (⟨r69, 0, none⟩ : Addr) (.int .i64 x74) fun w80 => (st w80 (Addr.add (⟨r69, 0, none⟩ : Addr) 1) (.int .i64 x75) fun w81 => (J9 [(.pointer (some (⟨r76, 0, none⟩ : Addr))), (.pointer (some (⟨r69, 0, none⟩ : Addr)))] w81))))))) ∧ (nw w70 (.cells #[(.int .i64 (0 : Int)), (.int .i64 (0 : Int))] 97) fun r82 w83 => (hd w83 (⟨r3, 0, none⟩ : Addr) (.int .i64 x16) (hd w83 (Addr.add (⟨r3, 0, none⟩ : Addr) 1) (.int .i64 x18) (cl Tryd.prog 56 #[(.agg #[(.int .i64 x16), (.int .i64 x18)])] w83 fun v84 w85 => asA 2 v84 fun a86 => asI .i64 (a86 0) fun x87 => asI .i64 (a86 1) fun x88 => (st w85 (⟨r82, 0, none⟩ : Addr) (.int .i64 x22) fun w89 => (st w89 (Addr.add (⟨r82, 0, none⟩ : Addr) 1) (.int .i64 x23) fun w90 => (st w90 (⟨r69, 0, none⟩ : Addr) (.int .i64 x87) fun w91 => (st w91 (Addr.add (⟨r69, 0, none⟩ : Addr) 1) (.int .i64 x88) fun w92 => (J9 [(.pointer (some (⟨r82, 0, none⟩ : Addr))), (.pointer (some (⟨r69, 0, none⟩ : Addr)))] w92)))))))))))))))))) ∧ ((nw w10 (.cells #[(.int .i64 (0 : Int)), (.int .i64 (0 : Int))] 97) fun r93 w94 => (hd w94 (⟨r3, 0, none⟩ : Addr) (.int .i64 x16) (hd w94 (Addr.add (⟨r3, 0, none⟩ : Addr) 1) (.int .i64 x18) (hd w94 (⟨r1, 0, none⟩ : Addr) (.int .i64 x12) (hd w94 (Addr.add (⟨r1, 0, none⟩ : Addr) 1) (.int .i64 x14) 
((cl Tryd.prog 56 #[(.agg #[(.int .i64 x12), (.int .i64 x14)])] w94 fun v95 w96 => asA 2 v95 fun a97 => asI .i64 (a97 0) fun x98 => asI .i64 (a97 1) fun x99 => (hd w96 (⟨r3, 0, none⟩ : Addr) (.int .i64 x16) (hd w96 (Addr.add (⟨r3, 0, none⟩ : Addr) 1) (.int .i64 x18) 
((cl Tryd.prog 56 #[(.agg #[(.int .i64 x16), (.int .i64 x18)])] w96 fun v100 w101 => asA 2 v100 fun a102 => asI .i64 (a102 0) fun x103 => asI .i64 (a102 1) fun x104 => (nw w101 (.cells #[(.int .i64 (0 : Int)), (.int .i64 (0 : Int))] 97) fun r105 w106 => (st w106 (⟨r93, 0, none⟩ : Addr) (.int .i64 x98) fun w107 => (st w107 (Addr.add (⟨r93, 0, none⟩ : Addr) 1) (.int .i64 x99) fun w108 => (st w108 (⟨r105, 0, none⟩ : Addr) (.int .i64 x103) fun w109 => (st w109 (Addr.add (⟨r105, 0, none⟩ : Addr) 1) (.int .i64 x104) fun w110 => (J9 [(.pointer (some (⟨r93, 0, none⟩ : Addr))), (.pointer (some (⟨r105, 0, none⟩ : Addr)))] w110))))))) ∧ (nw w96 (.cells #[(.int .i64 (0 : Int)), (.int .i64 (0 : Int))] 97) fun r111 w112 => (hd w112 (⟨r3, 0, none⟩ : Addr) (.int .i64 x16) (hd w112 (Addr.add (⟨r3, 0, none⟩ : Addr) 1) (.int .i64 x18) (cl Tryd.prog 56 #[(.agg #[(.int .i64 x16), (.int .i64 x18)])] w112 fun v113 w114 => asA 2 v113 fun a115 => asI .i64 (a115 0) fun x116 => asI .i64 (a115 1) fun x117 => (st w114 (⟨r93, 0, none⟩ : Addr) (.int .i64 x98) fun w118 => (st w118 (Addr.add (⟨r93, 0, none⟩ : Addr) 1) (.int .i64 x99) fun w119 => (st w119 (⟨r111, 0, none⟩ : Addr) (.int .i64 x116) fun w120 => (st w120 (Addr.add (⟨r111, 0, none⟩ : Addr) 1) (.int .i64 x117) fun w121 => (J9 [(.pointer (some (⟨r93, 0, none⟩ : Addr))), (.pointer (some (⟨r111, 0, none⟩ : Addr)))] w121))))))))))))) ∧ (nw w94 (.cells #[(.int .i64 (0 : Int)), (.int .i64 (0 : Int))] 97) fun r122 w123 => (hd w123 (⟨r3, 0, none⟩ : Addr) (.int .i64 x16) (hd w123 (Addr.add (⟨r3, 0, none⟩ : Addr) 1) (.int .i64 x18) (hd w123 (⟨r1, 0, none⟩ : Addr) (.int .i64 x12) (hd w123 (Addr.add (⟨r1, 0, none⟩ : Addr) 1) (.int .i64 x14) (cl Tryd.prog 56 #[(.agg #[(.int .i64 x12), (.int .i64 x14)])] w123 fun v124 w125 => asA 2 v124 fun a126 => asI .i64 (a126 0) fun x127 => asI .i64 (a126 1) fun x128 => (hd w125 (⟨r3, 0, none⟩ : Addr) (.int .i64 x16) (hd w125 (Addr.add (⟨r3, 0, none⟩ : Addr) 1) (.int .i64 x18) (cl Tryd.prog 56 #[(.agg #[(.int .i64 x16), (.int .i64 x18)])] w125 fun v129 w130 => asA 2 v129 fun a131 => asI .i64 (a131 0) fun x132 => asI .i64 (a131 1) fun x133 => (st w130 (⟨r93, 0, none⟩ : Addr) (.int .i64 x127) fun w134 => (st w134 (Addr.add (⟨r93, 0, none⟩ : Addr) 1) (.int .i64 x128) fun w135 => (st w135 (⟨r122, 0, none⟩ : Addr) (.int .i64 x132) fun w136 => (st w136 (Addr.add (⟨r122, 0, none⟩ : Addr) 1) (.int .i64 x133) fun w137 => (J9 [(.pointer (some (⟨r93, 0, none⟩ : Addr))), (.pointer (some (⟨r122, 0, none⟩ : Addr)))] w137)))))))))))))))))))) ∧ (nw w10 (.cells #[(.int .i64 (0 : Int)), (.int .i64 (0 : Int))] 97) fun r138 w139 => (hd w139 (⟨r3, 0, none⟩ : Addr) (.int .i64 x16) (hd w139 (Addr.add (⟨r3, 0, none⟩ : Addr) 1) (.int .i64 x18) (hd w139 (⟨r1, 0, none⟩ : Addr) (.int .i64 x12) (hd w139 (Addr.add (⟨r1, 0, none⟩ : Addr) 1) (.int .i64 x14) 
((cl Tryd.prog 56 #[(.agg #[(.int .i64 x12), (.int .i64 x14)])] w139 fun v140 w141 => asA 2 v140 fun a142 => asI .i64 (a142 0) fun x143 => asI .i64 (a142 1) fun x144 => (hd w141 (⟨r3, 0, none⟩ : Addr) (.int .i64 x16) (hd w141 (Addr.add (⟨r3, 0, none⟩ : Addr) 1) (.int .i64 x18) 
((cl Tryd.prog 56 #[(.agg #[(.int .i64 x16), (.int .i64 x18)])] w141 fun v145 w146 => asA 2 v145 fun a147 => asI .i64 (a147 0) fun x148 => asI .i64 (a147 1) fun x149 => (nw w146 (.cells #[(.int .i64 (0 : Int)), (.int .i64 (0 : Int))] 97) fun r150 w151 => (st w151 (⟨r150, 0, none⟩ : Addr) (.int .i64 x143) fun w152 => (st w152 (Addr.add (⟨r150, 0, none⟩ : Addr) 1) (.int .i64 x144) fun w153 => (st w153 (⟨r138, 0, none⟩ : Addr) (.int .i64 x148) fun w154 => (st w154 (Addr.add (⟨r138, 0, none⟩ : Addr) 1) (.int .i64 x149) fun w155 => (J9 [(.pointer (some (⟨r150, 0, none⟩ : Addr))), (.pointer (some (⟨r138, 0, none⟩ : Addr)))] w155))))))) ∧ (nw w141 (.cells #[(.int .i64 (0 : Int)), (.int .i64 (0 : Int))] 97) fun r156 w157 => (hd w157 (⟨r3, 0, none⟩ : Addr) (.int .i64 x16) (hd w157 (Addr.add (⟨r3, 0, none⟩ : Addr) 1) (.int .i64 x18) (cl Tryd.prog 56 #[(.agg #[(.int .i64 x16), (.int .i64 x18)])] w157 fun v158 w159 => asA 2 v158 fun a160 => asI .i64 (a160 0) fun x161 => asI .i64 (a160 1) fun x162 => (st w159 (⟨r156, 0, none⟩ : Addr) (.int .i64 x143) fun w163 => (st w163 (Addr.add (⟨r156, 0, none⟩ : Addr) 1) (.int .i64 x144) fun w164 => (st w164 (⟨r138, 0, none⟩ : Addr) (.int .i64 x161) fun w165 => (st w165 (Addr.add (⟨r138, 0, none⟩ : Addr) 1) (.int .i64 x162) fun w166 => (J9 [(.pointer (some (⟨r156, 0, none⟩ : Addr))), (.pointer (some (⟨r138, 0, none⟩ : Addr)))] w166))))))))))))) ∧ (nw w139 (.cells #[(.int .i64 (0 : Int)), (.int .i64 (0 : Int))] 97) fun r167 w168 => (hd w168 (⟨r3, 0, none⟩ : Addr) (.int .i64 x16) (hd w168 (Addr.add (⟨r3, 0, none⟩ : Addr) 1) (.int .i64 x18) (hd w168 (⟨r1, 0, none⟩ : Addr) (.int .i64 x12) (hd w168 (Addr.add (⟨r1, 0, none⟩ : Addr) 1) (.int .i64 x14) (cl Tryd.prog 56 #[(.agg #[(.int .i64 x12), (.int .i64 x14)])] w168 fun v169 w170 => asA 2 v169 fun a171 => asI .i64 (a171 0) fun x172 => asI .i64 (a171 1) fun x173 => (hd w170 (⟨r3, 0, none⟩ : Addr) (.int .i64 x16) (hd w170 (Addr.add (⟨r3, 0, none⟩ : Addr) 1) (.int .i64 x18) (cl Tryd.prog 56 #[(.agg #[(.int .i64 x16), (.int .i64 x18)])] w170 fun v174 w175 => asA 2 v174 fun a176 => asI .i64 (a176 0) fun x177 => asI .i64 (a176 1) fun x178 => (st w175 (⟨r167, 0, none⟩ : Addr) (.int .i64 x172) fun w179 => (st w179 (Addr.add (⟨r167, 0, none⟩ : Addr) 1) (.int .i64 x173) fun w180 => (st w180 (⟨r138, 0, none⟩ : Addr) (.int .i64 x177) fun w181 => (st w181 (Addr.add (⟨r138, 0, none⟩ : Addr) 1) (.int .i64 x178) fun w182 => (J9 [(.pointer (some (⟨r167, 0, none⟩ : Addr))), (.pointer (some (⟨r138, 0, none⟩ : Addr)))] w182))))))))))))))))))))))))))))))))
theorem F44_link (a_0 : Int) (a_1 : Int) (a_2 : Int) (b_0 : Int) (b_1 : Int) (b_2 : Int) (w : World) (Q : Value → World → Prop) : fnEv Tryd.prog Tryd.f44 h44 [(.agg #[(.int .i64 a_0), (.int .i64 a_1), (.int .i64 a_2)]), (.agg #[(.int .i64 b_0), (.int .i64 b_1), (.int .i64 b_2)])] w Q = F44 a_0 a_1 a_2 b_0 b_1 b_2 w Q := by kernel_rfl
theorem F44_calls {a_0 : Int} {a_1 : Int} {a_2 : Int} {b_0 : Int} {b_1 : Int} {b_2 : Int} {w : World} {Q : Value → World → Prop} (hF_ : F44 a_0 a_1 a_2 b_0 b_1 b_2 w Q) : cl Tryd.prog 44 #[(.agg #[(.int .i64 a_0), (.int .i64 a_1), (.int .i64 a_2)]), (.agg #[(.int .i64 b_0), (.int .i64 b_1), (.int .i64 b_2)])] w Q :=
  calls_of_ev (fn := Tryd.f44) Tryd.func44 h44 (args := [(.agg #[(.int .i64 a_0), (.int .i64 a_1), (.int .i64 a_2)]), (.agg #[(.int .i64 b_0), (.int .i64 b_1), (.int .i64 b_2)])]) (by rw [F44_link]; exact hF_)

/-! tiltyard/box.within -/
def h45 : Hint := (.s .d (.j [(2, 4)] .d .d))
set_option linter.unusedVariables false in
def F45 (n : Int) (w : World) (Q : Value → World → Prop) : Prop :=
 
(jn (fun s1 w2 => asB (s1.getD 0 undef) fun b4 => (Q (.bool b4) w2))
 (fun J3 => (cond (decide ((-1152921504606846976 : Int) ≤ n)) (J3 [(.bool (decide (n ≤ (1152921504606846976 : Int))))] w) (J3 [(.bool false)] w))))
theorem F45_link (n : Int) (w : World) (Q : Value → World → Prop) : fnEv Tryd.prog Tryd.f45 h45 [(.int .i64 n)] w Q = F45 n w Q := by kernel_rfl
theorem F45_calls {n : Int} {w : World} {Q : Value → World → Prop} (hF_ : F45 n w Q) : cl Tryd.prog 45 #[(.int .i64 n)] w Q :=
  calls_of_ev (fn := Tryd.f45) Tryd.func45 h45 (args := [(.int .i64 n)]) (by rw [F45_link]; exact hF_)

/-! tiltyard/grid.Cells -/
def h46 : Hint := (.s .d (.s .d (.s (.o (ofL [0, 1, 2, 3, 4, 5, 6, 7, 8, 9, 10, 11, 12, 14, 15, 16, 17, 18, 19, 20, 21, 22, 23, 24, 25, 26, 27, 28, 13, 29, 30, 31] .nil)) (.s (.j [(58, 4)] .d .d) (.s .d (.s .d (.s .d (.s .d (.s (.s .d (.l [(6, 107), (11, 99), (79, 3)] (.s .d (.s .d (.s (.s .d (.s (.s .d (.l [(11, 99), (12, 107), (83, 3)] .d)) .d)) .d))))) .d)))))))))
set_option linter.unusedVariables false in
def F46 (s : Int) (b_0 : Int) (b_1 : Int) (b_2 : Int) (w : World) (Q : Value → World → Prop) : Prop :=
 (nw w (.cells #[(.int .i64 b_0), (.int .i64 b_1), (.int .i64 b_2)] 38) fun r1 w2 => (lv (0 : Int) fun y3 => 
(cl Tryd.prog 51 #[(.int .i64 s)] w2 fun v4 w5 => asB v4 fun b6 => 
(cond (!b6) (lv (1 : Int) fun y7 => 
(Q (.tuple #[(.slice none 0 0), (.int .i64 y7)]) w5)) (ld w5 (⟨r1, 0, none⟩ : Addr) fun v8 => asI .i64 v8 fun x9 => (ld w5 (Addr.add (⟨r1, 0, none⟩ : Addr) 1) fun v10 => asI .i64 v10 fun x11 => (ld w5 (Addr.add (⟨r1, 0, none⟩ : Addr) 2) fun v12 => asI .i64 v12 fun x13 => (cl Tryd.prog 31 #[(.agg #[(.int .i64 x9), (.int .i64 x11), (.int .i64 x13)])] w5 fun v14 w15 => asI .i64 v14 fun x16 => 
(cond (x16 != (0 : Int)) (lv (60 : Int) fun y17 => 
(Q (.tuple #[(.slice none 0 0), (.int .i64 y17)]) w15)) 
(dw w15 fun w18 => (ld w18 (⟨r1, 0, none⟩ : Addr) fun v19 => asI .i64 v19 fun x20 => (ld w18 (Addr.add (⟨r1, 0, none⟩ : Addr) 2) fun v21 => asI .i64 v21 fun x22 => (ld w18 (Addr.add (⟨r1, 0, none⟩ : Addr) 1) fun v23 => asI .i64 v23 fun x24 => (ld w18 (Addr.add (⟨r1, 0, none⟩ : Addr) 2) fun v25 => asI .i64 v25 fun x26 => (ld w18 (⟨r1, 0, none⟩ : Addr) fun v27 => asI .i64 v27 fun x28 => (ld w18 (Addr.add (⟨r1, 0, none⟩ : Addr) 2) fun v29 => asI .i64 v29 fun x30 => (ld w18 (Addr.add (⟨r1, 0, none⟩ : Addr) 1) fun v31 => asI .i64 v31 fun x32 => (ld w18 (Addr.add (⟨r1, 0, none⟩ : Addr) 2) fun v33 => asI .i64 v33 fun x34 => (cl Tryd.prog 58 #[(.int .i64 s), (.int .i64 (IntKind.wrap .i64 (x20 - x22))), (.int .i64 (IntKind.wrap .i64 (x24 - x26)))] w18 fun v35 w36 => asC .f64 v35 fun f37 g38 => (hd w36 (Addr.add (⟨r1, 0, none⟩ : Addr) 2) (.int .i64 x34) (hd w36 (Addr.add (⟨r1, 0, none⟩ : Addr) 1) (.int .i64 x32) (hd w36 (Addr.add (⟨r1, 0, none⟩ : Addr) 2) (.int .i64 x30) (hd w36 (⟨r1, 0, none⟩ : Addr) (.int .i64 x28) (hd w36 (Addr.add (⟨r1, 0, none⟩ : Addr) 2) (.int .i64 x26) (hd w36 (Addr.add (⟨r1, 0, none⟩ : Addr) 1) (.int .i64 x24) (hd w36 (Addr.add (⟨r1, 0, none⟩ : Addr) 2) (.int .i64 x22) (hd w36 (⟨r1, 0, none⟩ : Addr) (.int .i64 x20) (cl Tryd.prog 58 #[(.int .i64 s), (.int .i64 (IntKind.wrap .i64 ((IntKind.wrap .i64 (x28 + x30)) - (1 : Int)))), (.int .i64 (IntKind.wrap .i64 ((IntKind.wrap .i64 (x32 + x34)) - (1 : Int))))] w36 fun v39 w40 => asC .f64 v39 fun f41 g42 => (hd w40 (Addr.add (⟨r1, 0, none⟩ : Addr) 2) (.int .i64 x34) (hd w40 (Addr.add (⟨r1, 0, none⟩ : Addr) 1) (.int .i64 x32) (hd w40 (Addr.add (⟨r1, 0, none⟩ : Addr) 2) (.int .i64 x30) (hd w40 (⟨r1, 0, none⟩ : Addr) (.int .i64 x28) (hd w40 (Addr.add (⟨r1, 0, none⟩ : Addr) 2) (.int .i64 x26) (hd w40 (Addr.add (⟨r1, 0, none⟩ : Addr) 1) (.int .i64 x24) (hd w40 (Addr.add (⟨r1, 0, none⟩ : Addr) 2) (.int .i64 x22) (hd w40 (⟨r1, 0, none⟩ : Addr) (.int .i64 x20) 
(jn (fun s43 w44 => asB (s43.getD 0 undef) fun b52 => (cond b52 (lv (40 : Int) fun y53 => 
(Q (.tuple #[(.slice none 0 0), (.int .i64 y53)]) w44)) 
(so ((FloatKind.format .f64).sub f41 f37) fun f54 => so ((FloatKind.format .f64).sub g42 g38) fun g55 => 
(f2i .f64 f54 .i64 fun x56 => (f2i .f64 g55 .i64 fun x57 => (lv (IntKind.wrap .i64 (x56 + (1 : Int))) fun wide_58 => (lv (IntKind.wrap .i64 (x57 + (1 : Int))) fun tall_59 => 

(cond (decide ((IntKind.wrap .i64 (wide_58 * tall_59)) > (1024 : Int))) (lv (2 : Int) fun y60 => 
(Q (.tuple #[(.slice none 0 0), (.int .i64 y60)]) w44)) 
(rn Tryd.prog (Instr.makeSlice 99 (.int .i64 (0 : Int)) (.int .i64 (IntKind.wrap .i64 (wide_58 * tall_59)))) w44 fun v61 w62 => asS v61 fun p63 n64 c65 => 

(lp [(.complex .f64 f37 g38), (.slice p63 n64 c65), (.int .i64 (0 : Int))] w62 fun J68 s66 w67 => asC .f64 (s66.getD 0 undef) fun f69 g70 => asS (s66.getD 1 undef) fun p71 n72 c73 => asI .i64 (s66.getD 2 undef) fun x74 => 
(cond (decide (x74 < tall_59)) 


(lp [(.slice p71 n72 c73), (.complex .f64 f69 g70), (.int .i64 (0 : Int))] w67 fun J77 s75 w76 => asS (s75.getD 0 undef) fun p78 n79 c80 => asC .f64 (s75.getD 1 undef) fun f81 g82 => asI .i64 (s75.getD 2 undef) fun x83 => 
(cond (decide (x83 < wide_58)) 
(nw w76 (.cells #[(.complex .f64 f81 g82)] 107) fun r84 w85 => (rn Tryd.prog (Builtin.append_ #[99, 99] 99 #[(.slice p78 n79 c80), (.slice (some (⟨r84, 0, none⟩ : Addr)) 1 1)]) w85 fun v86 w87 => asS v86 fun p88 n89 c90 => 
(so ((FloatKind.format .f64).add f81 4607182418800017408) fun f91 => so ((FloatKind.format .f64).add g82 0) fun g92 => 
(J77 [(.slice p88 n89 c90), (.complex .f64 f91 g92), (.int .i64 (IntKind.wrap .i64 (x83 + (1 : Int))))] w87)))) 
(so ((FloatKind.format .f64).add f69 0) fun f93 => so ((FloatKind.format .f64).add g70 4607182418800017408) fun g94 => 
(J68 [(.complex .f64 f93 g94), (.slice p78 n79 c80), (.int .i64 (IntKind.wrap .i64 (x74 + (1 : Int))))] w76)))) 
(lv (0 : Int) fun y95 => 
(Q (.tuple #[(.slice p71 n72 c73), (.int .i64 y95)]) w67)))))))))))))
 (fun J45 => (cl Tryd.prog 59 #[(.complex .f64 f37 g38)] w40 fun v46 w47 => asB v46 fun b48 => (cond (!b48) (J45 [(.bool true)] w47) (cl Tryd.prog 59 #[(.complex .f64 f41 g42)] w47 fun v49 w50 => asB v49 fun b51 => (J45 [(.bool (!b51))] w50))))))))))))))))))))))))))))))))))))))))))
theorem F46_link (s : Int) (b_0 : Int) (b_1 : Int) (b_2 : Int) (w : World) (Q : Value → World → Prop) : fnEv Tryd.prog Tryd.f46 h46 [(.int .i64 s), (.agg #[(.int .i64 b_0), (.int .i64 b_1), (.int .i64 b_2)])] w Q = F46 s b_0 b_1 b_2 w Q := by kernel_rfl
theorem F46_calls {s : Int} {b_0 : Int} {b_1 : Int} {b_2 : Int} {w : World} {Q : Value → World → Prop} (hF_ : F46 s b_0 b_1 b_2 w Q) : cl Tryd.prog 46 #[(.int .i64 s), (.agg #[(.int .i64 b_0), (.int .i64 b_1), (.int .i64 b_2)])] w Q :=
  calls_of_ev (fn := Tryd.f46) Tryd.func46 h46 (args := [(.int .i64 s), (.agg #[(.int .i64 b_0), (.int .i64 b_1), (.int .i64 b_2)])]) (by rw [F46_link]; exact hF_)

/-! slices.IndexFunc[[]int,int] -/
def h49 : Hint := (.s .d (.s (.s .d (.l [(8, 3)] .d)) .d))
set_option linter.unusedVariables false in
def F49 (s : Option Addr) (s_n s_c : Nat) (f : Nat) (f_fs f_cs : Array Value) (w : World) (Q : Value → World → Prop) : Prop :=
 (lv (0 : Int) fun y1 => 

(lp [(.int .i64 (0 : Int))] w fun J4 s2 w3 => asI .i64 (s2.getD 0 undef) fun x5 => 
(cond (decide (x5 < (s_n : Int))) 
(lv x5 fun i_6 => 
(dr s fun a7 => (bnd i_6 s_n (ld w3 (Addr.add a7 (Int.toNat i_6 * 1)) fun v8 => asI .i64 v8 fun x9 => (cond (callOk Tryd.prog f) (cl Tryd.prog f (f_fs ++ #[(.int .i64 x9)] ++ f_cs) w3 fun v10 w11 => asB v10 fun b12 => 
(cond b12 (lv i_6 fun y13 => 
(Q (.int .i64 y13) w11)) 
(J4 [(.int .i64 (IntKind.wrap .i64 (x5 + (1 : Int))))] w11))) (xt Tryd.prog f (f_fs ++ #[(.int .i64 x9)] ++ f_cs) w3 fun v10 w11 => asB v10 fun b12 => 
(cond b12 (lv i_6 fun y13 => 
(Q (.int .i64 y13) w11)) 
(J4 [(.int .i64 (IntKind.wrap .i64 (x5 + (1 : Int))))] w11)))))))) 
(lv (-1 : Int) fun y14 => 
(Q (.int .i64 y14) w3)))))
theorem F49_link (s : Option Addr) (s_n s_c : Nat) (f : Nat) (f_fs f_cs : Array Value) (w : World) (Q : Value → World → Prop) : fnEv Tryd.prog Tryd.f49 h49 [(.slice s s_n s_c), (.func (.func f) f_fs f_cs)] w Q = F49 s s_n s_c f f_fs f_cs w Q := by kernel_rfl
theorem F49_calls {s : Option Addr} {s_n s_c : Nat} {f : Nat} {f_fs f_cs : Array Value} {w : World} {Q : Value → World → Prop} (hF_ : F49 s s_n s_c f f_fs f_cs w Q) : cl Tryd.prog 49 #[(.slice s s_n s_c), (.func (.func f) f_fs f_cs)] w Q :=
  calls_of_ev (fn := Tryd.f49) Tryd.func49 h49 (args := [(.slice s s_n s_c), (.func (.func f) f_fs f_cs)]) (by rw [F49_link]; exact hF_)

/-! (*tiltyard/grid.Grid).put -/
def h50 : Hint := (.s .d (.s (.o (ofL [0, 1, 2, 3, 4, 5, 6] .nil)) (.s .d (.l [(18, 3)] .d))))
set_option linter.unusedVariables false in
def F50 (g : Option Addr) (id : Int) (b_0 : Int) (b_1 : Int) (b_2 : Int) (l : Option Addr) (l_n l_c : Nat) (w : World) (Q : Value → World → Prop) : Prop :=
 (nw w (.cells #[(.int .i64 b_0), (.int .i64 b_1), (.int .i64 b_2)] 38) fun r1 w2 => 
(dw w2 fun w3 => (dr g fun a4 => (ld w3 (Addr.add a4 1) fun v5 => asM v5 fun r6 => (ld w3 (⟨r1, 0, none⟩ : Addr) fun v7 => asI .i64 v7 fun x8 => (ld w3 (Addr.add (⟨r1, 0, none⟩ : Addr) 1) fun v9 => asI .i64 v9 fun x10 => (ld w3 (Addr.add (⟨r1, 0, none⟩ : Addr) 2) fun v11 => asI .i64 v11 fun x12 => (ru Tryd.prog (Instr.mapUpdate 102 (.map r6) (.int .i64 id) (.agg #[(.int .i64 x8), (.int .i64 x10), (.int .i64 x12)])) w3 fun w13 => 

(lp [(.int .i64 (0 : Int))] w13 fun J16 s14 w15 => asI .i64 (s14.getD 0 undef) fun x17 => 
(cond (decide (x17 < (l_n : Int))) 
(dr l fun a18 => (bnd x17 l_n (ld w15 (Addr.add a18 (Int.toNat x17 * 1)) fun v19 => asC .f64 v19 fun f20 g21 => 
(dr g fun a22 => (ld w15 (Addr.add a22 2) fun v23 => asM v23 fun r24 => (nw w15 (.cells #[(.int .i64 id)] 3) fun r25 w26 => (rn Tryd.prog (Instr.mapEntry 103 (.map r24) (.complex .f64 f20 g21)) w26 fun v27 w28 => asT 2 v27 fun t29 => asS (t29 0) fun p30 n31 c32 => asI .i64 (t29 1) fun x33 => (rn Tryd.prog (Builtin.append_ #[23, 23] 23 #[(.slice p30 n31 c32), (.slice (some (⟨r25, 0, none⟩ : Addr)) 1 1)]) w28 fun v34 w35 => asS v34 fun p36 n37 c38 => (ru Tryd.prog (Instr.entryStore 103 (.map r24) (.int .i64 x33) (.slice p36 n37 c38)) w35 fun w39 => 
(J16 [(.int .i64 (IntKind.wrap .i64 (x17 + (1 : Int))))] w39)))))))))) (Q (.tuple #[]) w15)))))))))))
theorem F50_link (g : Option Addr) (id : Int) (b_0 : Int) (b_1 : Int) (b_2 : Int) (l : Option Addr) (l_n l_c : Nat) (w : World) (Q : Value → World → Prop) : fnEv Tryd.prog Tryd.f50 h50 [(.pointer g), (.int .i64 id), (.agg #[(.int .i64 b_0), (.int .i64 b_1), (.int .i64 b_2)]), (.slice l l_n l_c)] w Q = F50 g id b_0 b_1 b_2 l l_n l_c w Q := by kernel_rfl
theorem F50_calls {g : Option Addr} {id : Int} {b_0 : Int} {b_1 : Int} {b_2 : Int} {l : Option Addr} {l_n l_c : Nat} {w : World} {Q : Value → World → Prop} (hF_ : F50 g id b_0 b_1 b_2 l l_n l_c w Q) : cl Tryd.prog 50 #[(.pointer g), (.int .i64 id), (.agg #[(.int .i64 b_0), (.int .i64 b_1), (.int .i64 b_2)]), (.slice l l_n l_c)] w Q :=
  calls_of_ev (fn := Tryd.f50) Tryd.func50 h50 (args := [(.pointer g), (.int .i64 id), (.agg #[(.int .i64 b_0), (.int .i64 b_1), (.int .i64 b_2)]), (.slice l l_n l_c)]) (by rw [F50_link]; exact hF_)

/-! tiltyard/grid.side -/
def h51 : Hint := (.s .d (.j [(2, 4)] .d .d))
set_option linter.unusedVariables false in
def F51 (s : Int) (w : World) (Q : Value → World → Prop) : Prop :=
 
(jn (fun s1 w2 => asB (s1.getD 0 undef) fun b4 => (Q (.bool b4) w2))
 (fun J3 => (cond (decide ((1 : Int) ≤ s)) (J3 [(.bool (decide (s ≤ (1099511627776 : Int))))] w) (J3 [(.bool false)] w))))
theorem F51_link (s : Int) (w : World) (Q : Value → World → Prop) : fnEv Tryd.prog Tryd.f51 h51 [(.int .i64 s)] w Q = F51 s w Q := by kernel_rfl
theorem F51_calls {s : Int} {w : World} {Q : Value → World → Prop} (hF_ : F51 s w Q) : cl Tryd.prog 51 #[(.int .i64 s)] w Q :=
  calls_of_ev (fn := Tryd.f51) Tryd.func51 h51 (args := [(.int .i64 s)]) (by rw [F51_link]; exact hF_)

/-! tiltyard/world.within -/
def h52 : Hint := (.s .d (.j [(4, 4)] .d .d))
set_option linter.unusedVariables false in
def F52 (n : Int) (most : Int) (w : World) (Q : Value → World → Prop) : Prop :=
 
(jn (fun s1 w2 => asB (s1.getD 0 undef) fun b4 => (Q (.bool b4) w2))
 (fun J3 => (cond (decide ((IntKind.wrap .i64 ((0 : Int) - most)) ≤ n)) (J3 [(.bool (decide (n ≤ most)))] w) (J3 [(.bool false)] w))))
theorem F52_link (n : Int) (most : Int) (w : World) (Q : Value → World → Prop) : fnEv Tryd.prog Tryd.f52 h52 [(.int .i64 n), (.int .i64 most)] w Q = F52 n most w Q := by kernel_rfl
theorem F52_calls {n : Int} {most : Int} {w : World} {Q : Value → World → Prop} (hF_ : F52 n most w Q) : cl Tryd.prog 52 #[(.int .i64 n), (.int .i64 most)] w Q :=
  calls_of_ev (fn := Tryd.f52) Tryd.func52 h52 (args := [(.int .i64 n), (.int .i64 most)]) (by rw [F52_link]; exact hF_)

/-! tiltyard/tiltyardref19.within -/
def h53 : Hint := (.s .d (.j [(4, 4)] .d .d))
set_option linter.unusedVariables false in
def F53 (n : Int) (most : Int) (w : World) (Q : Value → World → Prop) : Prop :=
 
(jn (fun s1 w2 => asB (s1.getD 0 undef) fun b4 => (Q (.bool b4) w2))
 (fun J3 => (cond (decide (n ≥ (IntKind.wrap .i64 ((0 : Int) - most)))) (J3 [(.bool (decide (n ≤ most)))] w) (J3 [(.bool false)] w))))
theorem F53_link (n : Int) (most : Int) (w : World) (Q : Value → World → Prop) : fnEv Tryd.prog Tryd.f53 h53 [(.int .i64 n), (.int .i64 most)] w Q = F53 n most w Q := by kernel_rfl
theorem F53_calls {n : Int} {most : Int} {w : World} {Q : Value → World → Prop} (hF_ : F53 n most w Q) : cl Tryd.prog 53 #[(.int .i64 n), (.int .i64 most)] w Q :=
  calls_of_ev (fn := Tryd.f53) Tryd.func53 h53 (args := [(.int .i64 n), (.int .i64 most)]) (by rw [F53_link]; exact hF_)

/-! (*tiltyard/grid.Grid).drop -/
def h54 : Hint := (.s .d (.s (.o (ofL [0, 1, 2, 3, 4, 5, 6, 7, 8, 9, 10, 11, 12, 13, 14, 15] .nil)) (.s (.s .d (.l [(25, 3)] (.s .d (.s .d (.j [] .d .d))))) (.o (ofL [0, 1, 2, 3, 4, 5] .nil)))))
set_option linter.unusedVariables false in
def F54 (g : Option Addr) (id : Int) (w : World) (Q : Value → World → Prop) : Prop :=
 (nw w (.cells #[(.int .i64 id)] 3) fun r1 w2 => 
(dw w2 fun w3 => (dr g fun a4 => (ld w3 a4 fun v5 => asI .i64 v5 fun x6 => (dr g fun a7 => (ld w3 (Addr.add a7 1) fun v8 => asM v8 fun r9 => (ld w3 (⟨r1, 0, none⟩ : Addr) fun v10 => asI .i64 v10 fun x11 => (rq Tryd.prog (Instr.lookup 102 (.map r9) (.int .i64 x11) false) w3 fun v12 => asA 3 v12 fun a13 => asI .i64 (a13 0) fun x14 => asI .i64 (a13 1) fun x15 => asI .i64 (a13 2) fun x16 => (cl Tryd.prog 46 #[(.int .i64 x6), (.agg #[(.int .i64 x14), (.int .i64 x15), (.int .i64 x16)])] w3 fun v17 w18 => asT 2 v17 fun t19 => asS (t19 0) fun p20 n21 c22 => asI .i64 (t19 1) fun x23 => (hd w18 (⟨r1, 0, none⟩ : Addr) (.int .i64 x11) (hd w18 (Addr.add a7 1) (.map r9) (lv x23 fun __24 => 

(lp [(.int .i64 (0 : Int))] w18 fun J27 s25 w26 => asI .i64 (s25.getD 0 undef) fun x28 => 
(cond (decide (x28 < (n21 : Int))) 
(jn (fun s29 w30 => (J27 [(.int .i64 (IntKind.wrap .i64 (x28 + (1 : Int))))] w30))
 (fun J31 => (dr p20 fun a32 => (bnd x28 n21 (ld w26 (Addr.add a32 (Int.toNat x28 * 1)) fun v33 => asC .f64 v33 fun f34 g35 => 
(dr g fun a36 => (ld w26 (Addr.add a36 2) fun v37 => asM v37 fun r38 => (rq Tryd.prog (Instr.lookup 103 (.map r38) (.complex .f64 f34 g35) false) w26 fun v39 => asS v39 fun p40 n41 c42 => (cl Tryd.prog 63 #[(.slice p40 n41 c42), (.func (.func 64) #[] #[(.pointer (some (⟨r1, 0, none⟩ : Addr)))])] w26 fun v43 w44 => asS v43 fun p45 n46 c47 => 
(dr g fun a48 => (ld w44 (Addr.add a48 2) fun v49 => asM v49 fun r50 => (ru Tryd.prog (Instr.mapUpdate 103 (.map r50) (.complex .f64 f34 g35) (.slice p45 n46 c47)) w44 fun w51 => 

(cond ((n46 : Int) == (0 : Int)) (dr g fun a52 => (ld w51 (Addr.add a52 2) fun v53 => asM v53 fun r54 => (rn Tryd.prog (Builtin.delete_ #[103, 107] 0 #[(.map r54), (.complex .f64 f34 g35)]) w51 fun v55 w56 => (J31 [] w56)))) (J31 [] w51)))))))))))))) 
(dw w26 fun w57 => (dr g fun a58 => (ld w57 (Addr.add a58 1) fun v59 => asM v59 fun r60 => (ld w57 (⟨r1, 0, none⟩ : Addr) fun v61 => asI .i64 v61 fun x62 => (rn Tryd.prog (Builtin.delete_ #[102, 3] 0 #[(.map r60), (.int .i64 x62)]) w57 fun v63 w64 => (Q (.tuple #[]) w64))))))))))))))))))))
theorem F54_link (g : Option Addr) (id : Int) (w : World) (Q : Value → World → Prop) : fnEv Tryd.prog Tryd.f54 h54 [(.pointer g), (.int .i64 id)] w Q = F54 g id w Q := by kernel_rfl
theorem F54_calls {g : Option Addr} {id : Int} {w : World} {Q : Value → World → Prop} (hF_ : F54 g id w Q) : cl Tryd.prog 54 #[(.pointer g), (.int .i64 id)] w Q :=
  calls_of_ev (fn := Tryd.f54) Tryd.func54 h54 (args := [(.pointer g), (.int .i64 id)]) (by rw [F54_link]; exact hF_)

/-! tiltyard/box.all -/
def h55 : Hint := (.s .d (.s (.s .d (.l [(9, 3)] .d)) .d))
set_option linter.unusedVariables false in
def F55 (a_0 : Int) (a_1 : Int) (a_2 : Int) (l : Option Addr) (l_n l_c : Nat) (w : World) (Q : Value → World → Prop) : Prop :=
 (nw w (.cells #[(.int .i64 a_0), (.int .i64 a_1), (.int .i64 a_2)] 38) fun r1 w2 => 

(lp [(.int .i64 (0 : Int))] w2 fun J5 s3 w4 => asI .i64 (s3.getD 0 undef) fun x6 => 
(cond (decide (x6 < (l_n : Int))) 
(dr l fun a7 => (bnd x6 l_n (ld w4 (Addr.add a7 (Int.toNat x6 * 3)) fun v8 => asI .i64 v8 fun x9 => (ld w4 (Addr.add (Addr.add a7 (Int.toNat x6 * 3)) 1) fun v10 => asI .i64 v10 fun x11 => (ld w4 (Addr.add (Addr.add a7 (Int.toNat x6 * 3)) 2) fun v12 => asI .i64 v12 fun x13 => (nw w4 (.cells #[(.int .i64 (0 : Int)), (.int .i64 (0 : Int)), (.int .i64 (0 : Int))] 38) fun r14 w15 => (st w15 (⟨r14, 0, none⟩ : Addr) (.int .i64 x9) fun w16 => (st w16 (Addr.add (⟨r14, 0, none⟩ : Addr) 1) (.int .i64 x11) fun w17 => (st w17 (Addr.add (⟨r14, 0, none⟩ : Addr) 2) (.int .i64 x13) fun w18 => 
(ld w18 (⟨r14, 0, none⟩ : Addr) fun v19 => asI .i64 v19 fun x20 => (ld w18 (Addr.add (⟨r14, 0, none⟩ : Addr) 1) fun v21 => asI .i64 v21 fun x22 => (ld w18 (Addr.add (⟨r14, 0, none⟩ : Addr) 2) fun v23 => asI .i64 v23 fun x24 => (cl Tryd.prog 31 #[(.agg #[(.int .i64 x20), (.int .i64 x22), (.int .i64 x24)])] w18 fun v25 w26 => asI .i64 v25 fun x27 => 
(cond (x27 != (0 : Int)) 
(Q (.bool false) w26) 
(J5 [(.int .i64 (IntKind.wrap .i64 (x6 + (1 : Int))))] w26))))))))))))))) 
(ld w4 (⟨r1, 0, none⟩ : Addr) fun v28 => asI .i64 v28 fun x29 => (ld w4 (Addr.add (⟨r1, 0, none⟩ : Addr) 1) fun v30 => asI .i64 v30 fun x31 => (ld w4 (Addr.add (⟨r1, 0, none⟩ : Addr) 2) fun v32 => asI .i64 v32 fun x33 => (cl Tryd.prog 31 #[(.agg #[(.int .i64 x29), (.int .i64 x31), (.int .i64 x33)])] w4 fun v34 w35 => asI .i64 v34 fun x36 => 
(Q (.bool (x36 == (0 : Int))) w35))))))))
theorem F55_link (a_0 : Int) (a_1 : Int) (a_2 : Int) (l : Option Addr) (l_n l_c : Nat) (w : World) (Q : Value → World → Prop) : fnEv Tryd.prog Tryd.f55 h55 [(.agg #[(.int .i64 a_0), (.int .i64 a_1), (.int .i64 a_2)]), (.slice l l_n l_c)] w Q = F55 a_0 a_1 a_2 l l_n l_c w Q := by kernel_rfl
theorem F55_calls {a_0 : Int} {a_1 : Int} {a_2 : Int} {l : Option Addr} {l_n l_c : Nat} {w : World} {Q : Value → World → Prop} (hF_ : F55 a_0 a_1 a_2 l l_n l_c w Q) : cl Tryd.prog 55 #[(.agg #[(.int .i64 a_0), (.int .i64 a_1), (.int .i64 a_2)]), (.slice l l_n l_c)] w Q :=
  calls_of_ev (fn := Tryd.f55) Tryd.func55 h55 (args := [(.agg #[(.int .i64 a_0), (.int .i64 a_1), (.int .i64 a_2)]), (.slice l l_n l_c)]) (by rw [F55_link]; exact hF_)

/-! tiltyard/box.parts -/
def h56 : Hint := .d
set_option linter.unusedVariables false in
def F56 (p_0 : Int) (p_1 : Int) (w : World) (Q : Value → World → Prop) : Prop :=
 (nw w (.cells #[(.int .i64 p_0), (.int .i64 p_1)] 36) fun r1 w2 => (nw w2 (.cells #[(.int .i64 (0 : Int)), (.int .i64 (0 : Int))] 97) fun r3 w4 => 
(ld w4 (⟨r1, 0, none⟩ : Addr) fun v5 => asI .i64 v5 fun x6 => (ld w4 (Addr.add (⟨r1, 0, none⟩ : Addr) 1) fun v7 => asI .i64 v7 fun x8 => (st w4 (⟨r3, 0, none⟩ : Addr) (.int .i64 x6) fun w9 => (st w9 (Addr.add (⟨r3, 0, none⟩ : Addr) 1) (.int .i64 x8) fun w10 => 
(ld w10 (⟨r3, 0, none⟩ : Addr) fun v11 => asI .i64 v11 fun x12 => (ld w10 (Addr.add (⟨r3, 0, none⟩ : Addr) 1) fun v13 => asI .i64 v13 fun x14 => (Q (.agg #[(.int .i64 x12), (.int .i64 x14)]) w10)))))))))
theorem F56_link (p_0 : Int) (p_1 : Int) (w : World) (Q : Value → World → Prop) : fnEv Tryd.prog Tryd.f56 h56 [(.agg #[(.int .i64 p_0), (.int .i64 p_1)])] w Q = F56 p_0 p_1 w Q := by kernel_rfl
theorem F56_calls {p_0 : Int} {p_1 : Int} {w : World} {Q : Value → World → Prop} (hF_ : F56 p_0 p_1 w Q) : cl Tryd.prog 56 #[(.agg #[(.int .i64 p_0), (.int .i64 p_1)])] w Q :=
  calls_of_ev (fn := Tryd.f56) Tryd.func56 h56 (args := [(.agg #[(.int .i64 p_0), (.int .i64 p_1)])]) (by rw [F56_link]; exact hF_)

/-! tiltyard/box.gaps$1 -/
def h57 : Hint := (.s .d (.s (.o (ofL [0, 1, 2, 3, 4, 5, 6, 7, 8, 9, 10, 11, 12, 13, 14, 15, 16, 17, 18, 19, 20, 21] .nil)) .d))
set_option linter.unusedVariables false in
def F57 (i : Int) (free0_p : Option Addr) (free1_p : Option Addr) (free2_p : Option Addr) (free3_p : Option Addr) (w : World) (Q : Value → World → Prop) : Prop :=
 (lv (0 : Int) fun y1 => 
(dw w fun w2 => (dr free0_p fun a3 => (bnd i 2 (ld w2 (Addr.add a3 (Int.toNat i * 1)) fun v4 => asI .i64 v4 fun x5 => (dr free1_p fun a6 => (bnd i 2 (ld w2 (Addr.add a6 (Int.toNat i * 1)) fun v7 => asI .i64 v7 fun x8 => (dr free1_p fun a9 => (bnd i 2 (ld w2 (Addr.add a9 (Int.toNat i * 1)) fun v10 => asI .i64 v10 fun x11 => (dr free0_p fun a12 => (bnd i 2 (ld w2 (Addr.add a12 (Int.toNat i * 1)) fun v13 => asI .i64 v13 fun x14 => (dr free2_p fun a15 => (ld w2 (Addr.add a15 2) fun v16 => asI .i64 v16 fun x17 => (dr free3_p fun a18 => (ld w2 (Addr.add a18 2) fun v19 => asI .i64 v19 fun x20 => (lv (IntKind.wrap .i64 ((IntKind.wrap .i64 ((if (IntKind.wrap .i64 (x11 - x14)) > (IntKind.wrap .i64 (x5 - x8)) then (IntKind.wrap .i64 (x11 - x14)) else (IntKind.wrap .i64 (x5 - x8))) - x17)) - x20)) fun y21 => 
(Q (.int .i64 y21) w2))))))))))))))))))))
theorem F57_link (i : Int) (free0_p : Option Addr) (free1_p : Option Addr) (free2_p : Option Addr) (free3_p : Option Addr) (w : World) (Q : Value → World → Prop) : fnEv Tryd.prog Tryd.f57 h57 [(.int .i64 i), (.pointer free0_p), (.pointer free1_p), (.pointer free2_p), (.pointer free3_p)] w Q = F57 i free0_p free1_p free2_p free3_p w Q := by kernel_rfl
theorem F57_calls {i : Int} {free0_p : Option Addr} {free1_p : Option Addr} {free2_p : Option Addr} {free3_p : Option Addr} {w : World} {Q : Value → World → Prop} (hF_ : F57 i free0_p free1_p free2_p free3_p w Q) : cl Tryd.prog 57 #[(.int .i64 i), (.pointer free0_p), (.pointer free1_p), (.pointer free2_p), (.pointer free3_p)] w Q :=
  calls_of_ev (fn := Tryd.f57) Tryd.func57 h57 (args := [(.int .i64 i), (.pointer free0_p), (.pointer free1_p), (.pointer free2_p), (.pointer free3_p)]) (by rw [F57_link]; exact hF_)

/-! tiltyard/grid.cell -/
def h58 : Hint := .d
set_option linter.unusedVariables false in
def F58 (s : Int) (x : Int) (y : Int) (w : World) (Q : Value → World → Prop) : Prop :=
 
(cl Tryd.prog 65 #[(.int .i64 x), (.int .i64 s)] w fun v1 w2 => asF .f64 v1 fun f3 => (cl Tryd.prog 65 #[(.int .i64 y), (.int .i64 s)] w2 fun v4 w5 => asF .f64 v4 fun f6 => 
(Q (.complex .f64 f3 f6) w5)))
theorem F58_link (s : Int) (x : Int) (y : Int) (w : World) (Q : Value → World → Prop) : fnEv Tryd.prog Tryd.f58 h58 [(.int .i64 s), (.int .i64 x), (.int .i64 y)] w Q = F58 s x y w Q := by kernel_rfl
theorem F58_calls {s : Int} {x : Int} {y : Int} {w : World} {Q : Value → World → Prop} (hF_ : F58 s x y w Q) : cl Tryd.prog 58 #[(.int .i64 s), (.int .i64 x), (.int .i64 y)] w Q :=
  calls_of_ev (fn := Tryd.f58) Tryd.func58 h58 (args := [(.int .i64 s), (.int .i64 x), (.int .i64 y)]) (by rw [F58_link]; exact hF_)

/-! tiltyard/lattice.Cell -/
def h59 : Hint := (.s .d (.j [(2, 4)] .d .d))
set_option linter.unusedVariables false in
def F59 (p_r p_i : Nat) (w : World) (Q : Value → World → Prop) : Prop :=
 
(jn (fun s1 w2 => asB (s1.getD 0 undef) fun b10 => (Q (.bool b10) w2))
 (fun J3 => (cl Tryd.prog 66 #[(.float .f64 p_r)] w fun v4 w5 => asB v4 fun b6 => (cond b6 (cl Tryd.prog 66 #[(.float .f64 p_i)] w5 fun v7 w8 => asB v7 fun b9 => (J3 [(.bool b9)] w8)) (J3 [(.bool false)] w5)))))
theorem F59_link (p_r p_i : Nat) (w : World) (Q : Value → World → Prop) : fnEv Tryd.prog Tryd.f59 h59 [(.complex .f64 p_r p_i)] w Q = F59 p_r p_i w Q := by kernel_rfl
theorem F59_calls {p_r p_i : Nat} {w : World} {Q : Value → World → Prop} (hF_ : F59 p_r p_i w Q) : cl Tryd.prog 59 #[(.complex .f64 p_r p_i)] w Q :=
  calls_of_ev (fn := Tryd.f59) Tryd.func59 h59 (args := [(.complex .f64 p_r p_i)]) (by rw [F59_link]; exact hF_)

/-! slices.DeleteFunc[[]int,int] -/
def h63 : Hint := (.s .d (.s .d (.s .d (.s (.s .d (.l [(5, 3), (6, 3)] (.s .d (.j [(5, 3)] .d .d)))) .d))))
set_option linter.unusedVariables false in
def F63 (s : Option Addr) (s_n s_c : Nat) (del : Nat) (del_fs del_cs : Array Value) (w : World) (Q : Value → World → Prop) : Prop :=
 
(cl Tryd.prog 49 #[(.slice s s_n s_c), (.func (.func del) del_fs del_cs)] w fun v1 w2 => asI .i64 v1 fun x3 => (lv x3 fun i_4 => 

(cond (i_4 == (-1 : Int)) 
(Q (.slice s s_n s_c) w2) 
(lv (IntKind.wrap .i64 (i_4 + (1 : Int))) fun j_5 => 
(lp [(.int .i64 i_4), (.int .i64 j_5)] w2 fun J8 s6 w7 => asI .i64 (s6.getD 0 undef) fun x9 => asI .i64 (s6.getD 1 undef) fun x10 => 
(cond (decide (x10 < (s_n : Int))) 
(jn (fun s11 w12 => asI .i64 (s11.getD 0 undef) fun x24 => (lv (IntKind.wrap .i64 (x10 + (1 : Int))) fun j_25 => (J8 [(.int .i64 x24), (.int .i64 j_25)] w12)))
 (fun J13 => (dr s fun a14 => (bnd x10 s_n (ld w7 (Addr.add a14 (Int.toNat x10 * 1)) fun v15 => asI .i64 v15 fun x16 => (lv x16 fun v_17 => 
(cond (callOk Tryd.prog del) (cl Tryd.prog del (del_fs ++ #[(.int .i64 v_17)] ++ del_cs) w7 fun v18 w19 => asB v18 fun b20 => 
(cond (!b20) (dr s fun a21 => (bnd x9 s_n (st w19 (Addr.add a21 (Int.toNat x9 * 1)) (.int .i64 v_17) fun w22 => 
(lv (IntKind.wrap .i64 (x9 + (1 : Int))) fun i_23 => (J13 [(.int .i64 i_23)] w22))))) (J13 [(.int .i64 x9)] w19))) (xt Tryd.prog del (del_fs ++ #[(.int .i64 v_17)] ++ del_cs) w7 fun v18 w19 => asB v18 fun b20 => 
(cond (!b20) (dr s fun a21 => (bnd x9 s_n (st w19 (Addr.add a21 (Int.toNat x9 * 1)) (.int .i64 v_17) fun w22 => 
(lv (IntKind.wrap .i64 (x9 + (1 : Int))) fun i_23 => (J13 [(.int .i64 i_23)] w22))))) (J13 [(.int .i64 x9)] w19)))))))))) 
(bn2 x9 s_n (rn Tryd.prog (Builtin.clear_ #[23] 0 #[(.slice (slp s s_c (Int.toNat x9) 1) (s_n - (Int.toNat x9)) (s_c - (Int.toNat x9)))]) w7 fun v26 w27 => 
(bn2 x9 s_c 
(Q (.slice s (Int.toNat x9) s_c) w27))))))))))
theorem F63_link (s : Option Addr) (s_n s_c : Nat) (del : Nat) (del_fs del_cs : Array Value) (w : World) (Q : Value → World → Prop) : fnEv Tryd.prog Tryd.f63 h63 [(.slice s s_n s_c), (.func (.func del) del_fs del_cs)] w Q = F63 s s_n s_c del del_fs del_cs w Q := by kernel_rfl
theorem F63_calls {s : Option Addr} {s_n s_c : Nat} {del : Nat} {del_fs del_cs : Array Value} {w : World} {Q : Value → World → Prop} (hF_ : F63 s s_n s_c del del_fs del_cs w Q) : cl Tryd.prog 63 #[(.slice s s_n s_c), (.func (.func del) del_fs del_cs)] w Q :=
  calls_of_ev (fn := Tryd.f63) Tryd.func63 h63 (args := [(.slice s s_n s_c), (.func (.func del) del_fs del_cs)]) (by rw [F63_link]; exact hF_)

/-! (*tiltyard/grid.Grid).drop$1 -/
def h64 : Hint := .d
set_option linter.unusedVariables false in
def F64 (n : Int) (free0_p : Option Addr) (w : World) (Q : Value → World → Prop) : Prop :=
 
(dr free0_p fun a1 => (ld w a1 fun v2 => asI .i64 v2 fun x3 => 
(Q (.bool (n == x3)) w)))
theorem F64_link (n : Int) (free0_p : Option Addr) (w : World) (Q : Value → World → Prop) : fnEv Tryd.prog Tryd.f64 h64 [(.int .i64 n), (.pointer free0_p)] w Q = F64 n free0_p w Q := by kernel_rfl
theorem F64_calls {n : Int} {free0_p : Option Addr} {w : World} {Q : Value → World → Prop} (hF_ : F64 n free0_p w Q) : cl Tryd.prog 64 #[(.int .i64 n), (.pointer free0_p)] w Q :=
  calls_of_ev (fn := Tryd.f64) Tryd.func64 h64 (args := [(.int .i64 n), (.pointer free0_p)]) (by rw [F64_link]; exact hF_)

/-! tiltyard/grid.floor -/
def h65 : Hint := (.s .d (.s .d (.j [(5, 3)] .d .d)))
set_option linter.unusedVariables false in
def F65 (n : Int) (s : Int) (w : World) (Q : Value → World → Prop) : Prop :=
 
(nz s (lv (IntKind.wrap .i64 (Int.tdiv n s)) fun q_1 => 
(jn (fun s2 w3 => asI .i64 (s2.getD 0 undef) fun x6 => 
(Q (.float .f64 (FloatKind.nearest .f64 x6)) w3))
 (fun J4 => (nz s 
(cond (decide ((Int.tmod n s) < (0 : Int))) (lv (IntKind.wrap .i64 (q_1 - (1 : Int))) fun q_5 => (J4 [(.int .i64 q_5)] w)) (J4 [(.int .i64 q_1)] w)))))))
theorem F65_link (n : Int) (s : Int) (w : World) (Q : Value → World → Prop) : fnEv Tryd.prog Tryd.f65 h65 [(.int .i64 n), (.int .i64 s)] w Q = F65 n s w Q := by kernel_rfl
theorem F65_calls {n : Int} {s : Int} {w : World} {Q : Value → World → Prop} (hF_ : F65 n s w Q) : cl Tryd.prog 65 #[(.int .i64 n), (.int .i64 s)] w Q :=
  calls_of_ev (fn := Tryd.f65) Tryd.func65 h65 (args := [(.int .i64 n), (.int .i64 s)]) (by rw [F65_link]; exact hF_)

/-! tiltyard/lattice.whole -/
def h66 : Hint := (.s .d (.j [(2, 4)] .d .d))
set_option linter.unusedVariables false in
def F66 (x : Nat) (w : World) (Q : Value → World → Prop) : Prop :=
 
(jn (fun s1 w2 => asB (s1.getD 0 undef) fun b10 => (Q (.bool b10) w2))
 (fun J3 => (cl Tryd.prog 70 #[(.float .f64 x)] w fun v4 w5 => asF .f64 v4 fun f6 => (cond (((FloatKind.format .f64).order f6 4697254411347427328) == some .lt || ((FloatKind.format .f64).order f6 4697254411347427328) == some .eq) (cl Tryd.prog 71 #[(.float .f64 x)] w5 fun v7 w8 => asF .f64 v7 fun f9 => (J3 [(.bool (((FloatKind.format .f64).order x f9) == some .eq))] w8)) (J3 [(.bool false)] w5)))))
theorem F66_link (x : Nat) (w : World) (Q : Value → World → Prop) : fnEv Tryd.prog Tryd.f66 h66 [(.float .f64 x)] w Q = F66 x w Q := by kernel_rfl
theorem F66_calls {x : Nat} {w : World} {Q : Value → World → Prop} (hF_ : F66 x w Q) : cl Tryd.prog 66 #[(.float .f64 x)] w Q :=
  calls_of_ev (fn := Tryd.f66) Tryd.func66 h66 (args := [(.float .f64 x)]) (by rw [F66_link]; exact hF_)

/-! math.Abs -/
def h70 : Hint := .d
set_option linter.unusedVariables false in
def F70 (x : Nat) (w : World) (Q : Value → World → Prop) : Prop :=
 
(xt Tryd.prog 84 #[(.float .f64 x)] w fun v1 w2 => asI .u64 v1 fun x3 => (xt Tryd.prog 83 #[(.int .u64 (Go.bits .andNot .u64 x3 (9223372036854775808 : Int)))] w2 fun v4 w5 => asF .f64 v4 fun f6 => 
(Q (.float .f64 f6) w5)))
theorem F70_link (x : Nat) (w : World) (Q : Value → World → Prop) : fnEv Tryd.prog Tryd.f70 h70 [(.float .f64 x)] w Q = F70 x w Q := by kernel_rfl
theorem F70_calls {x : Nat} {w : World} {Q : Value → World → Prop} (hF_ : F70 x w Q) : cl Tryd.prog 70 #[(.float .f64 x)] w Q :=
  calls_of_ev (fn := Tryd.f70) Tryd.func70 h70 (args := [(.float .f64 x)]) (by rw [F70_link]; exact hF_)

/-! math.Trunc -/
def h71 : Hint := (.s .d (.s (.s .d .d) .d))
set_option linter.unusedVariables false in
def F71 (x : Nat) (w : World) (Q : Value → World → Prop) : Prop :=
 
(xt Tryd.prog 85 #[(.float .f64 x)] w fun v1 w2 => asF .f64 v1 fun f3 => 
(Q (.float .f64 f3) w2))
theorem F71_link (x : Nat) (w : World) (Q : Value → World → Prop) : fnEv Tryd.prog Tryd.f71 h71 [(.float .f64 x)] w Q = F71 x w Q := by kernel_rfl
theorem F71_calls {x : Nat} {w : World} {Q : Value → World → Prop} (hF_ : F71 x w Q) : cl Tryd.prog 71 #[(.float .f64 x)] w Q :=
  calls_of_ev (fn := Tryd.f71) Tryd.func71 h71 (args := [(.float .f64 x)]) (by rw [F71_link]; exact hF_)

-- NOT PRINTED 110 "(*tiltyard/grid.Grid).Count": no body

/-! tiltyard/physics.axes$1 -/
def h113 : Hint := .d
set_option linter.unusedVariables false in
def F113 (v : Option Addr) (w : World) (Q : Value → World → Prop) : Prop :=
 
(dr v fun a1 => 
(Q (.pointer (some a1)) w))
theorem F113_link (v : Option Addr) (w : World) (Q : Value → World → Prop) : fnEv Tryd.prog Tryd.f113 h113 [(.pointer v)] w Q = F113 v w Q := by kernel_rfl
theorem F113_calls {v : Option Addr} {w : World} {Q : Value → World → Prop} (hF_ : F113 v w Q) : cl Tryd.prog 113 #[(.pointer v)] w Q :=
  calls_of_ev (fn := Tryd.f113) Tryd.func113 h113 (args := [(.pointer v)]) (by rw [F113_link]; exact hF_)

/-! tiltyard/physics.axes$2 -/
def h114 : Hint := .d
set_option linter.unusedVariables false in
def F114 (v : Option Addr) (w : World) (Q : Value → World → Prop) : Prop :=
 
(dr v fun a1 => 
(Q (.pointer (some (Addr.add a1 1))) w))
theorem F114_link (v : Option Addr) (w : World) (Q : Value → World → Prop) : fnEv Tryd.prog Tryd.f114 h114 [(.pointer v)] w Q = F114 v w Q := by kernel_rfl
theorem F114_calls {v : Option Addr} {w : World} {Q : Value → World → Prop} (hF_ : F114 v w Q) : cl Tryd.prog 114 #[(.pointer v)] w Q :=
  calls_of_ev (fn := Tryd.f114) Tryd.func114 h114 (args := [(.pointer v)]) (by rw [F114_link]; exact hF_)

end Go.Proofs.YtamobmjfdiecbaaDoor

/-
  Sy: WORKING WITH THE FORMULAS OF Sx: the words' values at typed values; what a call leaves alone ('Ext'); rows of memory of the
  call's own, over the library's 'ownsRow'. Own work of the session; no condition.
-/
namespace Go.Sx
open Go Go.RowKit

/-! ### The words at typed values -/
theorem asI_mk {k : IntKind} {x : Int} {K : Int → Prop} : asI k (.int k x) K = K x := by simp [asI]
theorem asB_mk {x : Bool} {K : Bool → Prop} : asB (.bool x) K = K x := by simp [asB]
theorem asP_mk {x : Option Addr} {K : Option Addr → Prop} : asP (.pointer x) K = K x := by simp [asP]
theorem asS_mk {p : Option Addr} {n c : Nat} {K : Option Addr → Nat → Nat → Prop} : asS (.slice p n c) K = K p n c := by
  apply propext
  exact ⟨fun ⟨_, _, _, h1, h2⟩ => by cases h1; exact h2, fun h => ⟨_, _, _, rfl, h⟩⟩
theorem asY_mk {x : ByteArray} {K : ByteArray → Prop} : asY (.string x) K = K x := by simp [asY]
theorem asM_mk {x : Option Nat} {K : Option Nat → Prop} : asM (.map x) K = K x := by simp [asM]
theorem asF_mk {k : FloatKind} {x : Nat} {K : Nat → Prop} : asF k (.float k x) K = K x := by simp [asF]
theorem asC_mk {k : FloatKind} {x y : Nat} {K : Nat → Nat → Prop} : asC k (.complex k x y) K = K x y := by
  apply propext
  exact ⟨fun ⟨_, _, h1, h2⟩ => by cases h1; exact h2, fun h => ⟨_, _, rfl, h⟩⟩
theorem asN_mk {k : Nat} {fs cs : Array Value} {K : Nat → Array Value → Array Value → Prop} : asN (.func (.func k) fs cs) K = K k fs cs := by
  apply propext
  exact ⟨fun ⟨_, _, _, h1, h2⟩ => by cases h1; exact h2, fun h => ⟨_, _, _, rfl, h⟩⟩
theorem asA_mk {n : Nat} {l : List Value} {K : (Nat → Value) → Prop} (h : l.length = n) : asA n (.agg l.toArray) K = K (fun i => l.getD i undef) := by
  apply propext
  constructor
  · rintro ⟨l', h1, h2, h3⟩
    have : l = l' := by simpa using h1
    subst this
    exact h3
  · intro h'
    exact ⟨l, rfl, h, h'⟩
theorem asT_mk {n : Nat} {l : List Value} {K : (Nat → Value) → Prop} (h : l.length = n) : asT n (.tuple l.toArray) K = K (fun i => l.getD i undef) := by
  apply propext
  constructor
  · rintro ⟨l', h1, h2, h3⟩
    have : l = l' := by simpa using h1
    subst this
    exact h3
  · intro h'
    exact ⟨l, rfl, h, h'⟩
theorem dr_some {a : Addr} {K : Addr → Prop} : dr (some a) K = K a := rfl

theorem ld_mk {w : World} {a : Addr} {v : Value} {K : Value → Prop} (h : w.cell? a = some v) (hk : K v) : ld w a K := ⟨v, h, hk⟩
theorem cl_mono {P : Program} {f : FuncId} {args : Array Value} {w : World} {K K' : Value → World → Prop} (h : cl P f args w K) (hk : ∀ v w', K v w' → K' v w') : cl P f args w K' :=
  Calls.mono h fun _ _ ⟨v, he, hv⟩ => ⟨v, he, hk _ _ hv⟩
theorem rn_mk {P : Program} {s : Sem Value} {w : World} {K : Value → World → Prop} {v : Value} {w' : World} (h : s.run P w = .ok v w') (hk : K v w') : rn P s w K := by
  unfold rn; rw [h]; exact hk
theorem ru_mk {P : Program} {s : Sem Unit} {w : World} {K : World → Prop} {w' : World} (h : s.run P w = .ok () w') (hk : K w') : ru P s w K := by
  unfold ru; rw [h]; exact hk
theorem rq_mk {P : Program} {s : Sem Value} {w : World} {K : Value → Prop} {v : Value} (h : s.run P w = .ok v w) (hk : K v) : rq P s w K := ⟨v, h, hk⟩
theorem jn_mk {K : List Value → World → Prop} {B : (List Value → World → Prop) → Prop} (h : B K) : jn K B := h
theorem dw_mk {w : World} {K : World → Prop} (h : K w.drew) : dw w K := h
theorem bnd_mk {i : Int} {n : Nat} {X : Prop} (h1 : 0 ≤ i) (h2 : i < n) (h : X) : bnd i n X := ⟨⟨h1, h2⟩, h⟩
theorem bn2_mk {i : Int} {n : Nat} {X : Prop} (h1 : 0 ≤ i) (h2 : i ≤ n) (h : X) : bn2 i n X := ⟨⟨h1, h2⟩, h⟩
theorem nz_mk {y : Int} {X : Prop} (h1 : y ≠ 0) (h : X) : nz y X := by
  unfold nz
  have : (y == 0) = false := by simpa using h1
  rw [this]; exact h
theorem nn_mk {y : Int} {X : Prop} (h1 : 0 ≤ y) (h : X) : nn y X := by
  unfold nn
  have : decide (y < 0) = false := by simpa using h1
  rw [this]; exact h
theorem cond_t {b : Bool} {A B : Prop} (hb : b = true) (h : A) : cond b A B := by subst hb; exact h
theorem cond_f {b : Bool} {A B : Prop} (hb : b = false) (h : B) : cond b A B := by subst hb; exact h
theorem cond_split {b : Bool} {A B : Prop} (h1 : b = true → A) (h2 : b = false → B) : cond b A B := by cases b; exact h2 rfl; exact h1 rfl

/-- A loop, by what holds of a typed state at a number of rounds that are still to come. -/
theorem lp_mk {σ : Type} (enc : σ → List Value) (I : Nat → σ → World → Prop) {vs : List Value} {w : World}
    {body : (List Value → World → Prop) → List Value → World → Prop} (n0 : Nat) (s0 : σ) (h0 : enc s0 = vs) (hI : I n0 s0 w)
    (h : ∀ n s w, I n s w → ∀ J : List Value → World → Prop, (∀ m s' w', m < n → I m s' w' → J (enc s') w') → body J (enc s) w) : lp vs w body := by
  refine ⟨fun n vs w => ∃ s, enc s = vs ∧ I n s w, ⟨n0, s0, h0, hI⟩, ?_⟩
  rintro n vs w ⟨s, rfl, hs⟩
  exact h n s w hs _ fun m s' w' hm hi => ⟨m, hm, s', rfl, hi⟩

/-! ### What is left alone -/
/-- w' is w with new blocks, and writes to blocks of M alone; the streams are as they were. -/
structure Ext (M : Nat → Prop) (w w' : World) : Prop where
  os : w'.os = w.os
  tape : w'.tape = w.tape
  output : w'.output = w.output
  size : w.heap.size ≤ w'.heap.size
  block : ∀ k, k < w.heap.size → ¬ M k → w'.heap[k]? = w.heap[k]?

def no : Nat → Prop := fun _ => False
def onl (g : Nat) : Nat → Prop := fun k => k = g

theorem Ext.refl (M : Nat → Prop) (w : World) : Ext M w w := ⟨rfl, rfl, rfl, Nat.le_refl _, fun _ _ _ => rfl⟩
theorem Ext.trans {M : Nat → Prop} {a b c : World} (h : Ext M a b) (k : Ext M b c) : Ext M a c :=
  ⟨k.os.trans h.os, k.tape.trans h.tape, k.output.trans h.output, Nat.le_trans h.size k.size, fun i hi hm => (k.block i (Nat.lt_of_lt_of_le hi h.size) hm).trans (h.block i hi hm)⟩
theorem Ext.mono {M M' : Nat → Prop} {w w' : World} (h : Ext M w w') (hm : ∀ k, k < w.heap.size → M k → M' k) : Ext M' w w' :=
  ⟨h.os, h.tape, h.output, h.size, fun k hk hn => h.block k hk fun hmk => hn (hm k hk hmk)⟩
theorem Ext.of_no {M : Nat → Prop} {w w' : World} (h : Ext no w w') : Ext M w w' := h.mono fun _ _ hf => hf.elim
/-- a later step may write what is new, and M -/
theorem Ext.then {M M' : Nat → Prop} {a b c : World} (h : Ext M a b) (k : Ext M' b c) (hm : ∀ i, i < a.heap.size → M' i → M i) : Ext M a c :=
  ⟨k.os.trans h.os, k.tape.trans h.tape, k.output.trans h.output, Nat.le_trans h.size k.size,
    fun i hi hn => (k.block i (Nat.lt_of_lt_of_le hi h.size) fun hmi => hn (hm i hi hmi)).trans (h.block i hi hn)⟩
theorem Ext.drew (w : World) : Ext no w w.drew := ⟨rfl, rfl, rfl, Nat.le_refl _, fun _ _ _ => rfl⟩
theorem Ext.alloc (w : World) (o : Obj) : Ext no w (w.alloc o) := ⟨rfl, rfl, rfl, by simp, fun k hk _ => Below.heap_alloc w o k hk⟩
theorem Ext.set (w : World) (a : Addr) (v : Value) : Ext (onl a.block) w (w.setCell a v) :=
  ⟨rfl, rfl, rfl, by simp [World.setCell], fun _ _ hn => Below.heap_setCell w a v _ hn⟩
theorem Ext.of_grown {w w' : World} {row : Option Nat} (h : w.grownBy w' row) : Ext (fun k => some k = row) w w' :=
  ⟨h.os, h.tape, h.output, h.size, fun k hk hn => h.block k hk hn⟩
theorem Ext.below {M : Nat → Prop} {w w' : World} (h : Ext M w w') (hm : ∀ k, k < w.heap.size → ¬ M k) : Below w.heap.size w w' :=
  ⟨h.os, h.tape, h.output, h.size, fun k hk => h.block k hk (hm k hk)⟩

theorem blk_lt {w : World} {k : Nat} {o : Obj} (h : w.heap[k]? = some o) : k < w.heap.size := (Array.getElem?_eq_some_iff.1 h).1
theorem Ext.blk {M : Nat → Prop} {w w' : World} (h : Ext M w w') {k : Nat} {o : Obj} (hb : w.heap[k]? = some o) (hn : ¬ M k) : w'.heap[k]? = some o :=
  (h.block k (blk_lt hb) hn).trans hb
theorem Ext.cell {M : Nat → Prop} {w w' : World} (h : Ext M w w') {a : Addr} {v : Value} (hc : w.cell? a = some v) (hn : ¬ M a.block) : w'.cell? a = some v :=
  (World.cell?_of_block (h.block a.block (World.block_lt_of_cell? w a hc) hn)).trans hc
theorem Ext.own {M : Nat → Prop} {w w' : World} (h : Ext M w w') {base : Nat} {e : TypeId} {size : Nat} {v : Value} {n : Nat} {xs : List Value}
    (ho : w.ownsRow base e size v n xs) (hn : ∀ g, v.ownBlock = some g → ¬ M g) : w'.ownsRow base e size v n xs := by
  refine ⟨ho.1, ?_⟩
  rcases ho.2 with hx | ⟨g, cap, cur, rfl, hb, hg, rest⟩
  · exact .inl hx
  · exact .inr ⟨g, cap, cur, rfl, hb, h.blk hg (hn g rfl), rest⟩

theorem blk_cell {w : World} {k : Nat} {cs : Array Value} {t : TypeId} {fr : Nat × Nat} (h : w.heap[k]? = some (.cells cs t fr)) (j : Nat) : w.cell? ⟨k, j, none⟩ = cs[j]? := by
  simp [World.cell?, h]
theorem blk_frozen {w : World} {k : Nat} {cs : Array Value} {t : TypeId} (h : w.heap[k]? = some (.cells cs t (0, 0))) (j : Nat) : w.frozen? ⟨k, j, none⟩ = false := by
  simp [World.frozen?, h]
theorem blk_set {w : World} {k : Nat} {cs : Array Value} {t : TypeId} {fr : Nat × Nat} (h : w.heap[k]? = some (.cells cs t fr)) (j : Nat) (v : Value) :
    (w.setCell ⟨k, j, none⟩ v).heap[k]? = some (.cells (cs.setIfInBounds j v) t fr) := by
  have hlt := blk_lt h
  have he : w.heap[k] = .cells cs t fr := by
    have := Array.getElem?_eq_some_iff.1 h
    exact this.2
  simp [World.setCell, Array.getElem?_modify, h]
theorem st_mk {w : World} {k : Nat} {cs : Array Value} {t : TypeId} {j : Nat} {v : Value} {K : World → Prop} (h : w.heap[k]? = some (.cells cs t (0, 0))) (hj : j < cs.size) (ho : one v = true)
    (hk : K (w.setCell ⟨k, j, none⟩ v)) : st w ⟨k, j, none⟩ v K := by
  refine ⟨⟨cs[j], ?_⟩, blk_frozen h j, ho, hk⟩
  rw [blk_cell h]
  simp [hj]
theorem nw_mk {w : World} {o : Obj} {K : Nat → World → Prop} (h : K w.heap.size (w.alloc o)) : nw w o K := h
theorem new_blk (w : World) (o : Obj) : (w.alloc o).heap[w.heap.size]? = some o := heap_alloc_new w o
theorem new_size (w : World) (o : Obj) : (w.alloc o).heap.size = w.heap.size + 1 := by simp
theorem drew_heap (w : World) : w.drew.heap = w.heap := rfl
theorem drew_cell (w : World) (a : Addr) : w.drew.cell? a = w.cell? a := rfl

theorem add_mk (k o n : Nat) : Addr.add ⟨k, o, none⟩ n = ⟨k, o + n, none⟩ := by
  unfold Addr.add; split <;> simp_all

/-! ### Slices that are read -/
/-- the slice's places read as these values -/
def Reads (w : World) (p : Option Addr) (vs : List Value) : Prop :=
  vs = [] ∨ ∃ b o, p = some ⟨b, o, none⟩ ∧ ∀ (i : Nat) (v : Value), vs[i]? = some v → w.cell? ⟨b, o + i, none⟩ = some v

theorem Reads.ext {M : Nat → Prop} {w w' : World} (h : Ext M w w') {p : Option Addr} {vs : List Value} (hr : Reads w p vs) (hn : ∀ a, p = some a → ¬ M a.block) : Reads w' p vs := by
  rcases hr with h0 | ⟨b, o, rfl, hc⟩
  · exact .inl h0
  · exact .inr ⟨b, o, rfl, fun i v hv => h.cell (hc i v hv) (hn ⟨b, o, none⟩ rfl)⟩

theorem Reads.below {w w' : World} {B : Nat} (h : Ext (fun k => B ≤ k) w w') {p : Option Addr} {vs : List Value} (hr : Reads w p vs) (hn : ∀ a, p = some a → a.block < B) : Reads w' p vs :=
  hr.ext h fun a ha => by have := hn a ha; omega

/-- one read of a slice's place -/
theorem Reads.at {w : World} {p : Option Addr} {vs : List Value} (hr : Reads w p vs) {i : Int} {v : Value} (h0 : 0 ≤ i) (hv : vs[i.toNat]? = some v) {K : Value → Prop} (hk : K v) {n : Nat} (hn : vs.length ≤ n) :
    dr p fun a => bnd i n (ld w (Addr.add a (Int.toNat i * 1)) K) := by
  rcases hr with rfl | ⟨b, o, rfl, hc⟩
  · simp at hv
  · refine bnd_mk h0 ?_ ?_
    · have := (List.getElem?_eq_some_iff.1 hv).1
      omega
    · rw [Nat.mul_one, add_mk]
      exact ld_mk (hc _ _ hv) hk

theorem own_reads {w : World} {base : Nat} {e : TypeId} {v : Value} {n : Nat} {xs : List Value} (h : w.ownsRow base e 1 v n xs) :
    ∃ p c, v = .slice p n c ∧ Reads w p xs ∧ n ≤ c ∧ c ≤ maxLen ∧ (∀ a, p = some a → base ≤ a.block ∧ a.block < w.heap.size) := by
  have hl := h.1
  rcases h.2 with ⟨rfl, rfl⟩ | ⟨g, cap, cur, rfl, hb, hg, h1, h2, h3, h4⟩
  · refine ⟨none, 0, rfl, .inl ?_, Nat.le_refl _, by simp [maxLen], by simp⟩
    exact List.eq_nil_of_length_eq_zero (by simpa using hl)
  · refine ⟨_, cap, rfl, .inr ⟨g, 0, rfl, fun i v hv => ?_⟩, h1, h2, fun a ha => ?_⟩
    · rw [blk_cell hg, Nat.zero_add]
      rw [← h4, List.getElem?_take] at hv
      split at hv
      · simpa using hv
      · cases hv
    · cases ha
      exact ⟨hb, blk_lt hg⟩
end Go.Sx
