/- The formulas that the evaluator Sx.ev comes to for functions of this seat, each with its linking theorem (by the kernel). Printed by this session's own program (wip/tool/sxgen.py). -/
import Derived.Test.YtppjcjbdkihnaaaProg
import Derived.Test.YtppjcjbdkihnaaaSx
import Derived.KernelRfl
namespace Go.Proofs.Ytppjcjbdkihnaaa
open Go Go.Sx
set_option maxRecDepth 100000

/-! tiltyard/tiltyardlaw04.LatticeSpiral -/
def h3 : Hint := (.s .d (.s .d (.s .d (.s (.j [(28, 4)] .d (.s (.j [(2, 4)] .d .d) .d)) (.s .d (.s .d (.s .d (.s (.j [(72, 4)] .d .d) (.j [] (.s .d (.s (.s .d (.j [(86, 4)] .d .d)) .d)) (.s .d (.s .d (.s .d (.j [(16, 4)] .d (.j [(2, 4)] .d .d))))))))))))))
set_option linter.unusedVariables false in
def F3 (n : Int) (w : World) (Q : Value → World → Prop) : Prop :=
 
(cl Try.prog 4 #[] w fun v1 w2 => asB v1 fun b3 => 
(cl Try.prog 5 #[(.int .i64 n)] w2 fun v4 w5 => asT 2 v4 fun t6 => asC .f64 (t6 0) fun f7 g8 => asI .i64 (t6 1) fun x9 => (lv x9 fun e_10 => 
(jn (fun s11 w12 => asB (s11.getD 0 undef) fun b14 => (cond b14 (jn (fun s15 w16 => asB (s15.getD 0 undef) fun b18 => (Q (.bool b18) w16))
 (fun J17 => (cond b3 (cond ((FloatKind.format .f64).order f7 0 == some .eq && (FloatKind.format .f64).order g8 0 == some .eq) (cond (decide (n < (0 : Int))) (J17 [(.bool true)] w12) (J17 [(.bool (decide (n > (1000000 : Int))))] w12)) (J17 [(.bool false)] w12)) (J17 [(.bool false)] w12)))) 
(cl Try.prog 6 #[(.complex .f64 0 0), (.complex .f64 f7 g8)] w12 fun v19 w20 => asT 2 v19 fun t21 => asI .i64 (t21 0) fun x22 => asI .i64 (t21 1) fun x23 => (lv x22 fun k_24 => (lv x23 fun f_25 => 
(lv (IntKind.wrap .i64 ((IntKind.wrap .i64 ((2 : Int) * k_24)) + (1 : Int))) fun side_26 => 
(lv (IntKind.wrap .i64 ((IntKind.wrap .i64 ((2 : Int) * k_24)) - (1 : Int))) fun inner_27 => 
(jn (fun s28 w29 => asB (s28.getD 0 undef) fun b31 => (cond b31 
(Q (.bool false) w29) 
(jn (fun s32 w33 => (cl Try.prog 5 #[(.int .i64 (IntKind.wrap .i64 (n + (1 : Int))))] w33 fun v46 w47 => asT 2 v46 fun t48 => asC .f64 (t48 0) fun f49 g50 => asI .i64 (t48 1) fun x51 => (lv x51 fun g_52 => 

(cond (g_52 != (0 : Int)) 
(Q (.bool (n == (1000000 : Int))) w47) 
(cl Try.prog 6 #[(.complex .f64 f7 g8), (.complex .f64 f49 g50)] w47 fun v53 w54 => asT 2 v53 fun t55 => asI .i64 (t55 0) fun x56 => asI .i64 (t55 1) fun x57 => (lv x56 fun d_58 => (lv x57 fun __59 => 
(jn (fun s60 w61 => asB (s60.getD 0 undef) fun b63 => (jn (fun s64 w65 => asB (s64.getD 0 undef) fun b67 => (Q (.bool b67) w65))
 (fun J66 => (cond (d_58 == (1 : Int)) (J66 [(.bool b63)] w61) (J66 [(.bool false)] w61)))))
 (fun J62 => (cond (((FloatKind.format .f64).order f7 f49) == some .eq) (J62 [(.bool true)] w54) (J62 [(.bool (((FloatKind.format .f64).order g8 g50) == some .eq))] w54)))))))))))
 (fun J34 => 
(cond (decide (k_24 ≤ (500 : Int))) (cl Try.prog 7 #[(.complex .f64 f7 g8)] w29 fun v35 w36 => asT 2 v35 fun t37 => asI .i64 (t37 0) fun x38 => asI .i64 (t37 1) fun x39 => (lv x38 fun at_40 => (lv x39 fun g_41 => 
(jn (fun s42 w43 => asB (s42.getD 0 undef) fun b45 => (cond b45 
(Q (.bool false) w43) (J34 [] w43)))
 (fun J44 => (cond (g_41 != (0 : Int)) (J44 [(.bool true)] w36) (J44 [(.bool (at_40 != n))] w36))))))) (J34 [] w29))))))
 (fun J30 => (cond (f_25 != (0 : Int)) (J30 [(.bool true)] w20) (cond (decide (n ≥ (IntKind.wrap .i64 (side_26 * side_26)))) (J30 [(.bool true)] w20) (cond (decide (k_24 > (0 : Int))) (J30 [(.bool (decide (n < (IntKind.wrap .i64 (inner_27 * inner_27)))))] w20) (J30 [(.bool false)] w20)))))))))))))
 (fun J13 => (cond (!b3) (J13 [(.bool true)] w5) (J13 [(.bool (e_10 != (0 : Int)))] w5)))))))
theorem F3_link (n : Int) (w : World) (Q : Value → World → Prop) : fnEv Try.prog Try.f3 h3 [(.int .i64 n)] w Q = F3 n w Q := by kernel_rfl
theorem F3_calls {n : Int} {w : World} {Q : Value → World → Prop} (hF_ : F3 n w Q) : cl Try.prog 3 #[(.int .i64 n)] w Q :=
  calls_of_ev (fn := Try.f3) Try.func3 h3 (args := [(.int .i64 n)]) (by rw [F3_link]; exact hF_)

/-! tiltyard/tiltyardlaw04.awake -/
def h4 : Hint := (.s .d (.s .d (.s .d (.s .d (.s .d (.s .d (.s .d (.j [(0, 4)] .d .d))))))))
set_option linter.unusedVariables false in
def F4  (w : World) (Q : Value → World → Prop) : Prop :=
 
(cl Try.prog 8 #[(.complex .f64 4613937818241073152 4611686018427387904), (.int .i64 (1 : Int))] w fun v1 w2 => asT 2 v1 fun t3 => asC .f64 (t3 0) fun f4 g5 => asI .i64 (t3 1) fun x6 => (lv x6 fun e_7 => 
(cl Try.prog 9 #[(.complex .f64 13842939354630062080 4611686018427387904)] w2 fun v8 w9 => asT 2 v8 fun t10 => asI .i64 (t10 0) fun x11 => asI .i64 (t10 1) fun x12 => (lv x11 fun h_13 => (lv x12 fun f_14 => 
(cl Try.prog 10 #[(.complex .f64 0 0), (.complex .f64 4613937818241073152 4607182418800017408)] w9 fun v15 w16 => asT 2 v15 fun t17 => asS (t17 0) fun p18 n19 c20 => asI .i64 (t17 1) fun x21 => (lv x21 fun g_22 => 
(cl Try.prog 5 #[(.int .i64 (9 : Int))] w16 fun v23 w24 => asT 2 v23 fun t25 => asC .f64 (t25 0) fun f26 g27 => asI .i64 (t25 1) fun x28 => (lv x28 fun i_29 => 
(cl Try.prog 7 #[(.complex .f64 13830554455654793216 13830554455654793216)] w24 fun v30 w31 => asT 2 v30 fun t32 => asI .i64 (t32 0) fun x33 => asI .i64 (t32 1) fun x34 => (lv x33 fun n_35 => (lv x34 fun k_36 => 
(cl Try.prog 7 #[(.complex .f64 4647521301399863296 0)] w31 fun v37 w38 => asT 2 v37 fun t39 => asI .i64 (t39 0) fun x40 => asI .i64 (t39 1) fun x41 => (lv x40 fun __42 => (lv x41 fun m_43 => 
(jn (fun s44 w45 => asB (s44.getD 0 undef) fun b54 => (Q (.bool b54) w45))
 (fun J46 => (cond (e_7 == (0 : Int)) (cond ((FloatKind.format .f64).order f4 13835058055282163712 == some .eq && (FloatKind.format .f64).order g5 4613937818241073152 == some .eq) (cond (f_14 == (0 : Int)) (cond (h_13 == (3 : Int)) (cond (g_22 == (0 : Int)) (cond ((n19 : Int) == (3 : Int)) (dr p18 fun a47 => (bnd (1 : Int) n19 (ld w38 (Addr.add a47 (Int.toNat (1 : Int) * 1)) fun v48 => asC .f64 v48 fun f49 g50 => (cond ((FloatKind.format .f64).order f49 4611686018427387904 == some .eq && (FloatKind.format .f64).order g50 4607182418800017408 == some .eq) (cond (i_29 == (0 : Int)) (cond ((FloatKind.format .f64).order f26 4611686018427387904 == some .eq && (FloatKind.format .f64).order g27 13830554455654793216 == some .eq) (cond (k_36 == (0 : Int)) (cond (n_35 == (6 : Int)) (cond (m_43 == (2 : Int)) (cl Try.prog 11 #[(.complex .f64 4609434218613702656 0)] w38 fun v51 w52 => asB v51 fun b53 => (J46 [(.bool (!b53))] w52)) (J46 [(.bool false)] w38)) (J46 [(.bool false)] w38)) (J46 [(.bool false)] w38)) (J46 [(.bool false)] w38)) (J46 [(.bool false)] w38)) (J46 [(.bool false)] w38))))) (J46 [(.bool false)] w38)) (J46 [(.bool false)] w38)) (J46 [(.bool false)] w38)) (J46 [(.bool false)] w38)) (J46 [(.bool false)] w38)) (J46 [(.bool false)] w38)))))))))))))))))))
theorem F4_link  (w : World) (Q : Value → World → Prop) : fnEv Try.prog Try.f4 h4 [] w Q = F4  w Q := by kernel_rfl
theorem F4_calls  {w : World} {Q : Value → World → Prop} (hF_ : F4  w Q) : cl Try.prog 4 #[] w Q :=
  calls_of_ev (fn := Try.f4) Try.func4 h4 (args := []) (by rw [F4_link]; exact hF_)

/-! tiltyard/lattice.Spiral -/
def h5 : Hint := (.s .d (.g 2 [(0, 3), (4, 23), (5, 23), (6, 3)] [(.j [(13, 4)] .d .d), .d] .d))
set_option linter.unusedVariables false in
def F5 (n : Int) (w : World) (Q : Value → World → Prop) : Prop :=
 (lv (0 : Int) fun y1 => 
(jn (fun s2 w3 => asB (s2.getD 0 undef) fun b5 => (cond b5 (lv (1 : Int) fun y6 => 
(Q (.tuple #[(.complex .f64 0 0), (.int .i64 y6)]) w3)) (lv (2 : Int) fun run_7 => (lp [(.int .i64 n), (.complex .f64 0 0), (.complex .f64 4607182418800017408 0), (.int .i64 run_7)] w3 fun J10 s8 w9 => asI .i64 (s8.getD 0 undef) fun x11 => asC .f64 (s8.getD 1 undef) fun f12 g13 => asC .f64 (s8.getD 2 undef) fun f14 g15 => asI .i64 (s8.getD 3 undef) fun x16 => (lv (IntKind.wrap .i64 (Int.tdiv x16 (2 : Int))) fun k_17 => 

(cond (decide (x11 > k_17)) (so ((FloatKind.format .f64).mul f14 (FloatKind.nearest .f64 k_17)) fun f18 => so ((FloatKind.format .f64).mul g15 0) fun f19 => so ((FloatKind.format .f64).sub f18 f19) fun f20 => so ((FloatKind.format .f64).mul f14 0) fun f21 => so ((FloatKind.format .f64).mul g15 (FloatKind.nearest .f64 k_17)) fun f22 => so ((FloatKind.format .f64).add f21 f22) fun f23 => (so ((FloatKind.format .f64).add f12 f20) fun f24 => so ((FloatKind.format .f64).add g13 f23) fun g25 => 
(lv (IntKind.wrap .i64 (x11 - k_17)) fun n_26 => 
(lv (IntKind.wrap .i64 (x16 + (1 : Int))) fun run_27 => 
(so ((FloatKind.format .f64).mul f14 0) fun f28 => so ((FloatKind.format .f64).mul g15 4607182418800017408) fun f29 => so ((FloatKind.format .f64).sub f28 f29) fun f30 => so ((FloatKind.format .f64).mul f14 4607182418800017408) fun f31 => so ((FloatKind.format .f64).mul g15 0) fun f32 => so ((FloatKind.format .f64).add f31 f32) fun f33 => 
(J10 [(.int .i64 n_26), (.complex .f64 f24 g25), (.complex .f64 f30 f33), (.int .i64 run_27)] w9)))))) 
(so ((FloatKind.format .f64).mul f14 (FloatKind.nearest .f64 x11)) fun f34 => so ((FloatKind.format .f64).mul g15 0) fun f35 => so ((FloatKind.format .f64).sub f34 f35) fun f36 => so ((FloatKind.format .f64).mul f14 0) fun f37 => so ((FloatKind.format .f64).mul g15 (FloatKind.nearest .f64 x11)) fun f38 => so ((FloatKind.format .f64).add f37 f38) fun f39 => (so ((FloatKind.format .f64).add f12 f36) fun f40 => so ((FloatKind.format .f64).add g13 f39) fun g41 => (lv (0 : Int) fun y42 => 
(Q (.tuple #[(.complex .f64 f40 g41), (.int .i64 y42)]) w9))))))))))
 (fun J4 => (cond (decide (n < (0 : Int))) (J4 [(.bool true)] w) (J4 [(.bool (decide (n > (1000000 : Int))))] w)))))
theorem F5_link (n : Int) (w : World) (Q : Value → World → Prop) : fnEv Try.prog Try.f5 h5 [(.int .i64 n)] w Q = F5 n w Q := by kernel_rfl
theorem F5_calls {n : Int} {w : World} {Q : Value → World → Prop} (hF_ : F5 n w Q) : cl Try.prog 5 #[(.int .i64 n)] w Q :=
  calls_of_ev (fn := Try.f5) Try.func5 h5 (args := [(.int .i64 n)]) (by rw [F5_link]; exact hF_)

/-! tiltyard/lattice.Far -/
def h6 : Hint := (.s .d (.s (.j [(13, 4)] .d .d) .d))
set_option linter.unusedVariables false in
def F6 (a_r a_i : Nat) (b_r b_i : Nat) (w : World) (Q : Value → World → Prop) : Prop :=
 (lv (0 : Int) fun y1 => (lv (0 : Int) fun y2 => 
(jn (fun s3 w4 => asB (s3.getD 0 undef) fun b12 => (cond b12 (lv (0 : Int) fun y13 => (lv (40 : Int) fun y14 => 
(Q (.tuple #[(.int .i64 y13), (.int .i64 y14)]) w4))) 
(so ((FloatKind.format .f64).sub a_r b_r) fun f15 => so ((FloatKind.format .f64).sub a_i b_i) fun g16 => (cl Try.prog 12 #[(.complex .f64 f15 g16)] w4 fun v17 w18 => asI .i64 v17 fun x19 => (lv x19 fun y20 => (lv (0 : Int) fun y21 => 
(Q (.tuple #[(.int .i64 y20), (.int .i64 y21)]) w18)))))))
 (fun J5 => (cl Try.prog 11 #[(.complex .f64 a_r a_i)] w fun v6 w7 => asB v6 fun b8 => (cond (!b8) (J5 [(.bool true)] w7) (cl Try.prog 11 #[(.complex .f64 b_r b_i)] w7 fun v9 w10 => asB v9 fun b11 => (J5 [(.bool (!b11))] w10))))))))
theorem F6_link (a_r a_i : Nat) (b_r b_i : Nat) (w : World) (Q : Value → World → Prop) : fnEv Try.prog Try.f6 h6 [(.complex .f64 a_r a_i), (.complex .f64 b_r b_i)] w Q = F6 a_r a_i b_r b_i w Q := by kernel_rfl
theorem F6_calls {a_r a_i : Nat} {b_r b_i : Nat} {w : World} {Q : Value → World → Prop} (hF_ : F6 a_r a_i b_r b_i w Q) : cl Try.prog 6 #[(.complex .f64 a_r a_i), (.complex .f64 b_r b_i)] w Q :=
  calls_of_ev (fn := Try.f6) Try.func6 h6 (args := [(.complex .f64 a_r a_i), (.complex .f64 b_r b_i)]) (by rw [F6_link]; exact hF_)

/-! tiltyard/lattice.Place -/
def h7 : Hint := (.s .d (.s .d (.s .d (.s .d (.s .d (.s (.s .d (.s .d (.j [(34, 4)] .d .d))) .d))))))
set_option linter.unusedVariables false in
def F7 (p_r p_i : Nat) (w : World) (Q : Value → World → Prop) : Prop :=
 (lv (0 : Int) fun y1 => (lv (0 : Int) fun y2 => 
(cl Try.prog 11 #[(.complex .f64 p_r p_i)] w fun v3 w4 => asB v3 fun b5 => 
(cond (!b5) (lv (0 : Int) fun y6 => (lv (40 : Int) fun y7 => 
(Q (.tuple #[(.int .i64 y6), (.int .i64 y7)]) w4))) (cl Try.prog 12 #[(.complex .f64 p_r p_i)] w4 fun v8 w9 => asI .i64 v8 fun x10 => 
(cond (decide (x10 > (500 : Int))) (lv (0 : Int) fun y11 => (lv (2 : Int) fun y12 => 
(Q (.tuple #[(.int .i64 y11), (.int .i64 y12)]) w9))) 
(cl Try.prog 12 #[(.complex .f64 p_r p_i)] w9 fun v13 w14 => asI .i64 v13 fun x15 => (lv x15 fun k_16 => 
(f2i .f64 p_r .i64 fun x17 => (f2i .f64 p_i .i64 fun x18 => (lv x17 fun x_19 => (lv x18 fun y_20 => 
(lv (IntKind.wrap .i64 ((IntKind.wrap .i64 ((IntKind.wrap .i64 ((2 : Int) * k_16)) - (1 : Int))) * (IntKind.wrap .i64 ((IntKind.wrap .i64 ((2 : Int) * k_16)) - (1 : Int))))) fun first_21 => 

(cond (k_16 == (0 : Int)) (lv (0 : Int) fun y22 => (lv (0 : Int) fun y23 => 
(Q (.tuple #[(.int .i64 y22), (.int .i64 y23)]) w14))) (jn (fun s24 w25 => asB (s24.getD 0 undef) fun b27 => (cond b27 (lv (IntKind.wrap .i64 ((IntKind.wrap .i64 ((IntKind.wrap .i64 (first_21 + y_20)) + k_16)) - (1 : Int))) fun y28 => (lv (0 : Int) fun y29 => 
(Q (.tuple #[(.int .i64 y28), (.int .i64 y29)]) w25))) 
(cond (y_20 == k_16) (lv (IntKind.wrap .i64 ((IntKind.wrap .i64 ((IntKind.wrap .i64 (first_21 + (IntKind.wrap .i64 ((3 : Int) * k_16)))) - (1 : Int))) - x_19)) fun y30 => (lv (0 : Int) fun y31 => 
(Q (.tuple #[(.int .i64 y30), (.int .i64 y31)]) w25))) 
(cond (x_19 == (IntKind.wrap .i64 ((0 : Int) - k_16))) (lv (IntKind.wrap .i64 ((IntKind.wrap .i64 ((IntKind.wrap .i64 (first_21 + (IntKind.wrap .i64 ((5 : Int) * k_16)))) - (1 : Int))) - y_20)) fun y32 => (lv (0 : Int) fun y33 => 
(Q (.tuple #[(.int .i64 y32), (.int .i64 y33)]) w25))) 
(lv (IntKind.wrap .i64 ((IntKind.wrap .i64 ((IntKind.wrap .i64 (first_21 + (IntKind.wrap .i64 ((7 : Int) * k_16)))) - (1 : Int))) + x_19)) fun y34 => (lv (0 : Int) fun y35 => 
(Q (.tuple #[(.int .i64 y34), (.int .i64 y35)]) w25)))))))
 (fun J26 => (cond (x_19 == k_16) (J26 [(.bool (decide (y_20 > (IntKind.wrap .i64 ((0 : Int) - k_16)))))] w14) (J26 [(.bool false)] w14))))))))))))))))))
theorem F7_link (p_r p_i : Nat) (w : World) (Q : Value → World → Prop) : fnEv Try.prog Try.f7 h7 [(.complex .f64 p_r p_i)] w Q = F7 p_r p_i w Q := by kernel_rfl
theorem F7_calls {p_r p_i : Nat} {w : World} {Q : Value → World → Prop} (hF_ : F7 p_r p_i w Q) : cl Try.prog 7 #[(.complex .f64 p_r p_i)] w Q :=
  calls_of_ev (fn := Try.f7) Try.func7 h7 (args := [(.complex .f64 p_r p_i)]) (by rw [F7_link]; exact hF_)

/-! tiltyard/lattice.Turn -/
def h8 : Hint := (.s .d (.s .d (.s (.s .d (.l [(0, 23), (11, 3)] .d)) .d)))
set_option linter.unusedVariables false in
def F8 (p_r p_i : Nat) (n : Int) (w : World) (Q : Value → World → Prop) : Prop :=
 (lv (0 : Int) fun y1 => 
(cl Try.prog 11 #[(.complex .f64 p_r p_i)] w fun v2 w3 => asB v2 fun b4 => 
(cond (!b4) (lv (40 : Int) fun y5 => 
(Q (.tuple #[(.complex .f64 0 0), (.int .i64 y5)]) w3)) 

(lp [(.complex .f64 p_r p_i), (.int .i64 (0 : Int))] w3 fun J8 s6 w7 => asC .f64 (s6.getD 0 undef) fun f9 g10 => asI .i64 (s6.getD 1 undef) fun x11 => 
(cond (decide (x11 < (Go.bits .and .i64 n (3 : Int)))) 
(so ((FloatKind.format .f64).sub 0 g10) fun f12 => 
(J8 [(.complex .f64 f12 f9), (.int .i64 (IntKind.wrap .i64 (x11 + (1 : Int))))] w7)) 
(lv (0 : Int) fun y13 => 
(Q (.tuple #[(.complex .f64 f9 g10), (.int .i64 y13)]) w7)))))))
theorem F8_link (p_r p_i : Nat) (n : Int) (w : World) (Q : Value → World → Prop) : fnEv Try.prog Try.f8 h8 [(.complex .f64 p_r p_i), (.int .i64 n)] w Q = F8 p_r p_i n w Q := by kernel_rfl
theorem F8_calls {p_r p_i : Nat} {n : Int} {w : World} {Q : Value → World → Prop} (hF_ : F8 p_r p_i n w Q) : cl Try.prog 8 #[(.complex .f64 p_r p_i), (.int .i64 n)] w Q :=
  calls_of_ev (fn := Try.f8) Try.func8 h8 (args := [(.complex .f64 p_r p_i), (.int .i64 n)]) (by rw [F8_link]; exact hF_)

/-! tiltyard/lattice.Heading -/
def h9 : Hint := (.s .d (.s .d (.s .d (.s (.s .d (.l [(11, 3)] .d)) .d))))
set_option linter.unusedVariables false in
def F9 (p_r p_i : Nat) (w : World) (Q : Value → World → Prop) : Prop :=
 (lv (0 : Int) fun y1 => (lv (0 : Int) fun y2 => 
(cl Try.prog 11 #[(.complex .f64 p_r p_i)] w fun v3 w4 => asB v3 fun b5 => 
(cond (!b5) (lv (0 : Int) fun y6 => (lv (40 : Int) fun y7 => 
(Q (.tuple #[(.int .i64 y6), (.int .i64 y7)]) w4))) 
(cl Try.prog 13 #[(.complex .f64 p_r p_i)] w4 fun v8 w9 => asC .f64 v8 fun f10 g11 => 

(lp [(.int .i64 (0 : Int))] w9 fun J14 s12 w13 => asI .i64 (s12.getD 0 undef) fun x15 => 
(cond (decide (x15 < (8 : Int))) 
(lv x15 fun h_16 => 
(cl Try.prog 14 #[(.int .i64 h_16)] w13 fun v17 w18 => asC .f64 v17 fun f19 g20 => 
(cond ((FloatKind.format .f64).order f19 f10 == some .eq && (FloatKind.format .f64).order g20 g11 == some .eq) (lv h_16 fun y21 => (lv (0 : Int) fun y22 => 
(Q (.tuple #[(.int .i64 y21), (.int .i64 y22)]) w18))) 
(J14 [(.int .i64 (IntKind.wrap .i64 (x15 + (1 : Int))))] w18)))) 
(lv (0 : Int) fun y23 => (lv (1 : Int) fun y24 => 
(Q (.tuple #[(.int .i64 y23), (.int .i64 y24)]) w13))))))))))
theorem F9_link (p_r p_i : Nat) (w : World) (Q : Value → World → Prop) : fnEv Try.prog Try.f9 h9 [(.complex .f64 p_r p_i)] w Q = F9 p_r p_i w Q := by kernel_rfl
theorem F9_calls {p_r p_i : Nat} {w : World} {Q : Value → World → Prop} (hF_ : F9 p_r p_i w Q) : cl Try.prog 9 #[(.complex .f64 p_r p_i)] w Q :=
  calls_of_ev (fn := Try.f9) Try.func9 h9 (args := [(.complex .f64 p_r p_i)]) (by rw [F9_link]; exact hF_)

/-! tiltyard/lattice.Walk -/
def h10 : Hint := (.s .d (.s .d (.s .d (.s .d (.s (.s .d (.l [(0, 23), (8, 33), (25, 3)] .d)) .d)))))
set_option linter.unusedVariables false in
def F10 (a_r a_i : Nat) (b_r b_i : Nat) (w : World) (Q : Value → World → Prop) : Prop :=
 (lv (0 : Int) fun y1 => 
(cl Try.prog 6 #[(.complex .f64 a_r a_i), (.complex .f64 b_r b_i)] w fun v2 w3 => asT 2 v2 fun t4 => asI .i64 (t4 0) fun x5 => asI .i64 (t4 1) fun x6 => (lv x5 fun n_7 => (lv x6 fun e_8 => 

(cond (e_8 != (0 : Int)) (lv e_8 fun y9 => 
(Q (.tuple #[(.slice none 0 0), (.int .i64 y9)]) w3)) 
(cond (decide (n_7 > (1000 : Int))) (lv (2 : Int) fun y10 => 
(Q (.tuple #[(.slice none 0 0), (.int .i64 y10)]) w3)) 
(rn Try.prog (Instr.makeSlice 33 (.int .i64 (0 : Int)) (.int .i64 n_7)) w3 fun v11 w12 => asS v11 fun p13 n14 c15 => 

(lp [(.complex .f64 a_r a_i), (.slice p13 n14 c15), (.int .i64 (0 : Int))] w12 fun J18 s16 w17 => asC .f64 (s16.getD 0 undef) fun f19 g20 => asS (s16.getD 1 undef) fun p21 n22 c23 => asI .i64 (s16.getD 2 undef) fun x24 => 
(cond (decide (x24 < n_7)) 
(so ((FloatKind.format .f64).sub b_r f19) fun f25 => so ((FloatKind.format .f64).sub b_i g20) fun g26 => (cl Try.prog 13 #[(.complex .f64 f25 g26)] w17 fun v27 w28 => asC .f64 v27 fun f29 g30 => (so ((FloatKind.format .f64).add f19 f29) fun f31 => so ((FloatKind.format .f64).add g20 g30) fun g32 => 
(nw w28 (.cells #[(.complex .f64 f31 g32)] 23) fun r33 w34 => (rn Try.prog (Builtin.append_ #[33, 33] 33 #[(.slice p21 n22 c23), (.slice (some (⟨r33, 0, none⟩ : Addr)) 1 1)]) w34 fun v35 w36 => asS v35 fun p37 n38 c39 => 
(J18 [(.complex .f64 f31 g32), (.slice p37 n38 c39), (.int .i64 (IntKind.wrap .i64 (x24 + (1 : Int))))] w36)))))) 
(lv (0 : Int) fun y40 => 
(Q (.tuple #[(.slice p21 n22 c23), (.int .i64 y40)]) w17)))))))))))
theorem F10_link (a_r a_i : Nat) (b_r b_i : Nat) (w : World) (Q : Value → World → Prop) : fnEv Try.prog Try.f10 h10 [(.complex .f64 a_r a_i), (.complex .f64 b_r b_i)] w Q = F10 a_r a_i b_r b_i w Q := by kernel_rfl
theorem F10_calls {a_r a_i : Nat} {b_r b_i : Nat} {w : World} {Q : Value → World → Prop} (hF_ : F10 a_r a_i b_r b_i w Q) : cl Try.prog 10 #[(.complex .f64 a_r a_i), (.complex .f64 b_r b_i)] w Q :=
  calls_of_ev (fn := Try.f10) Try.func10 h10 (args := [(.complex .f64 a_r a_i), (.complex .f64 b_r b_i)]) (by rw [F10_link]; exact hF_)

/-! tiltyard/lattice.Cell -/
def h11 : Hint := (.s .d (.j [(2, 4)] .d .d))
set_option linter.unusedVariables false in
def F11 (p_r p_i : Nat) (w : World) (Q : Value → World → Prop) : Prop :=
 
(jn (fun s1 w2 => asB (s1.getD 0 undef) fun b10 => (Q (.bool b10) w2))
 (fun J3 => (cl Try.prog 15 #[(.float .f64 p_r)] w fun v4 w5 => asB v4 fun b6 => (cond b6 (cl Try.prog 15 #[(.float .f64 p_i)] w5 fun v7 w8 => asB v7 fun b9 => (J3 [(.bool b9)] w8)) (J3 [(.bool false)] w5)))))
theorem F11_link (p_r p_i : Nat) (w : World) (Q : Value → World → Prop) : fnEv Try.prog Try.f11 h11 [(.complex .f64 p_r p_i)] w Q = F11 p_r p_i w Q := by kernel_rfl
theorem F11_calls {p_r p_i : Nat} {w : World} {Q : Value → World → Prop} (hF_ : F11 p_r p_i w Q) : cl Try.prog 11 #[(.complex .f64 p_r p_i)] w Q :=
  calls_of_ev (fn := Try.f11) Try.func11 h11 (args := [(.complex .f64 p_r p_i)]) (by rw [F11_link]; exact hF_)

/-! tiltyard/lattice.far -/
def h12 : Hint := .d
set_option linter.unusedVariables false in
def F12 (p_r p_i : Nat) (w : World) (Q : Value → World → Prop) : Prop :=
 (lv (0 : Int) fun y1 => 
(cl Try.prog 16 #[(.float .f64 p_r)] w fun v2 w3 => asF .f64 v2 fun f4 => (cl Try.prog 16 #[(.float .f64 p_i)] w3 fun v5 w6 => asF .f64 v5 fun f7 => (rq Try.prog (Builtin.max_ #[30, 30] 30 #[(.float .f64 f4), (.float .f64 f7)]) w6 fun v8 => asF .f64 v8 fun f9 => (f2i .f64 f9 .i64 fun x10 => (lv x10 fun y11 => 
(Q (.int .i64 y11) w6)))))))
theorem F12_link (p_r p_i : Nat) (w : World) (Q : Value → World → Prop) : fnEv Try.prog Try.f12 h12 [(.complex .f64 p_r p_i)] w Q = F12 p_r p_i w Q := by kernel_rfl
theorem F12_calls {p_r p_i : Nat} {w : World} {Q : Value → World → Prop} (hF_ : F12 p_r p_i w Q) : cl Try.prog 12 #[(.complex .f64 p_r p_i)] w Q :=
  calls_of_ev (fn := Try.f12) Try.func12 h12 (args := [(.complex .f64 p_r p_i)]) (by rw [F12_link]; exact hF_)

/-! tiltyard/lattice.unit -/
def h13 : Hint := .d
set_option linter.unusedVariables false in
def F13 (p_r p_i : Nat) (w : World) (Q : Value → World → Prop) : Prop :=
 
(cl Try.prog 17 #[(.float .f64 p_r)] w fun v1 w2 => asF .f64 v1 fun f3 => (cl Try.prog 17 #[(.float .f64 p_i)] w2 fun v4 w5 => asF .f64 v4 fun f6 => 
(Q (.complex .f64 f3 f6) w5)))
theorem F13_link (p_r p_i : Nat) (w : World) (Q : Value → World → Prop) : fnEv Try.prog Try.f13 h13 [(.complex .f64 p_r p_i)] w Q = F13 p_r p_i w Q := by kernel_rfl
theorem F13_calls {p_r p_i : Nat} {w : World} {Q : Value → World → Prop} (hF_ : F13 p_r p_i w Q) : cl Try.prog 13 #[(.complex .f64 p_r p_i)] w Q :=
  calls_of_ev (fn := Try.f13) Try.func13 h13 (args := [(.complex .f64 p_r p_i)]) (by rw [F13_link]; exact hF_)

/-! tiltyard/lattice.step -/
def h14 : Hint := .d
set_option linter.unusedVariables false in
def F14 (h : Int) (w : World) (Q : Value → World → Prop) : Prop :=
 
(bnd h 8 (so ((#[(.complex .f64 4607182418800017408 0), (.complex .f64 4607182418800017408 4607182418800017408), (.complex .f64 0 4607182418800017408), (.complex .f64 13830554455654793216 4607182418800017408), (.complex .f64 13830554455654793216 0), (.complex .f64 13830554455654793216 13830554455654793216), (.complex .f64 0 13830554455654793216), (.complex .f64 4607182418800017408 13830554455654793216)] : Array Value)[Int.toNat h * 1]?) fun v1 => asC .f64 v1 fun f2 g3 => 
(Q (.complex .f64 f2 g3) w)))
theorem F14_link (h : Int) (w : World) (Q : Value → World → Prop) : fnEv Try.prog Try.f14 h14 [(.int .i64 h)] w Q = F14 h w Q := by kernel_rfl
theorem F14_calls {h : Int} {w : World} {Q : Value → World → Prop} (hF_ : F14 h w Q) : cl Try.prog 14 #[(.int .i64 h)] w Q :=
  calls_of_ev (fn := Try.f14) Try.func14 h14 (args := [(.int .i64 h)]) (by rw [F14_link]; exact hF_)

/-! tiltyard/lattice.whole -/
def h15 : Hint := (.s .d (.j [(2, 4)] .d .d))
set_option linter.unusedVariables false in
def F15 (x : Nat) (w : World) (Q : Value → World → Prop) : Prop :=
 
(jn (fun s1 w2 => asB (s1.getD 0 undef) fun b10 => (Q (.bool b10) w2))
 (fun J3 => (cl Try.prog 16 #[(.float .f64 x)] w fun v4 w5 => asF .f64 v4 fun f6 => (cond (((FloatKind.format .f64).order f6 4697254411347427328) == some .lt || ((FloatKind.format .f64).order f6 4697254411347427328) == some .eq) (cl Try.prog 18 #[(.float .f64 x)] w5 fun v7 w8 => asF .f64 v7 fun f9 => (J3 [(.bool (((FloatKind.format .f64).order x f9) == some .eq))] w8)) (J3 [(.bool false)] w5)))))
theorem F15_link (x : Nat) (w : World) (Q : Value → World → Prop) : fnEv Try.prog Try.f15 h15 [(.float .f64 x)] w Q = F15 x w Q := by kernel_rfl
theorem F15_calls {x : Nat} {w : World} {Q : Value → World → Prop} (hF_ : F15 x w Q) : cl Try.prog 15 #[(.float .f64 x)] w Q :=
  calls_of_ev (fn := Try.f15) Try.func15 h15 (args := [(.float .f64 x)]) (by rw [F15_link]; exact hF_)

/-! math.Abs -/
def h16 : Hint := .d
set_option linter.unusedVariables false in
def F16 (x : Nat) (w : World) (Q : Value → World → Prop) : Prop :=
 
(xt Try.prog 20 #[(.float .f64 x)] w fun v1 w2 => asI .u64 v1 fun x3 => (xt Try.prog 19 #[(.int .u64 (Go.bits .andNot .u64 x3 (9223372036854775808 : Int)))] w2 fun v4 w5 => asF .f64 v4 fun f6 => 
(Q (.float .f64 f6) w5)))
theorem F16_link (x : Nat) (w : World) (Q : Value → World → Prop) : fnEv Try.prog Try.f16 h16 [(.float .f64 x)] w Q = F16 x w Q := by kernel_rfl
theorem F16_calls {x : Nat} {w : World} {Q : Value → World → Prop} (hF_ : F16 x w Q) : cl Try.prog 16 #[(.float .f64 x)] w Q :=
  calls_of_ev (fn := Try.f16) Try.func16 h16 (args := [(.float .f64 x)]) (by rw [F16_link]; exact hF_)

/-! tiltyard/lattice.sign -/
def h17 : Hint := .d
set_option linter.unusedVariables false in
def F17 (x : Nat) (w : World) (Q : Value → World → Prop) : Prop :=
 

(cond (((FloatKind.format .f64).order x 0) == some .lt) 
(Q (.float .f64 13830554455654793216) w) 
(cond (((FloatKind.format .f64).order x 0) == some .gt) 
(Q (.float .f64 4607182418800017408) w) 

(Q (.float .f64 0) w)))
theorem F17_link (x : Nat) (w : World) (Q : Value → World → Prop) : fnEv Try.prog Try.f17 h17 [(.float .f64 x)] w Q = F17 x w Q := by kernel_rfl
theorem F17_calls {x : Nat} {w : World} {Q : Value → World → Prop} (hF_ : F17 x w Q) : cl Try.prog 17 #[(.float .f64 x)] w Q :=
  calls_of_ev (fn := Try.f17) Try.func17 h17 (args := [(.float .f64 x)]) (by rw [F17_link]; exact hF_)

/-! math.Trunc -/
def h18 : Hint := (.s .d (.s (.s .d .d) .d))
set_option linter.unusedVariables false in
def F18 (x : Nat) (w : World) (Q : Value → World → Prop) : Prop :=
 
(xt Try.prog 21 #[(.float .f64 x)] w fun v1 w2 => asF .f64 v1 fun f3 => 
(Q (.float .f64 f3) w2))
theorem F18_link (x : Nat) (w : World) (Q : Value → World → Prop) : fnEv Try.prog Try.f18 h18 [(.float .f64 x)] w Q = F18 x w Q := by kernel_rfl
theorem F18_calls {x : Nat} {w : World} {Q : Value → World → Prop} (hF_ : F18 x w Q) : cl Try.prog 18 #[(.float .f64 x)] w Q :=
  calls_of_ev (fn := Try.f18) Try.func18 h18 (args := [(.float .f64 x)]) (by rw [F18_link]; exact hF_)




/-! math.trunc -/
def h22 : Hint := (.s .d (.s .d (.s .d (.s .d (.j [(3, 44)] .d .d)))))
set_option linter.unusedVariables false in
def F22 (x : Nat) (w : World) (Q : Value → World → Prop) : Prop :=
 
(cl Try.prog 16 #[(.float .f64 x)] w fun v1 w2 => asF .f64 v1 fun f3 => 
(cond (((FloatKind.format .f64).order f3 4607182418800017408) == some .lt) (cl Try.prog 23 #[(.float .f64 0), (.float .f64 x)] w2 fun v4 w5 => asF .f64 v4 fun f6 => 
(Q (.float .f64 f6) w5)) 
(xt Try.prog 20 #[(.float .f64 x)] w2 fun v7 w8 => asI .u64 v7 fun x9 => (lv x9 fun b_10 => 
(lv (IntKind.wrap .u64 ((Go.bits .and .u64 (Int.fdiv b_10 (2 ^ (min (Int.toNat (52 : Int)) 64))) (2047 : Int)) - (1023 : Int))) fun e_11 => 
(jn (fun s12 w13 => asI .u64 (s12.getD 0 undef) fun x16 => (xt Try.prog 19 #[(.int .u64 x16)] w13 fun v17 w18 => asF .f64 v17 fun f19 => 
(Q (.float .f64 f19) w18)))
 (fun J14 => 
(cond (decide (e_11 < (52 : Int))) (nn (IntKind.wrap .u64 ((52 : Int) - e_11)) (lv (Go.bits .andNot .u64 b_10 (IntKind.wrap .u64 ((IntKind.wrap .u64 ((1 : Int) * 2 ^ (min (Int.toNat (IntKind.wrap .u64 ((52 : Int) - e_11))) 64))) - (1 : Int)))) fun b_15 => (J14 [(.int .u64 b_15)] w8))) (J14 [(.int .u64 b_10)] w8)))))))))
theorem F22_link (x : Nat) (w : World) (Q : Value → World → Prop) : fnEv Try.prog Try.f22 h22 [(.float .f64 x)] w Q = F22 x w Q := by kernel_rfl
theorem F22_calls {x : Nat} {w : World} {Q : Value → World → Prop} (hF_ : F22 x w Q) : cl Try.prog 22 #[(.float .f64 x)] w Q :=
  calls_of_ev (fn := Try.f22) Try.func22 h22 (args := [(.float .f64 x)]) (by rw [F22_link]; exact hF_)

/-! math.Copysign -/
def h23 : Hint := .d
set_option linter.unusedVariables false in
def F23 (f : Nat) (sign : Nat) (w : World) (Q : Value → World → Prop) : Prop :=
 
(xt Try.prog 20 #[(.float .f64 f)] w fun v1 w2 => asI .u64 v1 fun x3 => (xt Try.prog 20 #[(.float .f64 sign)] w2 fun v4 w5 => asI .u64 v4 fun x6 => (xt Try.prog 19 #[(.int .u64 (Go.bits .or .u64 (Go.bits .andNot .u64 x3 (9223372036854775808 : Int)) (Go.bits .and .u64 x6 (9223372036854775808 : Int))))] w5 fun v7 w8 => asF .f64 v7 fun f9 => 
(Q (.float .f64 f9) w8))))
theorem F23_link (f : Nat) (sign : Nat) (w : World) (Q : Value → World → Prop) : fnEv Try.prog Try.f23 h23 [(.float .f64 f), (.float .f64 sign)] w Q = F23 f sign w Q := by kernel_rfl
theorem F23_calls {f : Nat} {sign : Nat} {w : World} {Q : Value → World → Prop} (hF_ : F23 f sign w Q) : cl Try.prog 23 #[(.float .f64 f), (.float .f64 sign)] w Q :=
  calls_of_ev (fn := Try.f23) Try.func23 h23 (args := [(.float .f64 f), (.float .f64 sign)]) (by rw [F23_link]; exact hF_)


end Go.Proofs.Ytppjcjbdkihnaaa
