/- The formulas that the evaluator Sx.ev comes to for functions of this seat, each with its linking theorem (by the kernel). Printed by this session's own program (wip/tool/sxgen.py). -/
import Derived.Test.YtddljkkcpekcjaaProg
import Derived.Test.YtddljkkcpekcjaaSx
import Derived.KernelRfl
namespace Go.Proofs.Ytddljkkcpekcjaa
open Go Go.Sx
set_option maxRecDepth 100000

/-! tiltyard/tiltyardlaw01.BitsTakes -/
def h3 : Hint := (.s .d (.s .d (.s .d (.s .d (.s .d (.s (.j [(34, 4)] .d .d) (.s .d (.s (.s .d (.l [(9, 29), (10, 3)] (.s .d (.s (.s .d (.s .d (.s .d (.s .d (.j [(85, 4)] .d .d))))) .d)))) .d))))))))
set_option linter.unusedVariables false in
def F3 (b : Option Addr) (b_n b_c : Nat) (sizes : Option Addr) (sizes_n sizes_c : Nat) (w : World) (Q : Value → World → Prop) : Prop :=
 
(cl Try.prog 9 #[] w fun v1 w2 => asB v1 fun b3 => 
(cl Try.prog 10 #[(.slice b b_n b_c)] w2 fun v4 w5 => asS v4 fun p6 n7 c8 => 
(cl Try.prog 11 #[(.slice p6 n7 c8)] w5 fun v9 w10 => asP v9 fun p11 => 
(cl Try.prog 12 #[(.slice p6 n7 c8), (.slice b b_n b_c)] w10 fun v12 w13 => asB v12 fun b14 => 
(jn (fun s15 w16 => asB (s15.getD 0 undef) fun b18 => (cond b18 
(Q (.bool false) w16) 
(cl Try.prog 13 #[(.slice b b_n b_c)] w16 fun v19 w20 => asS v19 fun p21 n22 c23 => 
(lv (0 : Int) fun i_24 => 
(lp [(.slice p21 n22 c23), (.int .i64 i_24)] w20 fun J27 s25 w26 => asS (s25.getD 0 undef) fun p28 n29 c30 => asI .i64 (s25.getD 1 undef) fun x31 => 
(cond (decide (x31 < (sizes_n : Int))) 
(dr sizes fun a32 => (bnd x31 sizes_n (ld w26 (Addr.add a32 (Int.toNat x31 * 1)) fun v33 => asI .i64 v33 fun x34 => (cl Try.prog 14 #[(.pointer p11), (.int .i64 x34)] w26 fun v35 w36 => asT 2 v35 fun t37 => asI .i64 (t37 0) fun x38 => asI .i64 (t37 1) fun x39 => (lv x38 fun v_40 => (lv x39 fun e_41 => 
(dr sizes fun a42 => (bnd x31 sizes_n (ld w36 (Addr.add a42 (Int.toNat x31 * 1)) fun v43 => asI .i64 v43 fun x44 => (cl Try.prog 15 #[(.slice p28 n29 c30), (.int .i64 x44)] w36 fun v45 w46 => asT 3 v45 fun t47 => asI .i64 (t47 0) fun x48 => asS (t47 1) fun p49 n50 c51 => asI .i64 (t47 2) fun x52 => (lv x48 fun u_53 => (lv x52 fun f_54 => 

(cl Try.prog 16 #[(.slice p49 n50 c51)] w46 fun v55 w56 => asB v55 fun b57 => 
(jn (fun s58 w59 => asB (s58.getD 0 undef) fun b67 => (cond b67 
(Q (.bool false) w59) 
(lv (IntKind.wrap .i64 (x31 + (1 : Int))) fun i_68 => (J27 [(.slice p49 n50 c51), (.int .i64 i_68)] w59))))
 (fun J60 => (cond (v_40 != u_53) (J60 [(.bool true)] w56) (cond (e_41 != f_54) (J60 [(.bool true)] w56) (cl Try.prog 17 #[(.pointer p11)] w56 fun v61 w62 => asI .i64 v61 fun x63 => (cond (x63 != (n50 : Int)) (J60 [(.bool true)] w62) (cl Try.prog 18 #[(.pointer p11)] w62 fun v64 w65 => asB v64 fun b66 => (J60 [(.bool (!(b66 == b57)))] w65))))))))))))))))))))) 
(cl Try.prog 17 #[(.pointer p11)] w26 fun v69 w70 => asI .i64 v69 fun x71 => 
(Q (.bool (x71 == (n29 : Int))) w70))))))))
 (fun J17 => (cond (!b3) (J17 [(.bool true)] w13) (cond (!b14) (J17 [(.bool true)] w13) (J17 [(.bool (Option.isNone p11))] w13)))))))))
theorem F3_link (b : Option Addr) (b_n b_c : Nat) (sizes : Option Addr) (sizes_n sizes_c : Nat) (w : World) (Q : Value → World → Prop) : fnEv Try.prog Try.f3 h3 [(.slice b b_n b_c), (.slice sizes sizes_n sizes_c)] w Q = F3 b b_n b_c sizes sizes_n sizes_c w Q := by kernel_rfl
theorem F3_calls {b : Option Addr} {b_n b_c : Nat} {sizes : Option Addr} {sizes_n sizes_c : Nat} {w : World} {Q : Value → World → Prop} (h : F3 b b_n b_c sizes sizes_n sizes_c w Q) : cl Try.prog 3 #[(.slice b b_n b_c), (.slice sizes sizes_n sizes_c)] w Q :=
  calls_of_ev (fn := Try.f3) Try.func3 h3 (args := [(.slice b b_n b_c), (.slice sizes sizes_n sizes_c)]) (by rw [F3_link]; exact h)

/-! tiltyard/tiltyardlaw01.BitsBack -/
def h4 : Hint := (.s .d (.s .d (.s .d (.s (.j [(22, 4)] .d .d) (.s .d (.s .d (.s (.s .d (.l [(7, 23), (8, 23), (9, 3)] (.s (.j [(32, 4)] .d .d) (.j [(7, 23), (8, 23)] (.s (.o (ofL [0, 1, 2, 3, 4, 5, 6, 7, 8, 9, 10] .nil)) .d) .d)))) (.s .d (.s .d (.s (.s .d (.l [(12, 3)] (.s .d (.s (.s .d (.j [(90, 4)] .d .d)) .d)))) .d))))))))))
set_option linter.unusedVariables false in
def F4 (values : Option Addr) (values_n values_c : Nat) (sizes : Option Addr) (sizes_n sizes_c : Nat) (w : World) (Q : Value → World → Prop) : Prop :=
 
(cl Try.prog 9 #[] w fun v1 w2 => asB v1 fun b3 => 
(cl Try.prog 19 #[] w2 fun v4 w5 => asP v4 fun p6 => 
(jn (fun s7 w8 => asB (s7.getD 0 undef) fun b10 => (cond b10 
(Q (.bool false) w8) 


(lv (0 : Int) fun i_11 => 
(lp [(.slice none 0 0), (.slice none 0 0), (.int .i64 i_11)] w8 fun J14 s12 w13 => asS (s12.getD 0 undef) fun p15 n16 c17 => asS (s12.getD 1 undef) fun p18 n19 c20 => asI .i64 (s12.getD 2 undef) fun x21 => (jn (fun s22 w23 => asB (s22.getD 0 undef) fun b25 => (cond b25 
(jn (fun s26 w27 => asS (s26.getD 0 undef) fun p60 n61 c62 => asS (s26.getD 1 undef) fun p63 n64 c65 => (lv (IntKind.wrap .i64 (x21 + (1 : Int))) fun i_66 => (J14 [(.slice p60 n61 c62), (.slice p63 n64 c65), (.int .i64 i_66)] w27)))
 (fun J28 => (dw w23 fun w29 => (dr values fun a30 => (bnd x21 values_n (ld w29 (Addr.add a30 (Int.toNat x21 * 1)) fun v31 => asI .i64 v31 fun x32 => (dr sizes fun a33 => (bnd x21 sizes_n (ld w29 (Addr.add a33 (Int.toNat x21 * 1)) fun v34 => asI .i64 v34 fun x35 => (cl Try.prog 20 #[(.pointer p6), (.int .i64 x32), (.int .i64 x35)] w29 fun v36 w37 => asI .i64 v36 fun x38 => (lv x38 fun e_39 => 

(cond (e_39 == (0 : Int)) (dr values fun a40 => (bnd x21 values_n (ld w37 (Addr.add a40 (Int.toNat x21 * 1)) fun v41 => asI .i64 v41 fun x42 => (nw w37 (.cells #[(.int .i64 x42)] 3) fun r43 w44 => (rn Try.prog (Builtin.append_ #[23, 23] 23 #[(.slice p15 n16 c17), (.slice (some (⟨r43, 0, none⟩ : Addr)) 1 1)]) w44 fun v45 w46 => asS v45 fun p47 n48 c49 => 
(dr sizes fun a50 => (bnd x21 sizes_n (ld w46 (Addr.add a50 (Int.toNat x21 * 1)) fun v51 => asI .i64 v51 fun x52 => (nw w46 (.cells #[(.int .i64 x52)] 3) fun r53 w54 => (rn Try.prog (Builtin.append_ #[23, 23] 23 #[(.slice p18 n19 c20), (.slice (some (⟨r53, 0, none⟩ : Addr)) 1 1)]) w54 fun v55 w56 => asS v55 fun p57 n58 c59 => (J28 [(.slice p47 n48 c49), (.slice p57 n58 c59)] w56))))))))))) (J28 [(.slice p15 n16 c17), (.slice p18 n19 c20)] w37))))))))))))) 
(cl Try.prog 21 #[(.pointer p6)] w23 fun v67 w68 => asS v67 fun p69 n70 c71 => (cl Try.prog 11 #[(.slice p69 n70 c71)] w68 fun v72 w73 => asP v72 fun p74 => 

(cond (Option.isNone p74) 
(Q (.bool false) w73) 
(lv (0 : Int) fun i_75 => 
(lp [(.int .i64 i_75)] w73 fun J78 s76 w77 => asI .i64 (s76.getD 0 undef) fun x79 => 
(cond (decide (x79 < (n16 : Int))) 
(dr p18 fun a80 => (bnd x79 n19 (ld w77 (Addr.add a80 (Int.toNat x79 * 1)) fun v81 => asI .i64 v81 fun x82 => (cl Try.prog 14 #[(.pointer p74), (.int .i64 x82)] w77 fun v83 w84 => asT 2 v83 fun t85 => asI .i64 (t85 0) fun x86 => asI .i64 (t85 1) fun x87 => (lv x86 fun v_88 => (lv x87 fun e_89 => 
(jn (fun s90 w91 => asB (s90.getD 0 undef) fun b96 => (cond b96 
(Q (.bool false) w91) 
(lv (IntKind.wrap .i64 (x79 + (1 : Int))) fun i_97 => (J78 [(.int .i64 i_97)] w91))))
 (fun J92 => (cond (e_89 != (0 : Int)) (J92 [(.bool true)] w84) (dr p15 fun a93 => (bnd x79 n16 (ld w84 (Addr.add a93 (Int.toNat x79 * 1)) fun v94 => asI .i64 v94 fun x95 => (J92 [(.bool (v_88 != x95))] w84))))))))))))) 
(cl Try.prog 18 #[(.pointer p74)] w77 fun v98 w99 => asB v98 fun b100 => 
(Q (.bool b100) w99))))))))))
 (fun J24 => (cond (decide (x21 < (values_n : Int))) (J24 [(.bool (decide (x21 < (sizes_n : Int))))] w13) (J24 [(.bool false)] w13))))))))
 (fun J9 => (cond (!b3) (J9 [(.bool true)] w5) (J9 [(.bool (Option.isNone p6))] w5))))))
theorem F4_link (values : Option Addr) (values_n values_c : Nat) (sizes : Option Addr) (sizes_n sizes_c : Nat) (w : World) (Q : Value → World → Prop) : fnEv Try.prog Try.f4 h4 [(.slice values values_n values_c), (.slice sizes sizes_n sizes_c)] w Q = F4 values values_n values_c sizes sizes_n sizes_c w Q := by kernel_rfl
theorem F4_calls {values : Option Addr} {values_n values_c : Nat} {sizes : Option Addr} {sizes_n sizes_c : Nat} {w : World} {Q : Value → World → Prop} (h : F4 values values_n values_c sizes sizes_n sizes_c w Q) : cl Try.prog 4 #[(.slice values values_n values_c), (.slice sizes sizes_n sizes_c)] w Q :=
  calls_of_ev (fn := Try.f4) Try.func4 h4 (args := [(.slice values values_n values_c), (.slice sizes sizes_n sizes_c)]) (by rw [F4_link]; exact h)

/-! tiltyard/tiltyardlaw01.BitsSame -/
def h5 : Hint := (.s .d (.s .d (.s .d (.s .d (.s (.j [(31, 4)] .d .d) (.s (.s .d (.l [(8, 3)] (.s .d (.s (.s .d (.j [(9, 3)] (.s .d (.s (.o (ofL [0, 1, 2, 3, 4, 5, 6, 7, 8] .nil)) .d)) (.s .d (.s .d (.j [(78, 4)] .d .d))))) .d)))) (.s (.o (ofL [0, 3, 4, 1, 2, 5, 6] .nil)) .d)))))))
set_option linter.unusedVariables false in
def F5 (b : Option Addr) (b_n b_c : Nat) (sizes : Option Addr) (sizes_n sizes_c : Nat) (w : World) (Q : Value → World → Prop) : Prop :=
 
(cl Try.prog 9 #[] w fun v1 w2 => asB v1 fun b3 => 
(cl Try.prog 11 #[(.slice b b_n b_c)] w2 fun v4 w5 => asP v4 fun p6 => 
(cl Try.prog 19 #[] w5 fun v7 w8 => asP v7 fun p9 => 
(jn (fun s10 w11 => asB (s10.getD 0 undef) fun b13 => (cond b13 
(Q (.bool b3) w11) 
(lv (0 : Int) fun i_14 => 
(lp [(.int .i64 i_14)] w11 fun J17 s15 w16 => asI .i64 (s15.getD 0 undef) fun x18 => (cl Try.prog 17 #[(.pointer p6)] w16 fun v19 w20 => asI .i64 v19 fun x21 => 
(cond (decide (x21 > (0 : Int))) 
(cl Try.prog 17 #[(.pointer p6)] w20 fun v22 w23 => asI .i64 v22 fun x24 => (lv (if x24 < (7 : Int) then x24 else (7 : Int)) fun n_25 => 
(jn (fun s26 w27 => asI .i64 (s26.getD 0 undef) fun x37 => (cl Try.prog 14 #[(.pointer p6), (.int .i64 x37)] w27 fun v38 w39 => asT 2 v38 fun t40 => asI .i64 (t40 0) fun x41 => asI .i64 (t40 1) fun x42 => (lv x41 fun v_43 => (lv x42 fun e_44 => 
(cl Try.prog 20 #[(.pointer p9), (.int .i64 v_43), (.int .i64 x37)] w39 fun v45 w46 => asI .i64 v45 fun x47 => (lv x47 fun f_48 => 
(jn (fun s49 w50 => asB (s49.getD 0 undef) fun b52 => (cond b52 
(Q (.bool false) w50) 
(lv (IntKind.wrap .i64 (x18 + (1 : Int))) fun i_53 => (J17 [(.int .i64 i_53)] w50))))
 (fun J51 => (cond (e_44 != (0 : Int)) (J51 [(.bool true)] w46) (cond (f_48 != (0 : Int)) (J51 [(.bool true)] w46) (J51 [(.bool (decide (x18 > (IntKind.wrap .i64 ((sizes_n : Int) + (IntKind.wrap .i64 ((8 : Int) * (b_n : Int))))))))] w46)))))))))))
 (fun J28 => 
(cond (decide (x18 < (sizes_n : Int))) (dw w23 fun w29 => (dr sizes fun a30 => (bnd x18 sizes_n (ld w29 (Addr.add a30 (Int.toNat x18 * 1)) fun v31 => asI .i64 v31 fun x32 => (cl Try.prog 17 #[(.pointer p6)] w29 fun v33 w34 => asI .i64 v33 fun x35 => (hd w34 (Addr.add a30 (Int.toNat x18 * 1)) (.int .i64 x32) (lv (if x35 < (Go.bits .and .i64 x32 (63 : Int)) then x35 else (Go.bits .and .i64 x32 (63 : Int))) fun n_36 => (J28 [(.int .i64 n_36)] w34)))))))) (J28 [(.int .i64 n_25)] w23)))))) 
(dw w20 fun w54 => (rq Try.prog (Go.convert 22 9 (.slice b b_n b_c)) w54 fun v55 => asY v55 fun s56 => (cl Try.prog 21 #[(.pointer p9)] w54 fun v57 w58 => asS v57 fun p59 n60 c61 => (hr Try.prog w58 (Go.convert 22 9 (.slice b b_n b_c)) (.string s56) (rq Try.prog (Go.convert 22 9 (.slice p59 n60 c61)) w58 fun v62 => asY v62 fun s63 => 
(Q (.bool (ByteArray.toList s63 == ByteArray.toList s56)) w58))))))))))))
 (fun J12 => (cond (!b3) (J12 [(.bool true)] w8) (cond (Option.isNone p6) (J12 [(.bool true)] w8) (cond (Option.isNone p9) (J12 [(.bool true)] w8) (J12 [(.bool (decide ((b_n : Int) > (100000 : Int))))] w8)))))))))
theorem F5_link (b : Option Addr) (b_n b_c : Nat) (sizes : Option Addr) (sizes_n sizes_c : Nat) (w : World) (Q : Value → World → Prop) : fnEv Try.prog Try.f5 h5 [(.slice b b_n b_c), (.slice sizes sizes_n sizes_c)] w Q = F5 b b_n b_c sizes sizes_n sizes_c w Q := by kernel_rfl
theorem F5_calls {b : Option Addr} {b_n b_c : Nat} {sizes : Option Addr} {sizes_n sizes_c : Nat} {w : World} {Q : Value → World → Prop} (h : F5 b b_n b_c sizes sizes_n sizes_c w Q) : cl Try.prog 5 #[(.slice b b_n b_c), (.slice sizes sizes_n sizes_c)] w Q :=
  calls_of_ev (fn := Try.f5) Try.func5 h5 (args := [(.slice b b_n b_c), (.slice sizes sizes_n sizes_c)]) (by rw [F5_link]; exact h)

/-! tiltyard/tiltyardlaw01.BitsTwo -/
def h6 : Hint := (.s .d (.s .d (.s .d (.s .d (.s .d (.s (.j [(36, 4)] .d .d) (.s (.s .d (.l [(11, 3)] (.s .d (.s (.j [] (.j [(52, 4)] .d .d) (.s .d (.s .d (.j [(91, 4)] .d .d)))) .d)))) .d)))))))
set_option linter.unusedVariables false in
def F6 (b : Option Addr) (b_n b_c : Nat) (sizes : Option Addr) (sizes_n sizes_c : Nat) (who : Option Addr) (who_n who_c : Nat) (w : World) (Q : Value → World → Prop) : Prop :=
 
(cl Try.prog 9 #[] w fun v1 w2 => asB v1 fun b3 => 
(cl Try.prog 11 #[(.slice b b_n b_c)] w2 fun v4 w5 => asP v4 fun p6 => 
(cl Try.prog 11 #[(.slice b b_n b_c)] w5 fun v7 w8 => asP v7 fun p9 => 
(cl Try.prog 11 #[(.slice b b_n b_c)] w8 fun v10 w11 => asP v10 fun p12 => 
(jn (fun s13 w14 => asB (s13.getD 0 undef) fun b16 => (cond b16 
(Q (.bool false) w14) 
(lv (0 : Int) fun i_17 => 
(lp [(.int .i64 i_17)] w14 fun J20 s18 w19 => asI .i64 (s18.getD 0 undef) fun x21 => 
(cond (decide (x21 < (sizes_n : Int))) 
(jn (fun s22 w23 => (dr sizes fun a40 => (bnd x21 sizes_n (ld w23 (Addr.add a40 (Int.toNat x21 * 1)) fun v41 => asI .i64 v41 fun x42 => (cl Try.prog 14 #[(.pointer p6), (.int .i64 x42)] w23 fun v43 w44 => asT 2 v43 fun t45 => asI .i64 (t45 0) fun x46 => asI .i64 (t45 1) fun x47 => (lv x46 fun v_48 => (lv x47 fun e_49 => 
(dr sizes fun a50 => (bnd x21 sizes_n (ld w44 (Addr.add a50 (Int.toNat x21 * 1)) fun v51 => asI .i64 v51 fun x52 => (cl Try.prog 14 #[(.pointer p12), (.int .i64 x52)] w44 fun v53 w54 => asT 2 v53 fun t55 => asI .i64 (t55 0) fun x56 => asI .i64 (t55 1) fun x57 => (lv x56 fun u_58 => (lv x57 fun f_59 => 
(jn (fun s60 w61 => asB (s60.getD 0 undef) fun b69 => (cond b69 
(Q (.bool false) w61) 
(lv (IntKind.wrap .i64 (x21 + (1 : Int))) fun i_70 => (J20 [(.int .i64 i_70)] w61))))
 (fun J62 => (cond (v_48 != u_58) (J62 [(.bool true)] w54) (cond (e_49 != f_59) (J62 [(.bool true)] w54) (cl Try.prog 17 #[(.pointer p6)] w54 fun v63 w64 => asI .i64 v63 fun x65 => (cl Try.prog 17 #[(.pointer p12)] w64 fun v66 w67 => asI .i64 v66 fun x68 => (J62 [(.bool (x65 != x68))] w67))))))))))))))))))))
 (fun J24 => (jn (fun s25 w26 => asB (s25.getD 0 undef) fun b31 => (cond b31 (dr sizes fun a32 => (bnd x21 sizes_n (ld w26 (Addr.add a32 (Int.toNat x21 * 1)) fun v33 => asI .i64 v33 fun x34 => (cl Try.prog 14 #[(.pointer p9), (.int .i64 x34)] w26 fun v35 w36 => asT 2 v35 fun t37 => asI .i64 (t37 0) fun x38 => asI .i64 (t37 1) fun x39 => (J24 [] w36))))) (J24 [] w26)))
 (fun J27 => (cond (decide (x21 < (who_n : Int))) (dr who fun a28 => (bnd x21 who_n (ld w19 (Addr.add a28 (Int.toNat x21 * 1)) fun v29 => asB v29 fun b30 => (J27 [(.bool b30)] w19)))) (J27 [(.bool false)] w19)))))) 

(Q (.bool true) w19))))))
 (fun J15 => (cond (!b3) (J15 [(.bool true)] w11) (cond (Option.isNone p6) (J15 [(.bool true)] w11) (cond (Option.isNone p9) (J15 [(.bool true)] w11) (J15 [(.bool (Option.isNone p12))] w11))))))))))
theorem F6_link (b : Option Addr) (b_n b_c : Nat) (sizes : Option Addr) (sizes_n sizes_c : Nat) (who : Option Addr) (who_n who_c : Nat) (w : World) (Q : Value → World → Prop) : fnEv Try.prog Try.f6 h6 [(.slice b b_n b_c), (.slice sizes sizes_n sizes_c), (.slice who who_n who_c)] w Q = F6 b b_n b_c sizes sizes_n sizes_c who who_n who_c w Q := by kernel_rfl
theorem F6_calls {b : Option Addr} {b_n b_c : Nat} {sizes : Option Addr} {sizes_n sizes_c : Nat} {who : Option Addr} {who_n who_c : Nat} {w : World} {Q : Value → World → Prop} (h : F6 b b_n b_c sizes sizes_n sizes_c who who_n who_c w Q) : cl Try.prog 6 #[(.slice b b_n b_c), (.slice sizes sizes_n sizes_c), (.slice who who_n who_c)] w Q :=
  calls_of_ev (fn := Try.f6) Try.func6 h6 (args := [(.slice b b_n b_c), (.slice sizes sizes_n sizes_c), (.slice who who_n who_c)]) (by rw [F6_link]; exact h)

/-! tiltyard/tiltyardlaw01.BitsPuts -/
def h7 : Hint := (.s .d (.s .d (.s .d (.s (.j [(24, 4)] .d .d) (.s .d (.s (.s .d (.l [(7, 29), (8, 3)] (.s (.j [(34, 4)] .d .d) (.s (.s (.o (ofL [0, 1, 2, 3, 4, 5, 6, 7, 8, 9, 10] .nil)) (.s (.o (ofL [0, 1, 2, 3, 4, 5, 6, 7, 8, 9, 10, 11, 12, 13, 14] .nil)) (.s .d (.j [(70, 4)] .d .d)))) .d)))) (.s .d (.s .d (.s .d (.j [(15, 4)] .d (.s .d (.j [(4, 4)] .d .d))))))))))))
set_option linter.unusedVariables false in
def F7 (values : Option Addr) (values_n values_c : Nat) (sizes : Option Addr) (sizes_n sizes_c : Nat) (w : World) (Q : Value → World → Prop) : Prop :=
 
(cl Try.prog 9 #[] w fun v1 w2 => asB v1 fun b3 => 
(cl Try.prog 19 #[] w2 fun v4 w5 => asP v4 fun p6 => 
(jn (fun s7 w8 => asB (s7.getD 0 undef) fun b10 => (cond b10 
(Q (.bool false) w8) 

(lv (0 : Int) fun i_11 => 
(lp [(.slice none 0 0), (.int .i64 i_11)] w8 fun J14 s12 w13 => asS (s12.getD 0 undef) fun p15 n16 c17 => asI .i64 (s12.getD 1 undef) fun x18 => (jn (fun s19 w20 => asB (s19.getD 0 undef) fun b22 => (cond b22 
(dw w20 fun w23 => (dr values fun a24 => (bnd x18 values_n (ld w23 (Addr.add a24 (Int.toNat x18 * 1)) fun v25 => asI .i64 v25 fun x26 => (dr sizes fun a27 => (bnd x18 sizes_n (ld w23 (Addr.add a27 (Int.toNat x18 * 1)) fun v28 => asI .i64 v28 fun x29 => (cl Try.prog 20 #[(.pointer p6), (.int .i64 x26), (.int .i64 x29)] w23 fun v30 w31 => asI .i64 v30 fun x32 => (lv x32 fun e_33 => 
(dw w31 fun w34 => (dr values fun a35 => (bnd x18 values_n (ld w34 (Addr.add a35 (Int.toNat x18 * 1)) fun v36 => asI .i64 v36 fun x37 => (dr sizes fun a38 => (bnd x18 sizes_n (ld w34 (Addr.add a38 (Int.toNat x18 * 1)) fun v39 => asI .i64 v39 fun x40 => (cl Try.prog 22 #[(.slice p15 n16 c17), (.int .i64 x37), (.int .i64 x40)] w34 fun v41 w42 => asT 2 v41 fun t43 => asS (t43 0) fun p44 n45 c46 => asI .i64 (t43 1) fun x47 => (lv x47 fun f_48 => 

(jn (fun s49 w50 => asB (s49.getD 0 undef) fun b55 => (cond b55 
(Q (.bool false) w50) 
(lv (IntKind.wrap .i64 (x18 + (1 : Int))) fun i_56 => (J14 [(.slice p44 n45 c46), (.int .i64 i_56)] w50))))
 (fun J51 => (cond (e_33 != f_48) (J51 [(.bool true)] w42) (cl Try.prog 23 #[(.pointer p6)] w42 fun v52 w53 => asI .i64 v52 fun x54 => (J51 [(.bool (x54 != (n45 : Int)))] w53))))))))))))))))))))))) 
(cl Try.prog 21 #[(.pointer p6)] w20 fun v57 w58 => asS v57 fun p59 n60 c61 => 
(cl Try.prog 21 #[(.pointer p6)] w58 fun v62 w63 => asS v62 fun p64 n65 c66 => 
(cl Try.prog 24 #[(.slice p15 n16 c17)] w63 fun v67 w68 => asS v67 fun p69 n70 c71 => (rq Try.prog (Go.convert 22 9 (.slice p69 n70 c71)) w68 fun v72 => asY v72 fun s73 => 
(jn (fun s74 w75 => asB (s74.getD 0 undef) fun b81 => (cl Try.prog 21 #[(.pointer p6)] w75 fun v82 w83 => asS v82 fun p84 n85 c86 => (nw w83 (.cells #[(.slice p59 n60 c61), (.slice p64 n65 c66), (.slice p84 n85 c86)] 22) fun r87 w88 => (cl Try.prog 25 #[(.slice (some (⟨r87, 0, none⟩ : Addr)) 3 3)] w88 fun v89 w90 => asB v89 fun b91 => 
(jn (fun s92 w93 => asB (s92.getD 0 undef) fun b95 => (Q (.bool b95) w93))
 (fun J94 => (cond b81 (J94 [(.bool b91)] w90) (J94 [(.bool false)] w90))))))))
 (fun J76 => (rq Try.prog (Go.convert 22 9 (.slice p59 n60 c61)) w68 fun v77 => asY v77 fun s78 => (cond (ByteArray.toList s78 == ByteArray.toList s73) (rq Try.prog (Go.convert 22 9 (.slice p64 n65 c66)) w68 fun v79 => asY v79 fun s80 => (J76 [(.bool (ByteArray.toList s80 == ByteArray.toList s73))] w68)) (J76 [(.bool false)] w68)))))))))))
 (fun J21 => (cond (decide (x18 < (values_n : Int))) (J21 [(.bool (decide (x18 < (sizes_n : Int))))] w13) (J21 [(.bool false)] w13))))))))
 (fun J9 => (cond (!b3) (J9 [(.bool true)] w5) (J9 [(.bool (Option.isNone p6))] w5))))))
theorem F7_link (values : Option Addr) (values_n values_c : Nat) (sizes : Option Addr) (sizes_n sizes_c : Nat) (w : World) (Q : Value → World → Prop) : fnEv Try.prog Try.f7 h7 [(.slice values values_n values_c), (.slice sizes sizes_n sizes_c)] w Q = F7 values values_n values_c sizes sizes_n sizes_c w Q := by kernel_rfl
theorem F7_calls {values : Option Addr} {values_n values_c : Nat} {sizes : Option Addr} {sizes_n sizes_c : Nat} {w : World} {Q : Value → World → Prop} (h : F7 values values_n values_c sizes sizes_n sizes_c w Q) : cl Try.prog 7 #[(.slice values values_n values_c), (.slice sizes sizes_n sizes_c)] w Q :=
  calls_of_ev (fn := Try.f7) Try.func7 h7 (args := [(.slice values values_n values_c), (.slice sizes sizes_n sizes_c)]) (by rw [F7_link]; exact h)

/-! tiltyard/tiltyardlaw01.BitsLong -/
def h8 : Hint := (.s .d (.s .d (.s .d (.s (.j [(19, 4)] .d .d) (.s .d (.s (.s .d (.l [(7, 3), (8, 3)] (.s (.j [(29, 4)] .d .d) (.s (.s .d (.s (.o (ofL [0, 1, 2, 3, 4, 5, 6, 7, 8, 9, 10] .nil)) (.j [(7, 3)] .d (.j [(59, 4)] .d .d)))) .d)))) (.s .d (.j [(4, 4)] .d .d))))))))
set_option linter.unusedVariables false in
def F8 (values : Option Addr) (values_n values_c : Nat) (sizes : Option Addr) (sizes_n sizes_c : Nat) (w : World) (Q : Value → World → Prop) : Prop :=
 
(cl Try.prog 9 #[] w fun v1 w2 => asB v1 fun b3 => 
(cl Try.prog 19 #[] w2 fun v4 w5 => asP v4 fun p6 => 
(jn (fun s7 w8 => asB (s7.getD 0 undef) fun b10 => (cond b10 
(Q (.bool false) w8) 
(lv (0 : Int) fun n_11 => 
(lv (0 : Int) fun i_12 => 
(lp [(.int .i64 n_11), (.int .i64 i_12)] w8 fun J15 s13 w14 => asI .i64 (s13.getD 0 undef) fun x16 => asI .i64 (s13.getD 1 undef) fun x17 => (jn (fun s18 w19 => asB (s18.getD 0 undef) fun b21 => (cond b21 
(cl Try.prog 23 #[(.pointer p6)] w19 fun v22 w23 => asI .i64 v22 fun x24 => (lv x24 fun before_25 => 
(dw w23 fun w26 => (dr values fun a27 => (bnd x17 values_n (ld w26 (Addr.add a27 (Int.toNat x17 * 1)) fun v28 => asI .i64 v28 fun x29 => (dr sizes fun a30 => (bnd x17 sizes_n (ld w26 (Addr.add a30 (Int.toNat x17 * 1)) fun v31 => asI .i64 v31 fun x32 => (cl Try.prog 20 #[(.pointer p6), (.int .i64 x29), (.int .i64 x32)] w26 fun v33 w34 => asI .i64 v33 fun x35 => (lv x35 fun e_36 => 
(jn (fun s37 w38 => asI .i64 (s37.getD 0 undef) fun x44 => (jn (fun s45 w46 => asB (s45.getD 0 undef) fun b51 => (cond b51 
(Q (.bool false) w46) 
(lv (IntKind.wrap .i64 (x17 + (1 : Int))) fun i_52 => (J15 [(.int .i64 x44), (.int .i64 i_52)] w46))))
 (fun J47 => (cond (e_36 != (0 : Int)) (cl Try.prog 23 #[(.pointer p6)] w38 fun v48 w49 => asI .i64 v48 fun x50 => (J47 [(.bool (x50 != before_25))] w49)) (J47 [(.bool false)] w38)))))
 (fun J39 => 
(cond (e_36 == (0 : Int)) (dr sizes fun a40 => (bnd x17 sizes_n (ld w34 (Addr.add a40 (Int.toNat x17 * 1)) fun v41 => asI .i64 v41 fun x42 => (lv (IntKind.wrap .i64 (x16 + x42)) fun n_43 => (J39 [(.int .i64 n_43)] w34))))) (J39 [(.int .i64 x16)] w34))))))))))))))) 
(cl Try.prog 21 #[(.pointer p6)] w19 fun v53 w54 => asS v53 fun p55 n56 c57 => (cl Try.prog 11 #[(.slice p55 n56 c57)] w54 fun v58 w59 => asP v58 fun p60 => 
(jn (fun s61 w62 => asB (s61.getD 0 undef) fun b75 => (Q (.bool b75) w62))
 (fun J63 => (cl Try.prog 23 #[(.pointer p6)] w59 fun v64 w65 => asI .i64 v64 fun x66 => (cond (x66 == x16) (cl Try.prog 21 #[(.pointer p6)] w65 fun v67 w68 => asS v67 fun p69 n70 c71 => (cond ((n70 : Int) == (IntKind.wrap .i64 (Int.tdiv (IntKind.wrap .i64 (x16 + (7 : Int))) (8 : Int)))) (cond (!(Option.isNone p60)) (cl Try.prog 17 #[(.pointer p60)] w68 fun v72 w73 => asI .i64 v72 fun x74 => (J63 [(.bool (x74 == (IntKind.wrap .i64 ((8 : Int) * (IntKind.wrap .i64 (Int.tdiv (IntKind.wrap .i64 (x16 + (7 : Int))) (8 : Int)))))))] w73)) (J63 [(.bool false)] w68)) (J63 [(.bool false)] w68))) (J63 [(.bool false)] w65)))))))))
 (fun J20 => (cond (decide (x17 < (values_n : Int))) (J20 [(.bool (decide (x17 < (sizes_n : Int))))] w14) (J20 [(.bool false)] w14)))))))))
 (fun J9 => (cond (!b3) (J9 [(.bool true)] w5) (J9 [(.bool (Option.isNone p6))] w5))))))
theorem F8_link (values : Option Addr) (values_n values_c : Nat) (sizes : Option Addr) (sizes_n sizes_c : Nat) (w : World) (Q : Value → World → Prop) : fnEv Try.prog Try.f8 h8 [(.slice values values_n values_c), (.slice sizes sizes_n sizes_c)] w Q = F8 values values_n values_c sizes sizes_n sizes_c w Q := by kernel_rfl
theorem F8_calls {values : Option Addr} {values_n values_c : Nat} {sizes : Option Addr} {sizes_n sizes_c : Nat} {w : World} {Q : Value → World → Prop} (h : F8 values values_n values_c sizes sizes_n sizes_c w Q) : cl Try.prog 8 #[(.slice values values_n values_c), (.slice sizes sizes_n sizes_c)] w Q :=
  calls_of_ev (fn := Try.f8) Try.func8 h8 (args := [(.slice values values_n values_c), (.slice sizes sizes_n sizes_c)]) (by rw [F8_link]; exact h)

/-! tiltyard/tiltyardlaw01.awake -/
def h9 : Hint := (.s .d (.s .d (.s .d (.s .d (.s .d (.s .d (.s .d (.s .d (.s .d (.s .d (.s .d (.s .d (.s .d (.j [(0, 4)] .d .d))))))))))))))
set_option linter.unusedVariables false in
def F9  (w : World) (Q : Value → World → Prop) : Prop :=
 
(cl Try.prog 19 #[] w fun v1 w2 => asP v1 fun p3 => 

(cond (Option.isNone p3) 
(Q (.bool false) w2) 
(cl Try.prog 20 #[(.pointer p3), (.int .i64 (5 : Int)), (.int .i64 (3 : Int))] w2 fun v4 w5 => asI .i64 v4 fun x6 => (lv x6 fun a_7 => 
(cl Try.prog 20 #[(.pointer p3), (.int .i64 (0 : Int)), (.int .i64 (1 : Int))] w5 fun v8 w9 => asI .i64 v8 fun x10 => (lv x10 fun b_11 => 
(cl Try.prog 20 #[(.pointer p3), (.int .i64 (255 : Int)), (.int .i64 (8 : Int))] w9 fun v12 w13 => asI .i64 v12 fun x14 => (lv x14 fun c_15 => 
(cl Try.prog 20 #[(.pointer p3), (.int .i64 (8 : Int)), (.int .i64 (3 : Int))] w13 fun v16 w17 => asI .i64 v16 fun x18 => (lv x18 fun d_19 => 
(cl Try.prog 21 #[(.pointer p3)] w17 fun v20 w21 => asS v20 fun p22 n23 c24 => 
(cl Try.prog 11 #[(.slice p22 n23 c24)] w21 fun v25 w26 => asP v25 fun p27 => 

(cond (Option.isNone p27) 
(Q (.bool false) w26) 
(cl Try.prog 14 #[(.pointer p27), (.int .i64 (3 : Int))] w26 fun v28 w29 => asT 2 v28 fun t30 => asI .i64 (t30 0) fun x31 => asI .i64 (t30 1) fun x32 => (lv x31 fun n_33 => (lv x32 fun e_34 => 
(cl Try.prog 14 #[(.pointer p27), (.int .i64 (1 : Int))] w29 fun v35 w36 => asT 2 v35 fun t37 => asI .i64 (t37 0) fun x38 => asI .i64 (t37 1) fun x39 => (lv x38 fun m_40 => (lv x39 fun f_41 => 
(cl Try.prog 14 #[(.pointer p27), (.int .i64 (8 : Int))] w36 fun v42 w43 => asT 2 v42 fun t44 => asI .i64 (t44 0) fun x45 => asI .i64 (t44 1) fun x46 => (lv x45 fun k_47 => (lv x46 fun g_48 => 
(jn (fun s49 w50 => asB (s49.getD 0 undef) fun b57 => (Q (.bool b57) w50))
 (fun J51 => (cond (a_7 == (0 : Int)) (cond (b_11 == (0 : Int)) (cond (c_15 == (0 : Int)) (cond (d_19 == (1 : Int)) (rq Try.prog (Go.convert 22 9 (.slice p22 n23 c24)) w43 fun v52 => asY v52 fun s53 => (cond (ByteArray.toList s53 == ByteArray.toList (⟨#[175, 240]⟩ : ByteArray)) (cond (n_33 == (5 : Int)) (cond (e_34 == (0 : Int)) (cond (m_40 == (0 : Int)) (cond (f_41 == (0 : Int)) (cond (k_47 == (255 : Int)) (cond (g_48 == (0 : Int)) (cl Try.prog 18 #[(.pointer p27)] w43 fun v54 w55 => asB v54 fun b56 => (J51 [(.bool b56)] w55)) (J51 [(.bool false)] w43)) (J51 [(.bool false)] w43)) (J51 [(.bool false)] w43)) (J51 [(.bool false)] w43)) (J51 [(.bool false)] w43)) (J51 [(.bool false)] w43)) (J51 [(.bool false)] w43))) (J51 [(.bool false)] w43)) (J51 [(.bool false)] w43)) (J51 [(.bool false)] w43)) (J51 [(.bool false)] w43))))))))))))))))))))))))))
theorem F9_link  (w : World) (Q : Value → World → Prop) : fnEv Try.prog Try.f9 h9 [] w Q = F9  w Q := by kernel_rfl
theorem F9_calls  {w : World} {Q : Value → World → Prop} (h : F9  w Q) : cl Try.prog 9 #[] w Q :=
  calls_of_ev (fn := Try.f9) Try.func9 h9 (args := []) (by rw [F9_link]; exact h)

/-! tiltyard/tiltyardlaw01.Lent -/
def h10 : Hint := (.s .d (.s .d (.s .d (.s .d (.s (.s .d (.l [(5, 3)] .d)) .d)))))
set_option linter.unusedVariables false in
def F10 (b : Option Addr) (b_n b_c : Nat) (w : World) (Q : Value → World → Prop) : Prop :=
 
(rn Try.prog (Instr.makeSlice 22 (.int .i64 (b_n : Int)) (.int .i64 (IntKind.wrap .i64 ((b_n : Int) + (3 : Int))))) w fun v1 w2 => asS v1 fun p3 n4 c5 => 
(rn Try.prog (Builtin.copy_ #[22, 22] 3 #[(.slice p3 n4 c5), (.slice b b_n b_c)]) w2 fun v6 w7 => asI .i64 v6 fun x8 => 
(bn2 (IntKind.wrap .i64 ((b_n : Int) + (3 : Int))) c5 
(lv (b_n : Int) fun i_9 => 
(lp [(.int .i64 i_9)] w7 fun J12 s10 w11 => asI .i64 (s10.getD 0 undef) fun x13 => 
(cond (decide (x13 < (((Int.toNat (IntKind.wrap .i64 ((b_n : Int) + (3 : Int)))) : Nat) : Int))) 
(dr p3 fun a14 => (bnd x13 (Int.toNat (IntKind.wrap .i64 ((b_n : Int) + (3 : Int)))) (st w11 (Addr.add a14 (Int.toNat x13 * 1)) (.int .u8 (77 : Int)) fun w15 => 
(lv (IntKind.wrap .i64 (x13 + (1 : Int))) fun i_16 => (J12 [(.int .i64 i_16)] w15))))) 

(Q (.slice p3 n4 c5) w11)))))))
theorem F10_link (b : Option Addr) (b_n b_c : Nat) (w : World) (Q : Value → World → Prop) : fnEv Try.prog Try.f10 h10 [(.slice b b_n b_c)] w Q = F10 b b_n b_c w Q := by kernel_rfl
theorem F10_calls {b : Option Addr} {b_n b_c : Nat} {w : World} {Q : Value → World → Prop} (h : F10 b b_n b_c w Q) : cl Try.prog 10 #[(.slice b b_n b_c)] w Q :=
  calls_of_ev (fn := Try.f10) Try.func10 h10 (args := [(.slice b b_n b_c)]) (by rw [F10_link]; exact h)

/-! tiltyard/bits.Read -/
def h11 : Hint := .d
set_option linter.unusedVariables false in
def F11 (b : Option Addr) (b_n b_c : Nat) (w : World) (Q : Value → World → Prop) : Prop :=
 
(rn Try.prog (Builtin.append_ #[22, 22] 22 #[(.slice none 0 0), (.slice b b_n b_c)]) w fun v1 w2 => asS v1 fun p3 n4 c5 => (nw w2 (.cells #[(.slice p3 n4 c5), (.int .i64 (0 : Int))] 51) fun r6 w7 => 
(Q (.pointer (some (⟨r6, 0, none⟩ : Addr))) w7)))
theorem F11_link (b : Option Addr) (b_n b_c : Nat) (w : World) (Q : Value → World → Prop) : fnEv Try.prog Try.f11 h11 [(.slice b b_n b_c)] w Q = F11 b b_n b_c w Q := by kernel_rfl
theorem F11_calls {b : Option Addr} {b_n b_c : Nat} {w : World} {Q : Value → World → Prop} (h : F11 b b_n b_c w Q) : cl Try.prog 11 #[(.slice b b_n b_c)] w Q :=
  calls_of_ev (fn := Try.f11) Try.func11 h11 (args := [(.slice b b_n b_c)]) (by rw [F11_link]; exact h)

/-! tiltyard/tiltyardlaw01.Kept -/
def h12 : Hint := (.s .d (.j [(5, 4)] .d (.s .d (.s .d (.s (.s .d (.l [(7, 3)] (.s .d (.s (.s (.j [(61, 4)] (.o (ofL [0, 1, 2, 3, 4, 5, 6, 7, 8, 9, 10, 11, 12, 13, 14, 15, 16, 17, 18, 19, 20, 21, 22, 23, 24, 25, 26, 27] .nil)) .d) .d) .d)))) .d)))))
set_option linter.unusedVariables false in
def F12 (lent : Option Addr) (lent_n lent_c : Nat) (was : Option Addr) (was_n was_c : Nat) (w : World) (Q : Value → World → Prop) : Prop :=
 
(jn (fun s1 w2 => asB (s1.getD 0 undef) fun b4 => 
(cond (!b4) 
(Q (.bool false) w2) 
(bn2 (IntKind.wrap .i64 ((was_n : Int) + (3 : Int))) lent_c 
(lv (0 : Int) fun i_5 => 
(lp [(.int .i64 i_5)] w2 fun J8 s6 w7 => asI .i64 (s6.getD 0 undef) fun x9 => 
(cond (decide (x9 < (((Int.toNat (IntKind.wrap .i64 ((was_n : Int) + (3 : Int)))) : Nat) : Int))) 
(jn (fun s10 w11 => asB (s10.getD 0 undef) fun b26 => (cond b26 
(Q (.bool false) w11) 
(dr lent fun a27 => (bnd x9 (Int.toNat (IntKind.wrap .i64 ((was_n : Int) + (3 : Int)))) (ld w11 (Addr.add a27 (Int.toNat x9 * 1)) fun v28 => asI .u8 v28 fun x29 => (dr lent fun a30 => (bnd x9 (Int.toNat (IntKind.wrap .i64 ((was_n : Int) + (3 : Int)))) (st w11 (Addr.add a30 (Int.toNat x9 * 1)) (.int .u8 (Go.bits .xor .u8 x29 (255 : Int))) fun w31 => 
(lv (IntKind.wrap .i64 (x9 + (1 : Int))) fun i_32 => (J8 [(.int .i64 i_32)] w31))))))))))
 (fun J12 => (dw w7 fun w13 => (cond (decide (x9 < (was_n : Int))) (dr lent fun a14 => (bnd x9 (Int.toNat (IntKind.wrap .i64 ((was_n : Int) + (3 : Int)))) (ld w13 (Addr.add a14 (Int.toNat x9 * 1)) fun v15 => asI .u8 v15 fun x16 => (dr was fun a17 => (bnd x9 was_n (ld w13 (Addr.add a17 (Int.toNat x9 * 1)) fun v18 => asI .u8 v18 fun x19 => (cond (x16 != x19) (J12 [(.bool true)] w13) (cond (decide (x9 ≥ (was_n : Int))) (dr lent fun a20 => (bnd x9 (Int.toNat (IntKind.wrap .i64 ((was_n : Int) + (3 : Int)))) (ld w13 (Addr.add a20 (Int.toNat x9 * 1)) fun v21 => asI .u8 v21 fun x22 => (J12 [(.bool (x22 != (77 : Int)))] w13)))) (J12 [(.bool false)] w13))))))))) (cond (decide (x9 ≥ (was_n : Int))) (dr lent fun a23 => (bnd x9 (Int.toNat (IntKind.wrap .i64 ((was_n : Int) + (3 : Int)))) (ld w13 (Addr.add a23 (Int.toNat x9 * 1)) fun v24 => asI .u8 v24 fun x25 => (J12 [(.bool (x25 != (77 : Int)))] w13)))) (J12 [(.bool false)] w13)))))) 

(Q (.bool true) w7)))))))
 (fun J3 => (cond ((lent_n : Int) == (was_n : Int)) (J3 [(.bool (decide ((lent_c : Int) ≥ (IntKind.wrap .i64 ((was_n : Int) + (3 : Int))))))] w) (J3 [(.bool false)] w))))
theorem F12_link (lent : Option Addr) (lent_n lent_c : Nat) (was : Option Addr) (was_n was_c : Nat) (w : World) (Q : Value → World → Prop) : fnEv Try.prog Try.f12 h12 [(.slice lent lent_n lent_c), (.slice was was_n was_c)] w Q = F12 lent lent_n lent_c was was_n was_c w Q := by kernel_rfl
theorem F12_calls {lent : Option Addr} {lent_n lent_c : Nat} {was : Option Addr} {was_n was_c : Nat} {w : World} {Q : Value → World → Prop} (h : F12 lent lent_n lent_c was was_n was_c w Q) : cl Try.prog 12 #[(.slice lent lent_n lent_c), (.slice was was_n was_c)] w Q :=
  calls_of_ev (fn := Try.f12) Try.func12 h12 (args := [(.slice lent lent_n lent_c), (.slice was was_n was_c)]) (by rw [F12_link]; exact h)

/-! tiltyard/tiltyardref01.Row -/
def h13 : Hint := (.s .d (.s .d (.s (.s .d (.l [(3, 29), (4, 3)] .d)) .d)))
set_option linter.unusedVariables false in
def F13 (b : Option Addr) (b_n b_c : Nat) (w : World) (Q : Value → World → Prop) : Prop :=
 

(lv (0 : Int) fun i_1 => 
(lp [(.slice none 0 0), (.int .i64 i_1)] w fun J4 s2 w3 => asS (s2.getD 0 undef) fun p5 n6 c7 => asI .i64 (s2.getD 1 undef) fun x8 => 
(cond (decide (x8 < (IntKind.wrap .i64 ((8 : Int) * (b_n : Int))))) 
(dr b fun a9 => (bnd (IntKind.wrap .i64 (Int.tdiv x8 (8 : Int))) b_n (ld w3 (Addr.add a9 (Int.toNat (IntKind.wrap .i64 (Int.tdiv x8 (8 : Int))) * 1)) fun v10 => asI .u8 v10 fun x11 => (nn (IntKind.wrap .i64 ((7 : Int) - (Int.tmod x8 (8 : Int)))) (nw w3 (.cells #[(.bool ((Go.bits .and .u8 (Int.fdiv x11 (2 ^ (min (Int.toNat (IntKind.wrap .i64 ((7 : Int) - (Int.tmod x8 (8 : Int))))) 8))) (1 : Int)) == (1 : Int)))] 4) fun r12 w13 => (rn Try.prog (Builtin.append_ #[29, 29] 29 #[(.slice p5 n6 c7), (.slice (some (⟨r12, 0, none⟩ : Addr)) 1 1)]) w13 fun v14 w15 => asS v14 fun p16 n17 c18 => 
(lv (IntKind.wrap .i64 (x8 + (1 : Int))) fun i_19 => (J4 [(.slice p16 n17 c18), (.int .i64 i_19)] w15)))))))) 

(Q (.slice p5 n6 c7) w3))))
theorem F13_link (b : Option Addr) (b_n b_c : Nat) (w : World) (Q : Value → World → Prop) : fnEv Try.prog Try.f13 h13 [(.slice b b_n b_c)] w Q = F13 b b_n b_c w Q := by kernel_rfl
theorem F13_calls {b : Option Addr} {b_n b_c : Nat} {w : World} {Q : Value → World → Prop} (h : F13 b b_n b_c w Q) : cl Try.prog 13 #[(.slice b b_n b_c)] w Q :=
  calls_of_ev (fn := Try.f13) Try.func13 h13 (args := [(.slice b b_n b_c)]) (by rw [F13_link]; exact h)

/-! (*tiltyard/bits.Reader).Take -/
def h14 : Hint := (.s .d (.s (.j [(7, 4)] .d .d) (.s .d (.s (.s .d (.l [(6, 3), (20, 3)] (.s .d (.s .d (.s (.s (.o (ofL [0, 1, 2, 3, 4, 5, 6, 7, 8, 9, 10, 11, 12, 13, 14, 15, 16, 17, 18, 19, 20, 21, 22, 23] .nil)) .d) .d))))) .d))))
set_option linter.unusedVariables false in
def F14 (r : Option Addr) (n : Int) (w : World) (Q : Value → World → Prop) : Prop :=
 (lv (0 : Int) fun y1 => (lv (0 : Int) fun y2 => 
(jn (fun s3 w4 => asB (s3.getD 0 undef) fun b6 => (cond b6 (lv (0 : Int) fun y7 => (lv (1 : Int) fun y8 => 
(Q (.tuple #[(.int .i64 y7), (.int .i64 y8)]) w4))) (cl Try.prog 17 #[(.pointer r)] w4 fun v9 w10 => asI .i64 v9 fun x11 => 
(cond (decide (n > x11)) (lv (0 : Int) fun y12 => (lv (3 : Int) fun y13 => 
(Q (.tuple #[(.int .i64 y12), (.int .i64 y13)]) w10))) 
(lv (0 : Int) fun v_14 => 

(lp [(.int .i64 v_14), (.int .i64 (0 : Int))] w10 fun J17 s15 w16 => asI .i64 (s15.getD 0 undef) fun x18 => asI .i64 (s15.getD 1 undef) fun x19 => 
(cond (decide (x19 < n)) 
(dw w16 fun w20 => (dr r fun a21 => (ld w20 a21 fun v22 => asS v22 fun p23 n24 c25 => (dr r fun a26 => (ld w20 (Addr.add a26 1) fun v27 => asI .i64 v27 fun x28 => (dr p23 fun a29 => (bnd (IntKind.wrap .i64 (Int.tdiv x28 (8 : Int))) n24 (ld w20 (Addr.add a29 (Int.toNat (IntKind.wrap .i64 (Int.tdiv x28 (8 : Int))) * 1)) fun v30 => asI .u8 v30 fun x31 => (dr r fun a32 => (ld w20 (Addr.add a32 1) fun v33 => asI .i64 v33 fun x34 => (nn (IntKind.wrap .i64 ((7 : Int) - (Int.tmod x34 (8 : Int)))) (lv (Go.bits .or .i64 (IntKind.wrap .i64 (x18 * 2 ^ (min (Int.toNat (1 : Int)) 64))) (IntKind.wrap .i64 (Go.bits .and .u8 (Int.fdiv x31 (2 ^ (min (Int.toNat (IntKind.wrap .i64 ((7 : Int) - (Int.tmod x34 (8 : Int))))) 8))) (1 : Int)))) fun v_35 => 
(dr r fun a36 => (ld w20 (Addr.add a36 1) fun v37 => asI .i64 v37 fun x38 => (dr r fun a39 => (st w20 (Addr.add a39 1) (.int .i64 (IntKind.wrap .i64 (x38 + (1 : Int)))) fun w40 => 
(J17 [(.int .i64 v_35), (.int .i64 (IntKind.wrap .i64 (x19 + (1 : Int))))] w40))))))))))))))))) 
(lv x18 fun y41 => (lv (0 : Int) fun y42 => 
(Q (.tuple #[(.int .i64 y41), (.int .i64 y42)]) w16))))))))))
 (fun J5 => (cond (decide (n < (0 : Int))) (J5 [(.bool true)] w) (J5 [(.bool (decide (n > (63 : Int))))] w))))))
theorem F14_link (r : Option Addr) (n : Int) (w : World) (Q : Value → World → Prop) : fnEv Try.prog Try.f14 h14 [(.pointer r), (.int .i64 n)] w Q = F14 r n w Q := by kernel_rfl
theorem F14_calls {r : Option Addr} {n : Int} {w : World} {Q : Value → World → Prop} (h : F14 r n w Q) : cl Try.prog 14 #[(.pointer r), (.int .i64 n)] w Q :=
  calls_of_ev (fn := Try.f14) Try.func14 h14 (args := [(.pointer r), (.int .i64 n)]) (by rw [F14_link]; exact h)

/-! tiltyard/tiltyardref01.Take -/
def h15 : Hint := (.s .d (.s (.j [(14, 4)] .d .d) (.s .d (.s .d (.s (.s .d (.l [(7, 3), (8, 3)] (.s .d (.j [(7, 3)] .d .d)))) (.s (.o (ofL [0, 1, 2, 3, 4, 5, 6] .nil)) .d))))))
set_option linter.unusedVariables false in
def F15 (l : Option Addr) (l_n l_c : Nat) (n : Int) (w : World) (Q : Value → World → Prop) : Prop :=
 (lv (0 : Int) fun y1 => (lv (0 : Int) fun y2 => 
(jn (fun s3 w4 => asB (s3.getD 0 undef) fun b6 => (cond b6 (lv (0 : Int) fun y7 => (lv (1 : Int) fun y8 => 
(Q (.tuple #[(.int .i64 y7), (.slice l l_n l_c), (.int .i64 y8)]) w4))) 

(cond (decide (n > (l_n : Int))) (lv (0 : Int) fun y9 => (lv (3 : Int) fun y10 => 
(Q (.tuple #[(.int .i64 y9), (.slice l l_n l_c), (.int .i64 y10)]) w4))) 
(lv (0 : Int) fun v_11 => 
(lv (0 : Int) fun i_12 => 
(lp [(.int .i64 v_11), (.int .i64 i_12)] w4 fun J15 s13 w14 => asI .i64 (s13.getD 0 undef) fun x16 => asI .i64 (s13.getD 1 undef) fun x17 => 
(cond (decide (x17 < n)) 
(jn (fun s18 w19 => asI .i64 (s18.getD 0 undef) fun x26 => (lv (IntKind.wrap .i64 (x17 + (1 : Int))) fun i_27 => (J15 [(.int .i64 x26), (.int .i64 i_27)] w19)))
 (fun J20 => (lv (IntKind.wrap .i64 ((2 : Int) * x16)) fun v_21 => 
(dr l fun a22 => (bnd x17 l_n (ld w14 (Addr.add a22 (Int.toNat x17 * 1)) fun v23 => asB v23 fun b24 => 
(cond b24 (lv (IntKind.wrap .i64 (v_21 + (1 : Int))) fun v_25 => (J20 [(.int .i64 v_25)] w14)) (J20 [(.int .i64 v_21)] w14)))))))) 
(dw w14 fun w28 => (bn2 n l_n (lv x16 fun y29 => (lv (0 : Int) fun y30 => 
(Q (.tuple #[(.int .i64 y29), (.slice (slp l l_c (Int.toNat n) 1) (l_n - (Int.toNat n)) (l_c - (Int.toNat n))), (.int .i64 y30)]) w28))))))))))))
 (fun J5 => (cond (decide (n < (0 : Int))) (J5 [(.bool true)] w) (J5 [(.bool (decide (n > (63 : Int))))] w))))))
theorem F15_link (l : Option Addr) (l_n l_c : Nat) (n : Int) (w : World) (Q : Value → World → Prop) : fnEv Try.prog Try.f15 h15 [(.slice l l_n l_c), (.int .i64 n)] w Q = F15 l l_n l_c n w Q := by kernel_rfl
theorem F15_calls {l : Option Addr} {l_n l_c : Nat} {n : Int} {w : World} {Q : Value → World → Prop} (h : F15 l l_n l_c n w Q) : cl Try.prog 15 #[(.slice l l_n l_c), (.int .i64 n)] w Q :=
  calls_of_ev (fn := Try.f15) Try.func15 h15 (args := [(.slice l l_n l_c), (.int .i64 n)]) (by rw [F15_link]; exact h)

/-! tiltyard/tiltyardref01.Done -/
def h16 : Hint := (.s .d (.s (.s .d (.l [(3, 3)] .d)) .d))
set_option linter.unusedVariables false in
def F16 (l : Option Addr) (l_n l_c : Nat) (w : World) (Q : Value → World → Prop) : Prop :=
 
(lv (0 : Int) fun i_1 => 
(lp [(.int .i64 i_1)] w fun J4 s2 w3 => asI .i64 (s2.getD 0 undef) fun x5 => 
(cond (decide (x5 < (l_n : Int))) 
(dr l fun a6 => (bnd x5 l_n (ld w3 (Addr.add a6 (Int.toNat x5 * 1)) fun v7 => asB v7 fun b8 => 
(cond b8 
(Q (.bool false) w3) 
(lv (IntKind.wrap .i64 (x5 + (1 : Int))) fun i_9 => (J4 [(.int .i64 i_9)] w3)))))) 

(Q (.bool (decide ((l_n : Int) < (8 : Int)))) w3))))
theorem F16_link (l : Option Addr) (l_n l_c : Nat) (w : World) (Q : Value → World → Prop) : fnEv Try.prog Try.f16 h16 [(.slice l l_n l_c)] w Q = F16 l l_n l_c w Q := by kernel_rfl
theorem F16_calls {l : Option Addr} {l_n l_c : Nat} {w : World} {Q : Value → World → Prop} (h : F16 l l_n l_c w Q) : cl Try.prog 16 #[(.slice l l_n l_c)] w Q :=
  calls_of_ev (fn := Try.f16) Try.func16 h16 (args := [(.slice l l_n l_c)]) (by rw [F16_link]; exact h)

/-! (*tiltyard/bits.Reader).Rest -/
def h17 : Hint := (.s .d (.s (.o (ofL [0, 1, 2, 3, 4, 5, 6, 7, 8, 9, 10, 11] .nil)) .d))
set_option linter.unusedVariables false in
def F17 (r : Option Addr) (w : World) (Q : Value → World → Prop) : Prop :=
 (lv (0 : Int) fun y1 => 
(dw w fun w2 => (dr r fun a3 => (ld w2 a3 fun v4 => asS v4 fun p5 n6 c7 => (dr r fun a8 => (ld w2 (Addr.add a8 1) fun v9 => asI .i64 v9 fun x10 => (lv (IntKind.wrap .i64 ((IntKind.wrap .i64 ((8 : Int) * (n6 : Int))) - x10)) fun y11 => 
(Q (.int .i64 y11) w2))))))))
theorem F17_link (r : Option Addr) (w : World) (Q : Value → World → Prop) : fnEv Try.prog Try.f17 h17 [(.pointer r)] w Q = F17 r w Q := by kernel_rfl
theorem F17_calls {r : Option Addr} {w : World} {Q : Value → World → Prop} (h : F17 r w Q) : cl Try.prog 17 #[(.pointer r)] w Q :=
  calls_of_ev (fn := Try.f17) Try.func17 h17 (args := [(.pointer r)]) (by rw [F17_link]; exact h)

/-! (*tiltyard/bits.Reader).Done -/
def h18 : Hint := (.s .d (.s .d (.s .d (.s .d (.s .d (.j [(4, 5)] (.s (.o (ofL [0, 1, 2, 3, 4, 5, 6, 7, 8, 9, 10, 11] .nil)) (.l [(4, 5), (21, 3)] (.s .d (.s .d (.s (.s .d (.s (.o (ofL [0, 1, 2, 3, 4, 5, 6, 7, 8, 9, 10, 11, 12, 13] .nil)) .d)) .d))))) .d))))))
set_option linter.unusedVariables false in
def F18 (r : Option Addr) (w : World) (Q : Value → World → Prop) : Prop :=
 
(cl Try.prog 17 #[(.pointer r)] w fun v1 w2 => asI .i64 v1 fun x3 => (lv x3 fun n_4 => 

(cond (decide (n_4 ≥ (8 : Int))) 
(Q (.bool false) w2) 
(lv (0 : Int) fun last_5 => 

(jn (fun s6 w7 => asI .u8 (s6.getD 0 undef) fun x37 => (nn n_4 
(Q (.bool ((Go.bits .and .u8 x37 (IntKind.wrap .u8 ((IntKind.wrap .u8 ((1 : Int) * 2 ^ (min (Int.toNat n_4) 8))) - (1 : Int)))) == (0 : Int))) w7)))
 (fun J8 => (dw w2 fun w9 => (dr r fun a10 => (ld w9 a10 fun v11 => asS v11 fun p12 n13 c14 => (dr r fun a15 => (ld w9 (Addr.add a15 1) fun v16 => asI .i64 v16 fun x17 => (bn2 (IntKind.wrap .i64 (Int.tdiv x17 (8 : Int))) n13 
(lp [(.int .u8 last_5), (.int .i64 (0 : Int))] w9 fun J20 s18 w19 => asI .u8 (s18.getD 0 undef) fun x21 => asI .i64 (s18.getD 1 undef) fun x22 => 
(cond (decide (x22 < (((n13 - (Int.toNat (IntKind.wrap .i64 (Int.tdiv x17 (8 : Int))))) : Nat) : Int))) 
(lv x22 fun i_23 => 
(dw w19 fun w24 => (dr r fun a25 => (ld w24 a25 fun v26 => asS v26 fun p27 n28 c29 => (dr r fun a30 => (ld w24 (Addr.add a30 1) fun v31 => asI .i64 v31 fun x32 => (dr p27 fun a33 => (bnd (IntKind.wrap .i64 ((IntKind.wrap .i64 (Int.tdiv x32 (8 : Int))) + i_23)) n28 (ld w24 (Addr.add a33 (Int.toNat (IntKind.wrap .i64 ((IntKind.wrap .i64 (Int.tdiv x32 (8 : Int))) + i_23)) * 1)) fun v34 => asI .u8 v34 fun x35 => (lv x35 fun last_36 => 
(J8 [(.int .u8 last_36)] w24))))))))))) (J8 [(.int .u8 x21)] w19)))))))))))))))
theorem F18_link (r : Option Addr) (w : World) (Q : Value → World → Prop) : fnEv Try.prog Try.f18 h18 [(.pointer r)] w Q = F18 r w Q := by kernel_rfl
theorem F18_calls {r : Option Addr} {w : World} {Q : Value → World → Prop} (h : F18 r w Q) : cl Try.prog 18 #[(.pointer r)] w Q :=
  calls_of_ev (fn := Try.f18) Try.func18 h18 (args := [(.pointer r)]) (by rw [F18_link]; exact h)

/-! tiltyard/bits.New -/
def h19 : Hint := .d
set_option linter.unusedVariables false in
def F19  (w : World) (Q : Value → World → Prop) : Prop :=
 
(nw w (.cells #[(.slice none 0 0), (.int .i64 (0 : Int))] 54) fun r1 w2 => 
(Q (.pointer (some (⟨r1, 0, none⟩ : Addr))) w2))
theorem F19_link  (w : World) (Q : Value → World → Prop) : fnEv Try.prog Try.f19 h19 [] w Q = F19  w Q := by kernel_rfl
theorem F19_calls  {w : World} {Q : Value → World → Prop} (h : F19  w Q) : cl Try.prog 19 #[] w Q :=
  calls_of_ev (fn := Try.f19) Try.func19 h19 (args := []) (by rw [F19_link]; exact h)

/-! (*tiltyard/bits.Writer).Put -/
def h20 : Hint := (.s .d (.g 1 [(2, 3)] [(.j [(9, 4)] .d .d)] (.s .d (.j [] .d (.s .d (.s .d (.s (.o (ofL [0, 1, 2, 3, 4, 5, 6, 7, 8, 9, 10, 11, 12, 13, 14, 15, 16, 17, 18, 19, 20, 21, 22, 23, 24, 25, 26, 27, 28] .nil)) .d)))))))
set_option linter.unusedVariables false in
def F20 (w' : Option Addr) (v : Int) (n : Int) (w : World) (Q : Value → World → Prop) : Prop :=
 (lv (0 : Int) fun y1 => 
(jn (fun s2 w3 => asB (s2.getD 0 undef) fun b5 => (cond b5 (lv (1 : Int) fun y6 => 
(Q (.int .i64 y6) w3)) (dr w' fun a7 => (ld w3 (Addr.add a7 1) fun v8 => asI .i64 v8 fun x9 => 
(cond (decide ((IntKind.wrap .i64 (x9 + n)) > (1048576 : Int))) (lv (2 : Int) fun y10 => 
(Q (.int .i64 y10) w3)) (lp [(.int .i64 n)] w3 fun J13 s11 w12 => asI .i64 (s11.getD 0 undef) fun x14 => 
(cond (x14 == (0 : Int)) (lv (0 : Int) fun y15 => 
(Q (.int .i64 y15) w12)) 
(jn (fun s16 w17 => (dr w' fun a36 => (ld w17 (Addr.add a36 1) fun v37 => asI .i64 v37 fun x38 => (lv (IntKind.wrap .i64 ((8 : Int) - (Int.tmod x38 (8 : Int)))) fun free_39 => 
(lv (if x14 < free_39 then x14 else free_39) fun k_40 => 
(dw w17 fun w41 => (dr w' fun a42 => (ld w41 a42 fun v43 => asS v43 fun p44 n45 c46 => (dr w' fun a47 => (ld w41 a47 fun v48 => asS v48 fun p49 n50 c51 => (dr p44 fun a52 => (bnd (IntKind.wrap .i64 ((n50 : Int) - (1 : Int))) n45 (ld w41 (Addr.add a52 (Int.toNat (IntKind.wrap .i64 ((n50 : Int) - (1 : Int))) * 1)) fun v53 => asI .u8 v53 fun x54 => (nn (IntKind.wrap .i64 (x14 - k_40)) (nn k_40 (nn (IntKind.wrap .i64 (free_39 - k_40)) (dr p44 fun a55 => (bnd (IntKind.wrap .i64 ((n50 : Int) - (1 : Int))) n45 (st w41 (Addr.add a55 (Int.toNat (IntKind.wrap .i64 ((n50 : Int) - (1 : Int))) * 1)) (.int .u8 (Go.bits .or .u8 x54 (IntKind.wrap .u8 ((IntKind.wrap .u8 (Go.bits .and .i64 (Int.fdiv v (2 ^ (min (Int.toNat (IntKind.wrap .i64 (x14 - k_40))) 64))) (IntKind.wrap .i64 ((IntKind.wrap .i64 ((1 : Int) * 2 ^ (min (Int.toNat k_40) 64))) - (1 : Int))))) * 2 ^ (min (Int.toNat (IntKind.wrap .i64 (free_39 - k_40))) 8))))) fun w56 => 
(dr w' fun a57 => (ld w56 (Addr.add a57 1) fun v58 => asI .i64 v58 fun x59 => (dr w' fun a60 => (st w56 (Addr.add a60 1) (.int .i64 (IntKind.wrap .i64 (x59 + k_40))) fun w61 => 
(lv (IntKind.wrap .i64 (x14 - k_40)) fun n_62 => 
(J13 [(.int .i64 n_62)] w61)))))))))))))))))))))))))
 (fun J18 => (dr w' fun a19 => (ld w12 (Addr.add a19 1) fun v20 => asI .i64 v20 fun x21 => 
(cond ((Int.tmod x21 (8 : Int)) == (0 : Int)) (dr w' fun a22 => (ld w12 a22 fun v23 => asS v23 fun p24 n25 c26 => (nw w12 (.cells #[(.int .u8 (0 : Int))] 5) fun r27 w28 => (rn Try.prog (Builtin.append_ #[22, 22] 22 #[(.slice p24 n25 c26), (.slice (some (⟨r27, 0, none⟩ : Addr)) 1 1)]) w28 fun v29 w30 => asS v29 fun p31 n32 c33 => (dr w' fun a34 => (st w30 a34 (.slice p31 n32 c33) fun w35 => (J18 [] w35))))))) (J18 [] w12)))))))))))))
 (fun J4 => (cond (decide (n < (0 : Int))) (J4 [(.bool true)] w) (cond (decide (n > (63 : Int))) (J4 [(.bool true)] w) (cond (decide (v < (0 : Int))) (J4 [(.bool true)] w) (nn n (J4 [(.bool ((Int.fdiv v (2 ^ (min (Int.toNat n) 64))) != (0 : Int)))] w))))))))
theorem F20_link (w' : Option Addr) (v : Int) (n : Int) (w : World) (Q : Value → World → Prop) : fnEv Try.prog Try.f20 h20 [(.pointer w'), (.int .i64 v), (.int .i64 n)] w Q = F20 w' v n w Q := by kernel_rfl
theorem F20_calls {w' : Option Addr} {v : Int} {n : Int} {w : World} {Q : Value → World → Prop} (h : F20 w' v n w Q) : cl Try.prog 20 #[(.pointer w'), (.int .i64 v), (.int .i64 n)] w Q :=
  calls_of_ev (fn := Try.f20) Try.func20 h20 (args := [(.pointer w'), (.int .i64 v), (.int .i64 n)]) (by rw [F20_link]; exact h)

/-! (*tiltyard/bits.Writer).Bytes -/
def h21 : Hint := (.s .d (.s (.o (ofL [0, 1, 2, 3, 4, 6, 7, 8, 9, 5, 10, 11] .nil)) .d))
set_option linter.unusedVariables false in
def F21 (w' : Option Addr) (w : World) (Q : Value → World → Prop) : Prop :=
 
(dw w fun w1 => (dr w' fun a2 => (ld w1 a2 fun v3 => asS v3 fun p4 n5 c6 => (dr w' fun a7 => (ld w1 a7 fun v8 => asS v8 fun p9 n10 c11 => (rn Try.prog (Instr.makeSlice 22 (.int .i64 (0 : Int)) (.int .i64 (n5 : Int))) w1 fun v12 w13 => asS v12 fun p14 n15 c16 => (hd w13 a7 (.slice p9 n10 c11) (hd w13 a2 (.slice p4 n5 c6) (rn Try.prog (Builtin.append_ #[22, 22] 22 #[(.slice p14 n15 c16), (.slice p9 n10 c11)]) w13 fun v17 w18 => asS v17 fun p19 n20 c21 => (hd w18 a2 (.slice p4 n5 c6) 
(Q (.slice p19 n20 c21) w18)))))))))))
theorem F21_link (w' : Option Addr) (w : World) (Q : Value → World → Prop) : fnEv Try.prog Try.f21 h21 [(.pointer w')] w Q = F21 w' w Q := by kernel_rfl
theorem F21_calls {w' : Option Addr} {w : World} {Q : Value → World → Prop} (h : F21 w' w Q) : cl Try.prog 21 #[(.pointer w')] w Q :=
  calls_of_ev (fn := Try.f21) Try.func21 h21 (args := [(.pointer w')]) (by rw [F21_link]; exact h)

/-! tiltyard/tiltyardref01.Put -/
def h22 : Hint := (.s .d (.s (.j [(28, 4)] .d .d) (.s .d (.s (.s .d (.l [(0, 29), (8, 3)] .d)) .d))))
set_option linter.unusedVariables false in
def F22 (l : Option Addr) (l_n l_c : Nat) (v : Int) (n : Int) (w : World) (Q : Value → World → Prop) : Prop :=
 (lv (0 : Int) fun y1 => 
(jn (fun s2 w3 => asB (s2.getD 0 undef) fun b5 => (cond b5 (lv (1 : Int) fun y6 => 
(Q (.tuple #[(.slice l l_n l_c), (.int .i64 y6)]) w3)) 

(cond (decide ((IntKind.wrap .i64 ((l_n : Int) + n)) > (1048576 : Int))) (lv (2 : Int) fun y7 => 
(Q (.tuple #[(.slice l l_n l_c), (.int .i64 y7)]) w3)) 
(lv (IntKind.wrap .i64 (n - (1 : Int))) fun i_8 => 
(lp [(.slice l l_n l_c), (.int .i64 i_8)] w3 fun J11 s9 w10 => asS (s9.getD 0 undef) fun p12 n13 c14 => asI .i64 (s9.getD 1 undef) fun x15 => 
(cond (decide (x15 ≥ (0 : Int))) 
(nn x15 (nw w10 (.cells #[(.bool ((Go.bits .and .i64 (Int.fdiv v (2 ^ (min (Int.toNat x15) 64))) (1 : Int)) == (1 : Int)))] 4) fun r16 w17 => (rn Try.prog (Builtin.append_ #[29, 29] 29 #[(.slice p12 n13 c14), (.slice (some (⟨r16, 0, none⟩ : Addr)) 1 1)]) w17 fun v18 w19 => asS v18 fun p20 n21 c22 => 
(lv (IntKind.wrap .i64 (x15 - (1 : Int))) fun i_23 => (J11 [(.slice p20 n21 c22), (.int .i64 i_23)] w19))))) 
(lv (0 : Int) fun y24 => 
(Q (.tuple #[(.slice p12 n13 c14), (.int .i64 y24)]) w10))))))))
 (fun J4 => (cond (decide (n < (0 : Int))) (J4 [(.bool true)] w) (cond (decide (n > (63 : Int))) (J4 [(.bool true)] w) (cond (decide (v < (0 : Int))) (J4 [(.bool true)] w) (cond (decide (n < (63 : Int))) (nn n (J4 [(.bool (decide (v ≥ (IntKind.wrap .i64 ((1 : Int) * 2 ^ (min (Int.toNat n) 64))))))] w)) (J4 [(.bool false)] w))))))))
theorem F22_link (l : Option Addr) (l_n l_c : Nat) (v : Int) (n : Int) (w : World) (Q : Value → World → Prop) : fnEv Try.prog Try.f22 h22 [(.slice l l_n l_c), (.int .i64 v), (.int .i64 n)] w Q = F22 l l_n l_c v n w Q := by kernel_rfl
theorem F22_calls {l : Option Addr} {l_n l_c : Nat} {v : Int} {n : Int} {w : World} {Q : Value → World → Prop} (h : F22 l l_n l_c v n w Q) : cl Try.prog 22 #[(.slice l l_n l_c), (.int .i64 v), (.int .i64 n)] w Q :=
  calls_of_ev (fn := Try.f22) Try.func22 h22 (args := [(.slice l l_n l_c), (.int .i64 v), (.int .i64 n)]) (by rw [F22_link]; exact h)

/-! (*tiltyard/bits.Writer).Len -/
def h23 : Hint := .d
set_option linter.unusedVariables false in
def F23 (w' : Option Addr) (w : World) (Q : Value → World → Prop) : Prop :=
 (lv (0 : Int) fun y1 => 
(dr w' fun a2 => (ld w (Addr.add a2 1) fun v3 => asI .i64 v3 fun x4 => (lv x4 fun y5 => 
(Q (.int .i64 y5) w)))))
theorem F23_link (w' : Option Addr) (w : World) (Q : Value → World → Prop) : fnEv Try.prog Try.f23 h23 [(.pointer w')] w Q = F23 w' w Q := by kernel_rfl
theorem F23_calls {w' : Option Addr} {w : World} {Q : Value → World → Prop} (h : F23 w' w Q) : cl Try.prog 23 #[(.pointer w')] w Q :=
  calls_of_ev (fn := Try.f23) Try.func23 h23 (args := [(.pointer w')]) (by rw [F23_link]; exact h)

/-! tiltyard/tiltyardref01.Bytes -/
def h24 : Hint := (.s .d (.s .d (.s (.s .d (.l [(4, 3)] (.s .d (.j [] (.s .d (.s (.o (ofL [0, 1, 2, 3, 4, 5, 6, 7, 8, 9, 10, 11, 12, 13, 14] .nil)) .d)) .d)))) .d)))
set_option linter.unusedVariables false in
def F24 (l : Option Addr) (l_n l_c : Nat) (w : World) (Q : Value → World → Prop) : Prop :=
 
(rn Try.prog (Instr.makeSlice 22 (.int .i64 (IntKind.wrap .i64 (Int.tdiv (IntKind.wrap .i64 ((l_n : Int) + (7 : Int))) (8 : Int)))) (.int .i64 (IntKind.wrap .i64 (Int.tdiv (IntKind.wrap .i64 ((l_n : Int) + (7 : Int))) (8 : Int))))) w fun v1 w2 => asS v1 fun p3 n4 c5 => 
(lv (0 : Int) fun i_6 => 
(lp [(.int .i64 i_6)] w2 fun J9 s7 w8 => asI .i64 (s7.getD 0 undef) fun x10 => 
(cond (decide (x10 < (l_n : Int))) 
(jn (fun s11 w12 => (lv (IntKind.wrap .i64 (x10 + (1 : Int))) fun i_23 => (J9 [(.int .i64 i_23)] w12)))
 (fun J13 => (dr l fun a14 => (bnd x10 l_n (ld w8 (Addr.add a14 (Int.toNat x10 * 1)) fun v15 => asB v15 fun b16 => 
(cond b16 (dw w8 fun w17 => (dr p3 fun a18 => (bnd (IntKind.wrap .i64 (Int.tdiv x10 (8 : Int))) n4 (ld w17 (Addr.add a18 (Int.toNat (IntKind.wrap .i64 (Int.tdiv x10 (8 : Int))) * 1)) fun v19 => asI .u8 v19 fun x20 => (nn (IntKind.wrap .i64 ((7 : Int) - (Int.tmod x10 (8 : Int)))) (dr p3 fun a21 => (bnd (IntKind.wrap .i64 (Int.tdiv x10 (8 : Int))) n4 (st w17 (Addr.add a21 (Int.toNat (IntKind.wrap .i64 (Int.tdiv x10 (8 : Int))) * 1)) (.int .u8 (Go.bits .or .u8 x20 (IntKind.wrap .u8 ((1 : Int) * 2 ^ (min (Int.toNat (IntKind.wrap .i64 ((7 : Int) - (Int.tmod x10 (8 : Int))))) 8))))) fun w22 => (J13 [] w22))))))))) (J13 [] w8))))))) 

(Q (.slice p3 n4 c5) w8)))))
theorem F24_link (l : Option Addr) (l_n l_c : Nat) (w : World) (Q : Value → World → Prop) : fnEv Try.prog Try.f24 h24 [(.slice l l_n l_c)] w Q = F24 l l_n l_c w Q := by kernel_rfl
theorem F24_calls {l : Option Addr} {l_n l_c : Nat} {w : World} {Q : Value → World → Prop} (h : F24 l l_n l_c w Q) : cl Try.prog 24 #[(.slice l l_n l_c)] w Q :=
  calls_of_ev (fn := Try.f24) Try.func24 h24 (args := [(.slice l l_n l_c)]) (by rw [F24_link]; exact h)

/-! tiltyard/tiltyardlaw01.Owned -/
def h25 : Hint := (.s .d (.s .d (.s (.s .d (.l [(3, 55), (4, 3)] .d)) (.s (.s .d (.l [(5, 3)] (.s .d (.s (.s (.o (ofL [0, 1, 2, 3, 4, 5, 6, 7, 8, 9, 10] .nil)) (.s (.s .d (.l [(7, 3)] .d)) (.s (.s .d (.l [(8, 3)] (.s .d (.s (.j [(74, 4)] (.o (ofL [0, 1, 2, 3, 4, 5, 6, 7, 8, 9, 10, 11, 12, 13, 14] .nil)) .d) .d)))) (.s .d (.l [(9, 3)] .d))))) .d)))) .d))))
set_option linter.unusedVariables false in
def F25 (l : Option Addr) (l_n l_c : Nat) (w : World) (Q : Value → World → Prop) : Prop :=
 

(lv (0 : Int) fun i_1 => 
(lp [(.slice none 0 0), (.int .i64 i_1)] w fun J4 s2 w3 => asS (s2.getD 0 undef) fun p5 n6 c7 => asI .i64 (s2.getD 1 undef) fun x8 => 
(cond (decide (x8 < (l_n : Int))) 
(dr l fun a9 => (bnd x8 l_n (ld w3 (Addr.add a9 (Int.toNat x8 * 1)) fun v10 => asS v10 fun p11 n12 c13 => (rq Try.prog (Go.convert 22 9 (.slice p11 n12 c13)) w3 fun v14 => asY v14 fun s15 => (nw w3 (.cells #[(.string s15)] 9) fun r16 w17 => (rn Try.prog (Builtin.append_ #[55, 55] 55 #[(.slice p5 n6 c7), (.slice (some (⟨r16, 0, none⟩ : Addr)) 1 1)]) w17 fun v18 w19 => asS v18 fun p20 n21 c22 => 
(lv (IntKind.wrap .i64 (x8 + (1 : Int))) fun i_23 => (J4 [(.slice p20 n21 c22), (.int .i64 i_23)] w19)))))))) 
(lv (0 : Int) fun i_24 => 
(lp [(.int .i64 i_24)] w3 fun J27 s25 w26 => asI .i64 (s25.getD 0 undef) fun x28 => 
(cond (decide (x28 < (l_n : Int))) 
(dw w26 fun w29 => (dr l fun a30 => (bnd x28 l_n (ld w29 (Addr.add a30 (Int.toNat x28 * 1)) fun v31 => asS v31 fun p32 n33 c34 => (dr l fun a35 => (bnd x28 l_n (ld w29 (Addr.add a35 (Int.toNat x28 * 1)) fun v36 => asS v36 fun p37 n38 c39 => (bn2 (c39 : Int) c34 
(lv (0 : Int) fun k_40 => 
(lp [(.int .i64 k_40)] w29 fun J43 s41 w42 => asI .i64 (s41.getD 0 undef) fun x44 => 
(cond (decide (x44 < (((Int.toNat (c39 : Int)) : Nat) : Int))) 
(dr p32 fun a45 => (bnd x44 (Int.toNat (c39 : Int)) (ld w42 (Addr.add a45 (Int.toNat x44 * 1)) fun v46 => asI .u8 v46 fun x47 => (dr p32 fun a48 => (bnd x44 (Int.toNat (c39 : Int)) (st w42 (Addr.add a48 (Int.toNat x44 * 1)) (.int .u8 (Go.bits .xor .u8 x47 (255 : Int))) fun w49 => 
(lv (IntKind.wrap .i64 (x44 + (1 : Int))) fun k_50 => (J43 [(.int .i64 k_50)] w49)))))))) 
(lv (0 : Int) fun k_51 => 
(lp [(.int .i64 k_51)] w42 fun J54 s52 w53 => asI .i64 (s52.getD 0 undef) fun x55 => 
(cond (decide (x55 < (l_n : Int))) 
(jn (fun s56 w57 => asB (s56.getD 0 undef) fun b70 => (cond b70 
(Q (.bool false) w57) 
(lv (IntKind.wrap .i64 (x55 + (1 : Int))) fun k_71 => (J54 [(.int .i64 k_71)] w57))))
 (fun J58 => (dw w53 fun w59 => (cond (x55 != x28) (dr l fun a60 => (bnd x55 l_n (ld w59 (Addr.add a60 (Int.toNat x55 * 1)) fun v61 => asS v61 fun p62 n63 c64 => (rq Try.prog (Go.convert 22 9 (.slice p62 n63 c64)) w59 fun v65 => asY v65 fun s66 => (dr p5 fun a67 => (bnd x55 n6 (ld w59 (Addr.add a67 (Int.toNat x55 * 1)) fun v68 => asY v68 fun s69 => (J58 [(.bool (!(ByteArray.toList s66 == ByteArray.toList s69)))] w59)))))))) (J58 [(.bool false)] w59))))) 
(lv (0 : Int) fun k_72 => 
(lp [(.int .i64 k_72)] w53 fun J75 s73 w74 => asI .i64 (s73.getD 0 undef) fun x76 => 
(cond (decide (x76 < (((Int.toNat (c39 : Int)) : Nat) : Int))) 
(dr p32 fun a77 => (bnd x76 (Int.toNat (c39 : Int)) (ld w74 (Addr.add a77 (Int.toNat x76 * 1)) fun v78 => asI .u8 v78 fun x79 => (dr p32 fun a80 => (bnd x76 (Int.toNat (c39 : Int)) (st w74 (Addr.add a80 (Int.toNat x76 * 1)) (.int .u8 (Go.bits .xor .u8 x79 (255 : Int))) fun w81 => 
(lv (IntKind.wrap .i64 (x76 + (1 : Int))) fun k_82 => (J75 [(.int .i64 k_82)] w81)))))))) 
(lv (IntKind.wrap .i64 (x28 + (1 : Int))) fun i_83 => (J27 [(.int .i64 i_83)] w74))))))))))))))))))) 

(Q (.bool true) w26)))))))
theorem F25_link (l : Option Addr) (l_n l_c : Nat) (w : World) (Q : Value → World → Prop) : fnEv Try.prog Try.f25 h25 [(.slice l l_n l_c)] w Q = F25 l l_n l_c w Q := by kernel_rfl
theorem F25_calls {l : Option Addr} {l_n l_c : Nat} {w : World} {Q : Value → World → Prop} (h : F25 l l_n l_c w Q) : cl Try.prog 25 #[(.slice l l_n l_c)] w Q :=
  calls_of_ev (fn := Try.f25) Try.func25 h25 (args := [(.slice l l_n l_c)]) (by rw [F25_link]; exact h)

end Go.Proofs.Ytddljkkcpekcjaa
