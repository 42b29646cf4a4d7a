/- Own texts of this claim, joined: walks and plain laws. Conditions: those of each theorem, on its arguments. -/
import Derived.Test.YtndbhmmejjhcfaaGreatDoorProg
import Derived.Test.YtndbhmmejjhcfaaGreatDoorTh4
import Derived.KernelRfl
import Derived.Laws.BitsLemmas
import Derived.Laws.Entries
namespace Go.Proofs.YtndbhmmejjhcfaaGreatDoor
open Go Go.Sx
set_option maxRecDepth 100000
def h3 : Hint := (.s .d (.s .d (.s .d (.s (.j [(28, 4)] .d (.s (.j [(4, 4)] .d .d) .d)) (.s .d (.s .d (.s .d (.s (.s .d (.l [(10, 38), (11, 3)] (.s .d (.s (.s .d (.s (.s .d (.l [(12, 23), (13, 3)] (.s .d (.s (.s .d (.j [(14, 3)] .d (.j [(14, 3)] .d .d))) .d)))) (.s .d (.s (.j [(128, 4)] .d .d) .d)))) .d)))) .d))))))))
set_option linter.unusedVariables false in
def F3 (b : Option Addr) (b_n b_c : Nat) (c_0 : Int) (c_1 : Option Addr) (c_1_n c_1_c : Nat) (c_2 : Int) (c_3 : Option Addr) (c_3_n c_3_c : Nat) (w : World) (Q : Value → World → Prop) : Prop :=
 (nw w (.cells #[(.int .i64 c_0), (.slice c_1 c_1_n c_1_c), (.int .i64 c_2), (.slice c_3 c_3_n c_3_c)] 26) fun r1 w2 =>
(cl Tryz.prog 4 #[] w2 fun v3 w4 => asB v3 fun b5 =>
(cl Tryz.prog 5 #[(.slice b b_n b_c)] w4 fun v6 w7 => asT 2 v6 fun t8 => asA 2 (t8 0) fun a9 => asS (a9 0) fun p10 n11 c12 => asS (a9 1) fun p13 n14 c15 => asI .i64 (t8 1) fun x16 => (nw w7 (.cells #[(.slice none 0 0), (.slice none 0 0)] 31) fun r17 w18 => (st w18 (⟨r17, 0, none⟩ : Addr) (.slice p10 n11 c12) fun w19 => (st w19 (Addr.add (⟨r17, 0, none⟩ : Addr) 1) (.slice p13 n14 c15) fun w20 => (lv x16 fun e_21 =>
(jn (fun s22 w23 => asB (s22.getD 0 undef) fun b25 => (cond b25 (jn (fun s26 w27 => asB (s26.getD 0 undef) fun b33 => (Q (.bool b33) w27))
 (fun J28 => (cond b5 (ld w23 (Addr.add (⟨r17, 0, none⟩ : Addr) 1) fun v29 => asS v29 fun p30 n31 c32 => (J28 [(.bool ((n31 : Int) == (0 : Int)))] w23)) (J28 [(.bool false)] w23))))
(ld w23 (⟨r17, 0, none⟩ : Addr) fun v34 => asS v34 fun p35 n36 c37 => (ld w23 (Addr.add (⟨r17, 0, none⟩ : Addr) 1) fun v38 => asS v38 fun p39 n40 c41 => (cl Tryz.prog 6 #[(.agg #[(.slice p35 n36 c37), (.slice p39 n40 c41)])] w23 fun v42 w43 => asT 2 v42 fun t44 => asP (t44 0) fun p45 => asI .i64 (t44 1) fun x46 => (lv x46 fun f_47 =>
(cond (f_47 != (0 : Int))
(Q (.bool (Option.isNone p45)) w43)
(cl Tryz.prog 7 #[(.pointer p45)] w43 fun v48 w49 => asS v48 fun p50 n51 c52 =>
(lv (0 : Int) fun i_53 =>
(lp [(.slice p50 n51 c52), (.int .i64 i_53)] w49 fun J56 s54 w55 => asS (s54.getD 0 undef) fun p57 n58 c59 => asI .i64 (s54.getD 1 undef) fun x60 => (ld w55 (Addr.add (⟨r17, 0, none⟩ : Addr) 1) fun v61 => asS v61 fun p62 n63 c64 =>
(cond (decide (x60 < (n63 : Int)))
(lv (0 : Int) fun k_65 =>
(lp [(.slice none 0 0), (.int .i64 k_65)] w55 fun J68 s66 w67 => asS (s66.getD 0 undef) fun p69 n70 c71 => asI .i64 (s66.getD 1 undef) fun x72 => (ld w67 (Addr.add (⟨r17, 0, none⟩ : Addr) 1) fun v73 => asS v73 fun p74 n75 c76 => (dr p74 fun a77 => (bnd x60 n75 (ld w67 (Addr.add (Addr.add a77 (Int.toNat x60 * 5)) 1) fun v78 => asS v78 fun p79 n80 c81 =>
(cond (decide (x72 < (n80 : Int)))
(lv (0 : Int) fun v_82 =>
(jn (fun s83 w84 => asI .i64 (s83.getD 0 undef) fun x98 => (jn (fun s99 w100 => asI .i64 (s99.getD 0 undef) fun x115 => (nw w100 (.cells #[(.int .i64 x115)] 3) fun r116 w117 => (rn Tryz.prog (Builtin.append_ #[23, 23] 23 #[(.slice p69 n70 c71), (.slice (some (⟨r116, 0, none⟩ : Addr)) 1 1)]) w117 fun v118 w119 => asS v118 fun p120 n121 c122 =>
(lv (IntKind.wrap .i64 (x72 + (1 : Int))) fun k_123 => (J68 [(.slice p120 n121 c122), (.int .i64 k_123)] w119)))))
 (fun J101 => (ld w84 (Addr.add (⟨r17, 0, none⟩ : Addr) 1) fun v102 => asS v102 fun p103 n104 c105 => (dr p103 fun a106 => (bnd x60 n104 (ld w84 (Addr.add (Addr.add a106 (Int.toNat x60 * 5)) 1) fun v107 => asS v107 fun p108 n109 c110 => (dr p108 fun a111 => (bnd x72 n109 (ld w84 (Addr.add a111 (Int.toNat x72 * 1)) fun v112 => asI .i64 v112 fun x113 =>
(cond (x113 == (3 : Int)) (lv (Go.bits .and .i64 x98 (1 : Int)) fun v_114 => (J101 [(.int .i64 v_114)] w84)) (J101 [(.int .i64 x98)] w84))))))))))))
 (fun J85 => (ld w67 (Addr.add (⟨r1, 0, none⟩ : Addr) 1) fun v86 => asS v86 fun p87 n88 c89 =>
(cond (decide (x72 < (n88 : Int))) (ld w67 (Addr.add (⟨r1, 0, none⟩ : Addr) 1) fun v90 => asS v90 fun p91 n92 c93 => (dr p91 fun a94 => (bnd x72 n92 (ld w67 (Addr.add a94 (Int.toNat x72 * 1)) fun v95 => asI .i64 v95 fun x96 => (lv x96 fun v_97 => (J85 [(.int .i64 v_97)] w67)))))) (J85 [(.int .i64 v_82)] w67))))))
(ld w67 (⟨r17, 0, none⟩ : Addr) fun v124 => asS v124 fun p125 n126 c127 => (ld w67 (Addr.add (⟨r17, 0, none⟩ : Addr) 1) fun v128 => asS v128 fun p129 n130 c131 => (ld w67 (Addr.add (⟨r1, 0, none⟩ : Addr) 2) fun v132 => asI .i64 v132 fun x133 => (ld w67 (Addr.add (⟨r1, 0, none⟩ : Addr) 3) fun v134 => asS v134 fun p135 n136 c137 => (cl Tryz.prog 8 #[(.agg #[(.slice p125 n126 c127), (.slice p129 n130 c131)]), (.slice p57 n58 c59), (.int .i64 x60), (.slice p69 n70 c71), (.int .i64 (Go.bits .and .i64 x133 (4095 : Int))), (.slice p135 n136 c137)] w67 fun v138 w139 => asT 2 v138 fun t140 => asA 5 (t140 0) fun a141 => asI .i64 (a141 0) fun x142 => asI .i64 (a141 1) fun x143 => asI .i64 (a141 2) fun x144 => asS (a141 3) fun p145 n146 c147 => asS (a141 4) fun p148 n149 c150 => asI .i64 (t140 1) fun x151 => (nw w139 (.cells #[(.int .i64 (0 : Int)), (.int .i64 (0 : Int)), (.int .i64 (0 : Int)), (.slice none 0 0), (.slice none 0 0)] 45) fun r152 w153 => (st w153 (⟨r152, 0, none⟩ : Addr) (.int .i64 x142) fun w154 => (st w154 (Addr.add (⟨r152, 0, none⟩ : Addr) 1) (.int .i64 x143) fun w155 => (st w155 (Addr.add (⟨r152, 0, none⟩ : Addr) 2) (.int .i64 x144) fun w156 => (st w156 (Addr.add (⟨r152, 0, none⟩ : Addr) 3) (.slice p145 n146 c147) fun w157 => (st w157 (Addr.add (⟨r152, 0, none⟩ : Addr) 4) (.slice p148 n149 c150) fun w158 => (lv x151 fun g_159 =>
(jn (fun s160 w161 => asB (s160.getD 0 undef) fun b173 => (cond b173
(Q (.bool false) w161)
(ld w161 (Addr.add (⟨r152, 0, none⟩ : Addr) 3) fun v174 => asS v174 fun p175 n176 c177 =>
(lv (IntKind.wrap .i64 (x60 + (1 : Int))) fun i_178 => (J56 [(.slice p175 n176 c177), (.int .i64 i_178)] w161)))))
 (fun J162 => (cond (g_159 != (0 : Int)) (J162 [(.bool true)] w158) (ld w158 (⟨r152, 0, none⟩ : Addr) fun v163 => asI .i64 v163 fun x164 => (cond (decide (x164 < (0 : Int))) (J162 [(.bool true)] w158) (ld w158 (⟨r152, 0, none⟩ : Addr) fun v165 => asI .i64 v165 fun x166 => (cond (decide (x166 > (5 : Int))) (J162 [(.bool true)] w158) (ld w158 (Addr.add (⟨r152, 0, none⟩ : Addr) 2) fun v167 => asI .i64 v167 fun x168 => (cond (decide (x168 < (0 : Int))) (J162 [(.bool true)] w158) (ld w158 (Addr.add (⟨r152, 0, none⟩ : Addr) 2) fun v169 => asI .i64 v169 fun x170 => (ld w158 (Addr.add (⟨r1, 0, none⟩ : Addr) 2) fun v171 => asI .i64 v171 fun x172 => (J162 [(.bool (decide (x170 > (Go.bits .and .i64 x172 (4095 : Int)))))] w158)))))))))))))))))))))))))))))))
(Q (.bool true) w55)))))))))))))
 (fun J24 => (cond (!b5) (J24 [(.bool true)] w20) (J24 [(.bool (e_21 != (0 : Int)))] w20)))))))))))
theorem F3_link (b : Option Addr) (b_n b_c : Nat) (c_0 : Int) (c_1 : Option Addr) (c_1_n c_1_c : Nat) (c_2 : Int) (c_3 : Option Addr) (c_3_n c_3_c : Nat) (w : World) (Q : Value → World → Prop) : fnEv Tryz.prog Tryz.f3 h3 [(.slice b b_n b_c), (.agg #[(.int .i64 c_0), (.slice c_1 c_1_n c_1_c), (.int .i64 c_2), (.slice c_3 c_3_n c_3_c)])] w Q = F3 b b_n b_c c_0 c_1 c_1_n c_1_c c_2 c_3 c_3_n c_3_c w Q := by kernel_rfl
theorem F3_calls {b : Option Addr} {b_n b_c : Nat} {c_0 : Int} {c_1 : Option Addr} {c_1_n c_1_c : Nat} {c_2 : Int} {c_3 : Option Addr} {c_3_n c_3_c : Nat} {w : World} {Q : Value → World → Prop} (hF_ : F3 b b_n b_c c_0 c_1 c_1_n c_1_c c_2 c_3 c_3_n c_3_c w Q) : cl Tryz.prog 3 #[(.slice b b_n b_c), (.agg #[(.int .i64 c_0), (.slice c_1 c_1_n c_1_c), (.int .i64 c_2), (.slice c_3 c_3_n c_3_c)])] w Q :=
  calls_of_ev (fn := Tryz.f3) Tryz.func3 h3 (args := [(.slice b b_n b_c), (.agg #[(.int .i64 c_0), (.slice c_1 c_1_n c_1_c), (.int .i64 c_2), (.slice c_3 c_3_n c_3_c)])]) (by rw [F3_link]; exact hF_)
def h6 : Hint := (.s .d (.s .d (.s (.o (ofL [0, 1, 3, 4, 2, 5, 6, 7, 8, 9, 10] .nil)) (.s (.s .d (.l [(27, 3)] (.s .d (.s .d (.s (.s .d (.s .d (.o (ofL [0, 1, 2, 3, 4, 5, 6, 8, 9, 10, 11, 13, 14, 15, 16, 7, 12, 17, 18, 19, 20, 21, 22, 23, 24, 25, 26] .nil)))) .d))))) .d))))
set_option linter.unusedVariables false in
def F6 (x_0 : Option Addr) (x_0_n x_0_c : Nat) (x_1 : Option Addr) (x_1_n x_1_c : Nat) (w : World) (Q : Value → World → Prop) : Prop :=
 (nw w (.cells #[(.slice x_0 x_0_n x_0_c), (.slice x_1 x_1_n x_1_c)] 31) fun r1 w2 => (lv (0 : Int) fun y3 =>
(ld w2 (⟨r1, 0, none⟩ : Addr) fun v4 => asS v4 fun p5 n6 c7 => (ld w2 (Addr.add (⟨r1, 0, none⟩ : Addr) 1) fun v8 => asS v8 fun p9 n10 c11 => (cl Tryz.prog 18 #[(.agg #[(.slice p5 n6 c7), (.slice p9 n10 c11)])] w2 fun v12 w13 => asA 2 v12 fun a14 => asI .i64 (a14 0) fun x15 => asI .i64 (a14 1) fun x16 =>
(cond (x15 != (0 : Int)) (lv (120 : Int) fun y17 =>
(Q (.tuple #[(.pointer none), (.int .i64 y17)]) w13))
(dw w13 fun w18 => (ld w18 (⟨r1, 0, none⟩ : Addr) fun v19 => asS v19 fun p20 n21 c22 => (ld w18 (Addr.add (⟨r1, 0, none⟩ : Addr) 1) fun v23 => asS v23 fun p24 n25 c26 => (cl Tryz.prog 19 #[(.slice p20 n21 c22)] w18 fun v27 w28 => asS v27 fun p29 n30 c31 => (hd w28 (Addr.add (⟨r1, 0, none⟩ : Addr) 1) (.slice p24 n25 c26) (cl Tryz.prog 20 #[(.slice p24 n25 c26)] w28 fun v32 w33 => asS v32 fun p34 n35 c36 => (cl Tryz.prog 21 #[] w33 fun v37 w38 => asS v37 fun p39 n40 c41 => (nw w38 (.cells #[(.slice p29 n30 c31), (.slice p34 n35 c36), (.slice p39 n40 c41)] 76) fun r42 w43 =>
(ld w43 (Addr.add (⟨r42, 0, none⟩ : Addr) 1) fun v44 => asS v44 fun p45 n46 c47 =>
(lp [(.int .i64 (0 : Int))] w43 fun J50 s48 w49 => asI .i64 (s48.getD 0 undef) fun x51 =>
(cond (decide (x51 < (n46 : Int)))
(lv x51 fun i_52 =>
(ld w49 (Addr.add (⟨r42, 0, none⟩ : Addr) 1) fun v53 => asS v53 fun p54 n55 c56 => (dr p54 fun a57 => (bnd i_52 n55
(dw w49 fun w58 => (ld w58 (Addr.add (Addr.add a57 (Int.toNat i_52 * 5)) 1) fun v59 => asS v59 fun p60 n61 c62 => (ld w58 (Addr.add (Addr.add a57 (Int.toNat i_52 * 5)) 3) fun v63 => asS v63 fun p64 n65 c66 => (ld w58 (Addr.add (Addr.add a57 (Int.toNat i_52 * 5)) 4) fun v67 => asS v67 fun p68 n69 c70 => (cl Tryz.prog 22 #[(.slice p60 n61 c62)] w58 fun v71 w72 => asS v71 fun p73 n74 c75 => (hd w72 (Addr.add (Addr.add a57 (Int.toNat i_52 * 5)) 4) (.slice p68 n69 c70) (hd w72 (Addr.add (Addr.add a57 (Int.toNat i_52 * 5)) 3) (.slice p64 n65 c66) (cl Tryz.prog 22 #[(.slice p64 n65 c66)] w72 fun v76 w77 => asS v76 fun p78 n79 c80 => (hd w77 (Addr.add (Addr.add a57 (Int.toNat i_52 * 5)) 4) (.slice p68 n69 c70) (cl Tryz.prog 23 #[(.slice p68 n69 c70)] w77 fun v81 w82 => asS v81 fun p83 n84 c85 => (st w82 (Addr.add (Addr.add a57 (Int.toNat i_52 * 5)) 1) (.slice p73 n74 c75) fun w86 => (st w86 (Addr.add (Addr.add a57 (Int.toNat i_52 * 5)) 3) (.slice p78 n79 c80) fun w87 => (st w87 (Addr.add (Addr.add a57 (Int.toNat i_52 * 5)) 4) (.slice p83 n84 c85) fun w88 =>
(J50 [(.int .i64 (IntKind.wrap .i64 (x51 + (1 : Int))))] w88))))))))))))))))))
(lv (0 : Int) fun y89 =>
(Q (.tuple #[(.pointer (some (⟨r42, 0, none⟩ : Addr))), (.int .i64 y89)]) w49)))))))))))))))))))
theorem F6_link (x_0 : Option Addr) (x_0_n x_0_c : Nat) (x_1 : Option Addr) (x_1_n x_1_c : Nat) (w : World) (Q : Value → World → Prop) : fnEv Tryz.prog Tryz.f6 h6 [(.agg #[(.slice x_0 x_0_n x_0_c), (.slice x_1 x_1_n x_1_c)])] w Q = F6 x_0 x_0_n x_0_c x_1 x_1_n x_1_c w Q := by kernel_rfl
theorem F6_calls {x_0 : Option Addr} {x_0_n x_0_c : Nat} {x_1 : Option Addr} {x_1_n x_1_c : Nat} {w : World} {Q : Value → World → Prop} (hF_ : F6 x_0 x_0_n x_0_c x_1 x_1_n x_1_c w Q) : cl Tryz.prog 6 #[(.agg #[(.slice x_0 x_0_n x_0_c), (.slice x_1 x_1_n x_1_c)])] w Q :=
  calls_of_ev (fn := Tryz.f6) Tryz.func6 h6 (args := [(.agg #[(.slice x_0 x_0_n x_0_c), (.slice x_1 x_1_n x_1_c)])]) (by rw [F6_link]; exact hF_)
def h7 : Hint := (.s .d (.s .d (.s (.s .d (.l [(3, 38), (13, 3)] .d)) .d)))
set_option linter.unusedVariables false in
def F7 (m : Option Addr) (w : World) (Q : Value → World → Prop) : Prop :=
(dr m fun a1 => (ld w a1 fun v2 => asS v2 fun p3 n4 c5 =>
(lp [(.slice none 0 0), (.int .i64 (0 : Int))] w fun J8 s6 w7 => asS (s6.getD 0 undef) fun p9 n10 c11 => asI .i64 (s6.getD 1 undef) fun x12 =>
(cond (decide (x12 < (n4 : Int)))
(dr p3 fun a13 => (bnd x12 n4 (ld w7 (Addr.add a13 (Int.toNat x12 * 3)) fun v14 => asI .i64 v14 fun x15 => (ld w7 (Addr.add (Addr.add a13 (Int.toNat x12 * 3)) 1) fun v16 => asI .i64 v16 fun x17 => (ld w7 (Addr.add (Addr.add a13 (Int.toNat x12 * 3)) 2) fun v18 => asI .i64 v18 fun x19 => (nw w7 (.cells #[(.int .i64 (0 : Int)), (.int .i64 (0 : Int)), (.int .i64 (0 : Int))] 65) fun r20 w21 => (st w21 (⟨r20, 0, none⟩ : Addr) (.int .i64 x15) fun w22 => (st w22 (Addr.add (⟨r20, 0, none⟩ : Addr) 1) (.int .i64 x17) fun w23 => (st w23 (Addr.add (⟨r20, 0, none⟩ : Addr) 2) (.int .i64 x19) fun w24 =>
(ld w24 (⟨r20, 0, none⟩ : Addr) fun v25 => asI .i64 v25 fun x26 => (ld w24 (Addr.add (⟨r20, 0, none⟩ : Addr) 1) fun v27 => asI .i64 v27 fun x28 => (ld w24 (Addr.add (⟨r20, 0, none⟩ : Addr) 2) fun v29 => asI .i64 v29 fun x30 => (cl Tryz.prog 24 #[(.agg #[(.int .i64 x26), (.int .i64 x28), (.int .i64 x30)])] w24 fun v31 w32 => asI .i64 v31 fun x33 => (rn Tryz.prog (Instr.makeSlice 23 (.int .i64 x33) (.int .i64 x33)) w32 fun v34 w35 => asS v34 fun p36 n37 c38 =>
(ld w35 (Addr.add (⟨r20, 0, none⟩ : Addr) 2) fun v39 => asI .i64 v39 fun x40 => (dr p36 fun a41 => (bnd (0 : Int) n37 (st w35 (Addr.add a41 (Int.toNat (0 : Int) * 1)) (.int .i64 x40) fun w42 =>
(nw w42 (.cells #[(.slice p36 n37 c38)] 23) fun r43 w44 => (rn Tryz.prog (Builtin.append_ #[38, 38] 38 #[(.slice p9 n10 c11), (.slice (some (⟨r43, 0, none⟩ : Addr)) 1 1)]) w44 fun v45 w46 => asS v45 fun p47 n48 c49 =>
(J8 [(.slice p47 n48 c49), (.int .i64 (IntKind.wrap .i64 (x12 + (1 : Int))))] w46)))))))))))))))))))))
(Q (.slice p9 n10 c11) w7)))))
theorem F7_link (m : Option Addr) (w : World) (Q : Value → World → Prop) : fnEv Tryz.prog Tryz.f7 h7 [(.pointer m)] w Q = F7 m w Q := by kernel_rfl
theorem F7_calls {m : Option Addr} {w : World} {Q : Value → World → Prop} (hF_ : F7 m w Q) : cl Tryz.prog 7 #[(.pointer m)] w Q :=
  calls_of_ev (fn := Tryz.f7) Tryz.func7 h7 (args := [(.pointer m)]) (by rw [F7_link]; exact hF_)
def h8 : Hint := (.s .d (.s .d (.s .d (.s .d (.s .d (.s (.l [(5, 24)] (.s .d (.s .d (.j [(5, 24)] (.s .d (.s (.o (ofL [0, 1, 2, 3, 4, 5, 6] .nil)) .d)) .d)))) .d))))))
set_option linter.unusedVariables false in
def F8 (x_0 : Option Addr) (x_0_n x_0_c : Nat) (x_1 : Option Addr) (x_1_n x_1_c : Nat) (state : Option Addr) (state_n state_c : Nat) (fn : Int) (args : Option Addr) (args_n args_c : Nat) (fuel : Int) (replies : Option Addr) (replies_n replies_c : Nat) (w : World) (Q : Value → World → Prop) : Prop :=
 (nw w (.cells #[(.slice x_0 x_0_n x_0_c), (.slice x_1 x_1_n x_1_c)] 31) fun r1 w2 => (nw w2 (.cells #[(.int .i64 (0 : Int)), (.int .i64 (0 : Int)), (.int .i64 (0 : Int)), (.slice none 0 0), (.slice none 0 0)] 45) fun r3 w4 => (lv (0 : Int) fun y5 =>
(ld w4 (⟨r1, 0, none⟩ : Addr) fun v6 => asS v6 fun p7 n8 c9 => (ld w4 (Addr.add (⟨r1, 0, none⟩ : Addr) 1) fun v10 => asS v10 fun p11 n12 c13 => (cl Tryz.prog 6 #[(.agg #[(.slice p7 n8 c9), (.slice p11 n12 c13)])] w4 fun v14 w15 => asT 2 v14 fun t16 => asP (t16 0) fun p17 => asI .i64 (t16 1) fun x18 => (lv x18 fun e_19 =>
(cond (e_19 != (0 : Int)) (st w15 (⟨r3, 0, none⟩ : Addr) (.int .i64 (0 : Int)) fun w20 => (st w20 (Addr.add (⟨r3, 0, none⟩ : Addr) 1) (.int .i64 (0 : Int)) fun w21 => (st w21 (Addr.add (⟨r3, 0, none⟩ : Addr) 2) (.int .i64 (0 : Int)) fun w22 => (st w22 (Addr.add (⟨r3, 0, none⟩ : Addr) 3) (.slice none 0 0) fun w23 => (st w23 (Addr.add (⟨r3, 0, none⟩ : Addr) 4) (.slice none 0 0) fun w24 => (lv e_19 fun y25 =>
(ld w24 (⟨r3, 0, none⟩ : Addr) fun v26 => asI .i64 v26 fun x27 => (ld w24 (Addr.add (⟨r3, 0, none⟩ : Addr) 1) fun v28 => asI .i64 v28 fun x29 => (ld w24 (Addr.add (⟨r3, 0, none⟩ : Addr) 2) fun v30 => asI .i64 v30 fun x31 => (ld w24 (Addr.add (⟨r3, 0, none⟩ : Addr) 3) fun v32 => asS v32 fun p33 n34 c35 => (ld w24 (Addr.add (⟨r3, 0, none⟩ : Addr) 4) fun v36 => asS v36 fun p37 n38 c39 => (Q (.tuple #[(.agg #[(.int .i64 x27), (.int .i64 x29), (.int .i64 x31), (.slice p33 n34 c35), (.slice p37 n38 c39)]), (.int .i64 y25)]) w24))))))))))))
(cl Tryz.prog 25 #[(.pointer p17), (.slice state state_n state_c), (.int .i64 fn), (.slice args args_n args_c), (.int .i64 fuel)] w15 fun v40 w41 => asT 2 v40 fun t42 => asP (t42 0) fun p43 => asI .i64 (t42 1) fun x44 => (lv x44 fun e_45 =>
(cond (e_45 != (0 : Int)) (st w41 (⟨r3, 0, none⟩ : Addr) (.int .i64 (0 : Int)) fun w46 => (st w46 (Addr.add (⟨r3, 0, none⟩ : Addr) 1) (.int .i64 (0 : Int)) fun w47 => (st w47 (Addr.add (⟨r3, 0, none⟩ : Addr) 2) (.int .i64 (0 : Int)) fun w48 => (st w48 (Addr.add (⟨r3, 0, none⟩ : Addr) 3) (.slice none 0 0) fun w49 => (st w49 (Addr.add (⟨r3, 0, none⟩ : Addr) 4) (.slice none 0 0) fun w50 => (lv e_45 fun y51 =>
(ld w50 (⟨r3, 0, none⟩ : Addr) fun v52 => asI .i64 v52 fun x53 => (ld w50 (Addr.add (⟨r3, 0, none⟩ : Addr) 1) fun v54 => asI .i64 v54 fun x55 => (ld w50 (Addr.add (⟨r3, 0, none⟩ : Addr) 2) fun v56 => asI .i64 v56 fun x57 => (ld w50 (Addr.add (⟨r3, 0, none⟩ : Addr) 3) fun v58 => asS v58 fun p59 n60 c61 => (ld w50 (Addr.add (⟨r3, 0, none⟩ : Addr) 4) fun v62 => asS v62 fun p63 n64 c65 => (Q (.tuple #[(.agg #[(.int .i64 x53), (.int .i64 x55), (.int .i64 x57), (.slice p59 n60 c61), (.slice p63 n64 c65)]), (.int .i64 y51)]) w50))))))))))))
(lp [(.slice replies replies_n replies_c)] w41 fun J68 s66 w67 => asS (s66.getD 0 undef) fun p69 n70 c71 => (cl Tryz.prog 26 #[(.pointer p43)] w67 fun v72 w73 => asT 2 v72 fun t74 => asA 2 (t74 0) fun a75 => asI .i64 (a75 0) fun x76 => asS (a75 1) fun p77 n78 c79 => asB (t74 1) fun b80 => (nw w73 (.cells #[(.int .i64 (0 : Int)), (.slice none 0 0)] 87) fun r81 w82 => (st w82 (⟨r81, 0, none⟩ : Addr) (.int .i64 x76) fun w83 => (st w83 (Addr.add (⟨r81, 0, none⟩ : Addr) 1) (.slice p77 n78 c79) fun w84 =>
(cond (!b80)
(cl Tryz.prog 28 #[(.pointer p43)] w84 fun v85 w86 => asT 2 v85 fun t87 => asA 5 (t87 0) fun a88 => asI .i64 (a88 0) fun x89 => asI .i64 (a88 1) fun x90 => asI .i64 (a88 2) fun x91 => asS (a88 3) fun p92 n93 c94 => asS (a88 4) fun p95 n96 c97 => asB (t87 1) fun b98 => (nw w86 (.cells #[(.int .i64 (0 : Int)), (.int .i64 (0 : Int)), (.int .i64 (0 : Int)), (.slice none 0 0), (.slice none 0 0)] 45) fun r99 w100 => (st w100 (⟨r99, 0, none⟩ : Addr) (.int .i64 x89) fun w101 => (st w101 (Addr.add (⟨r99, 0, none⟩ : Addr) 1) (.int .i64 x90) fun w102 => (st w102 (Addr.add (⟨r99, 0, none⟩ : Addr) 2) (.int .i64 x91) fun w103 => (st w103 (Addr.add (⟨r99, 0, none⟩ : Addr) 3) (.slice p92 n93 c94) fun w104 => (st w104 (Addr.add (⟨r99, 0, none⟩ : Addr) 4) (.slice p95 n96 c97) fun w105 =>
(ld w105 (⟨r99, 0, none⟩ : Addr) fun v106 => asI .i64 v106 fun x107 => (ld w105 (Addr.add (⟨r99, 0, none⟩ : Addr) 1) fun v108 => asI .i64 v108 fun x109 => (ld w105 (Addr.add (⟨r99, 0, none⟩ : Addr) 2) fun v110 => asI .i64 v110 fun x111 => (ld w105 (Addr.add (⟨r99, 0, none⟩ : Addr) 3) fun v112 => asS v112 fun p113 n114 c115 => (ld w105 (Addr.add (⟨r99, 0, none⟩ : Addr) 4) fun v116 => asS v116 fun p117 n118 c119 => (st w105 (⟨r3, 0, none⟩ : Addr) (.int .i64 x107) fun w120 => (st w120 (Addr.add (⟨r3, 0, none⟩ : Addr) 1) (.int .i64 x109) fun w121 => (st w121 (Addr.add (⟨r3, 0, none⟩ : Addr) 2) (.int .i64 x111) fun w122 => (st w122 (Addr.add (⟨r3, 0, none⟩ : Addr) 3) (.slice p113 n114 c115) fun w123 => (st w123 (Addr.add (⟨r3, 0, none⟩ : Addr) 4) (.slice p117 n118 c119) fun w124 => (lv (0 : Int) fun y125 =>
(ld w124 (⟨r3, 0, none⟩ : Addr) fun v126 => asI .i64 v126 fun x127 => (ld w124 (Addr.add (⟨r3, 0, none⟩ : Addr) 1) fun v128 => asI .i64 v128 fun x129 => (ld w124 (Addr.add (⟨r3, 0, none⟩ : Addr) 2) fun v130 => asI .i64 v130 fun x131 => (ld w124 (Addr.add (⟨r3, 0, none⟩ : Addr) 3) fun v132 => asS v132 fun p133 n134 c135 => (ld w124 (Addr.add (⟨r3, 0, none⟩ : Addr) 4) fun v136 => asS v136 fun p137 n138 c139 => (Q (.tuple #[(.agg #[(.int .i64 x127), (.int .i64 x129), (.int .i64 x131), (.slice p133 n134 c135), (.slice p137 n138 c139)]), (.int .i64 y125)]) w124))))))))))))))))))))))))
(nw w84 (.cells #[(.int .i64 (0 : Int)), (.bool false)] 91) fun r140 w141 =>
(jn (fun s142 w143 => asS (s142.getD 0 undef) fun p153 n154 c155 => (ld w143 (⟨r140, 0, none⟩ : Addr) fun v156 => asI .i64 v156 fun x157 => (ld w143 (Addr.add (⟨r140, 0, none⟩ : Addr) 1) fun v158 => asB v158 fun b159 => (cl Tryz.prog 27 #[(.pointer p43), (.agg #[(.int .i64 x157), (.bool b159)])] w143 fun v160 w161 => asI .i64 v160 fun x162 => (J68 [(.slice p153 n154 c155)] w161)))))
 (fun J144 =>
(cond (decide ((n70 : Int) > (0 : Int))) (dw w141 fun w145 => (dr p69 fun a146 => (bnd (0 : Int) n70 (ld w145 (Addr.add a146 (Int.toNat (0 : Int) * 2)) fun v147 => asI .i64 v147 fun x148 => (ld w145 (Addr.add (Addr.add a146 (Int.toNat (0 : Int) * 2)) 1) fun v149 => asB v149 fun b150 => (bn2 (1 : Int) n70 (st w145 (⟨r140, 0, none⟩ : Addr) (.int .i64 x148) fun w151 => (st w151 (Addr.add (⟨r140, 0, none⟩ : Addr) 1) (.bool b150) fun w152 => (J144 [(.slice (slp p69 c71 (Int.toNat (1 : Int)) 2) (n70 - (Int.toNat (1 : Int))) (c71 - (Int.toNat (1 : Int))))] w152))))))))) (J144 [(.slice p69 n70 c71)] w141))))))))))))))))))))))
theorem F8_link (x_0 : Option Addr) (x_0_n x_0_c : Nat) (x_1 : Option Addr) (x_1_n x_1_c : Nat) (state : Option Addr) (state_n state_c : Nat) (fn : Int) (args : Option Addr) (args_n args_c : Nat) (fuel : Int) (replies : Option Addr) (replies_n replies_c : Nat) (w : World) (Q : Value → World → Prop) : fnEv Tryz.prog Tryz.f8 h8 [(.agg #[(.slice x_0 x_0_n x_0_c), (.slice x_1 x_1_n x_1_c)]), (.slice state state_n state_c), (.int .i64 fn), (.slice args args_n args_c), (.int .i64 fuel), (.slice replies replies_n replies_c)] w Q = F8 x_0 x_0_n x_0_c x_1 x_1_n x_1_c state state_n state_c fn args args_n args_c fuel replies replies_n replies_c w Q := by kernel_rfl
theorem F8_calls {x_0 : Option Addr} {x_0_n x_0_c : Nat} {x_1 : Option Addr} {x_1_n x_1_c : Nat} {state : Option Addr} {state_n state_c : Nat} {fn : Int} {args : Option Addr} {args_n args_c : Nat} {fuel : Int} {replies : Option Addr} {replies_n replies_c : Nat} {w : World} {Q : Value → World → Prop} (hF_ : F8 x_0 x_0_n x_0_c x_1 x_1_n x_1_c state state_n state_c fn args args_n args_c fuel replies replies_n replies_c w Q) : cl Tryz.prog 8 #[(.agg #[(.slice x_0 x_0_n x_0_c), (.slice x_1 x_1_n x_1_c)]), (.slice state state_n state_c), (.int .i64 fn), (.slice args args_n args_c), (.int .i64 fuel), (.slice replies replies_n replies_c)] w Q :=
  calls_of_ev (fn := Tryz.f8) Tryz.func8 h8 (args := [(.agg #[(.slice x_0 x_0_n x_0_c), (.slice x_1 x_1_n x_1_c)]), (.slice state state_n state_c), (.int .i64 fn), (.slice args args_n args_c), (.int .i64 fuel), (.slice replies replies_n replies_c)]) (by rw [F8_link]; exact hF_)
def h11 : Hint := (.s .d (.s .d (.s (.j [(18, 4)] .d .d) (.s (.o (ofL [0, 2, 3, 4, 1, 5, 6, 7] .nil)) .d))))
set_option linter.unusedVariables false in
def F11 (b : Option Addr) (b_n b_c : Nat) (w : World) (Q : Value → World → Prop) : Prop :=
(lv (IntKind.wrap .i64 ((b_n : Int) - (4 : Int))) fun n_1 =>
(jn (fun s2 w3 => asB (s2.getD 0 undef) fun b13 => (cond b13
(Q (.tuple #[(.slice none 0 0), (.bool false)]) w3)
(dw w3 fun w14 => (bn2 n_1 b_c (rn Tryz.prog (Instr.makeSlice 22 (.int .i64 (0 : Int)) (.int .i64 n_1)) w14 fun v15 w16 => asS v15 fun p17 n18 c19 => (rn Tryz.prog (Builtin.append_ #[22, 22] 22 #[(.slice p17 n18 c19), (.slice b (Int.toNat n_1) b_c)]) w16 fun v20 w21 => asS v20 fun p22 n23 c24 =>
(Q (.tuple #[(.slice p22 n23 c24), (.bool true)]) w21)))))))
 (fun J4 => (cond (decide (n_1 < (0 : Int))) (J4 [(.bool true)] w) (bn2 n_1 b_c (cl Tryz.prog 39 #[(.slice b (Int.toNat n_1) b_c)] w fun v5 w6 => asS v5 fun p7 n8 c9 => (cl Tryz.prog 38 #[(.slice p7 n8 c9), (.slice b b_n b_c)] w6 fun v10 w11 => asB v10 fun b12 => (J4 [(.bool (!b12))] w11))))))))
theorem F11_link (b : Option Addr) (b_n b_c : Nat) (w : World) (Q : Value → World → Prop) : fnEv Tryz.prog Tryz.f11 h11 [(.slice b b_n b_c)] w Q = F11 b b_n b_c w Q := by kernel_rfl
theorem F11_calls {b : Option Addr} {b_n b_c : Nat} {w : World} {Q : Value → World → Prop} (hF_ : F11 b b_n b_c w Q) : cl Tryz.prog 11 #[(.slice b b_n b_c)] w Q :=
  calls_of_ev (fn := Tryz.f11) Tryz.func11 h11 (args := [(.slice b b_n b_c)]) (by rw [F11_link]; exact hF_)
def h17 : Hint := (.s .d (.j [(2, 4)] .d .d))
set_option linter.unusedVariables false in
def F17 (x_0 : Option Addr) (x_0_n x_0_c : Nat) (x_1 : Option Addr) (x_1_n x_1_c : Nat) (w : World) (Q : Value → World → Prop) : Prop :=
 (nw w (.cells #[(.slice x_0 x_0_n x_0_c), (.slice x_1 x_1_n x_1_c)] 31) fun r1 w2 =>
(jn (fun s3 w4 => asB (s3.getD 0 undef) fun b28 => (Q (.bool b28) w4))
 (fun J5 => (ld w2 (⟨r1, 0, none⟩ : Addr) fun v6 => asS v6 fun p7 n8 c9 => (cond (decide ((n8 : Int) ≤ (64 : Int))) (ld w2 (Addr.add (⟨r1, 0, none⟩ : Addr) 1) fun v10 => asS v10 fun p11 n12 c13 => (cond (decide ((n12 : Int) ≤ (64 : Int))) (ld w2 (⟨r1, 0, none⟩ : Addr) fun v14 => asS v14 fun p15 n16 c17 => (cl Tryz.prog 47 #[(.slice p15 n16 c17), (.func (.func 48) #[] #[])] w2 fun v18 w19 => asB v18 fun b20 => (cond (!b20) (ld w19 (Addr.add (⟨r1, 0, none⟩ : Addr) 1) fun v21 => asS v21 fun p22 n23 c24 => (cl Tryz.prog 50 #[(.slice p22 n23 c24), (.func (.func 51) #[] #[])] w19 fun v25 w26 => asB v25 fun b27 => (J5 [(.bool (!b27))] w26))) (J5 [(.bool false)] w19)))) (J5 [(.bool false)] w2))) (J5 [(.bool false)] w2))))))
theorem F17_link (x_0 : Option Addr) (x_0_n x_0_c : Nat) (x_1 : Option Addr) (x_1_n x_1_c : Nat) (w : World) (Q : Value → World → Prop) : fnEv Tryz.prog Tryz.f17 h17 [(.agg #[(.slice x_0 x_0_n x_0_c), (.slice x_1 x_1_n x_1_c)])] w Q = F17 x_0 x_0_n x_0_c x_1 x_1_n x_1_c w Q := by kernel_rfl
theorem F17_calls {x_0 : Option Addr} {x_0_n x_0_c : Nat} {x_1 : Option Addr} {x_1_n x_1_c : Nat} {w : World} {Q : Value → World → Prop} (hF_ : F17 x_0 x_0_n x_0_c x_1 x_1_n x_1_c w Q) : cl Tryz.prog 17 #[(.agg #[(.slice x_0 x_0_n x_0_c), (.slice x_1 x_1_n x_1_c)])] w Q :=
  calls_of_ev (fn := Tryz.f17) Tryz.func17 h17 (args := [(.agg #[(.slice x_0 x_0_n x_0_c), (.slice x_1 x_1_n x_1_c)])]) (by rw [F17_link]; exact hF_)
def h18 : Hint := (.s .d (.s .d (.s .d (.s (.s .d (.l [(21, 3)] (.s .d (.s .d (.s (.s .d (.j [(7, 4)] .d .d)) .d))))) (.s (.s .d (.l [(46, 3)] .d)) .d)))))
set_option linter.unusedVariables false in
def F18 (x_0 : Option Addr) (x_0_n x_0_c : Nat) (x_1 : Option Addr) (x_1_n x_1_c : Nat) (w : World) (Q : Value → World → Prop) : Prop :=
 (nw w (.cells #[(.slice x_0 x_0_n x_0_c), (.slice x_1 x_1_n x_1_c)] 31) fun r1 w2 => (nw w2 (.cells #[(.int .i64 (0 : Int)), (.int .i64 (0 : Int))] 54) fun r3 w4 =>
(ld w4 (⟨r1, 0, none⟩ : Addr) fun v5 => asS v5 fun p6 n7 c8 => (ld w4 (Addr.add (⟨r1, 0, none⟩ : Addr) 1) fun v9 => asS v9 fun p10 n11 c12 => (cl Tryz.prog 53 #[(.agg #[(.slice p6 n7 c8), (.slice p10 n11 c12)])] w4 fun v13 w14 => asI .i64 v13 fun x15 => (lv x15 fun e_16 =>
(cond (e_16 != (0 : Int)) (st w14 (⟨r3, 0, none⟩ : Addr) (.int .i64 e_16) fun w17 => (st w17 (Addr.add (⟨r3, 0, none⟩ : Addr) 1) (.int .i64 (-1 : Int)) fun w18 =>
(ld w18 (⟨r3, 0, none⟩ : Addr) fun v19 => asI .i64 v19 fun x20 => (ld w18 (Addr.add (⟨r3, 0, none⟩ : Addr) 1) fun v21 => asI .i64 v21 fun x22 => (Q (.agg #[(.int .i64 x20), (.int .i64 x22)]) w18)))))
(rn Tryz.prog (Instr.makeMap 138 none) w14 fun v23 w24 => asM v23 fun r25 =>
(ld w24 (Addr.add (⟨r1, 0, none⟩ : Addr) 1) fun v26 => asS v26 fun p27 n28 c29 =>
(lp [(.int .i64 (0 : Int))] w24 fun J32 s30 w31 => asI .i64 (s30.getD 0 undef) fun x33 =>
(cond (decide (x33 < (n28 : Int)))
(dr p27 fun a34 => (bnd x33 n28 (ld w31 (Addr.add a34 (Int.toNat x33 * 5)) fun v35 => asY v35 fun s36 => (ld w31 (Addr.add (Addr.add a34 (Int.toNat x33 * 5)) 1) fun v37 => asS v37 fun p38 n39 c40 => (ld w31 (Addr.add (Addr.add a34 (Int.toNat x33 * 5)) 2) fun v41 => asI .i64 v41 fun x42 => (ld w31 (Addr.add (Addr.add a34 (Int.toNat x33 * 5)) 3) fun v43 => asS v43 fun p44 n45 c46 => (ld w31 (Addr.add (Addr.add a34 (Int.toNat x33 * 5)) 4) fun v47 => asS v47 fun p48 n49 c50 => (nw w31 (.cells #[(.string ByteArray.empty), (.slice none 0 0), (.int .i64 (0 : Int)), (.slice none 0 0), (.slice none 0 0)] 42) fun r51 w52 => (lv x33 fun k_53 => (st w52 (⟨r51, 0, none⟩ : Addr) (.string s36) fun w54 => (st w54 (Addr.add (⟨r51, 0, none⟩ : Addr) 1) (.slice p38 n39 c40) fun w55 => (st w55 (Addr.add (⟨r51, 0, none⟩ : Addr) 2) (.int .i64 x42) fun w56 => (st w56 (Addr.add (⟨r51, 0, none⟩ : Addr) 3) (.slice p44 n45 c46) fun w57 => (st w57 (Addr.add (⟨r51, 0, none⟩ : Addr) 4) (.slice p48 n49 c50) fun w58 =>
(jn (fun s59 w60 => asB (s59.getD 0 undef) fun b74 =>
(cond b74 (st w60 (⟨r3, 0, none⟩ : Addr) (.int .i64 (163 : Int)) fun w75 => (st w75 (Addr.add (⟨r3, 0, none⟩ : Addr) 1) (.int .i64 (IntKind.wrap .i64 (k_53 * 2 ^ (min (Int.toNat (16 : Int)) 64)))) fun w76 =>
(ld w76 (⟨r3, 0, none⟩ : Addr) fun v77 => asI .i64 v77 fun x78 => (ld w76 (Addr.add (⟨r3, 0, none⟩ : Addr) 1) fun v79 => asI .i64 v79 fun x80 => (Q (.agg #[(.int .i64 x78), (.int .i64 x80)]) w76)))))
(ld w60 (⟨r51, 0, none⟩ : Addr) fun v81 => asY v81 fun s82 => (ru Tryz.prog (Instr.mapUpdate 138 (.map r25) (.string s82) (.bool true)) w60 fun w83 =>
(J32 [(.int .i64 (IntKind.wrap .i64 (x33 + (1 : Int))))] w83)))))
 (fun J61 => (ld w58 (⟨r51, 0, none⟩ : Addr) fun v62 => asY v62 fun s63 => (rq Tryz.prog (Instr.lookup 138 (.map r25) (.string s63) false) w58 fun v64 => asB v64 fun b65 => (cond b65 (J61 [(.bool true)] w58) (cl Tryz.prog 55 #[] w58 fun v66 w67 => asS v66 fun p68 n69 c70 => (cl Tryz.prog 54 #[(.slice p68 n69 c70), (.func (.func 56) #[] #[(.pointer (some (⟨r51, 0, none⟩ : Addr)))])] w67 fun v71 w72 => asB v71 fun b73 => (J61 [(.bool b73)] w72))))))))))))))))))))))
(ld w31 (Addr.add (⟨r1, 0, none⟩ : Addr) 1) fun v84 => asS v84 fun p85 n86 c87 =>
(lp [(.int .i64 (0 : Int))] w31 fun J90 s88 w89 => asI .i64 (s88.getD 0 undef) fun x91 =>
(cond (decide (x91 < (n86 : Int)))
(lv x91 fun k_92 =>
(ld w89 (⟨r1, 0, none⟩ : Addr) fun v93 => asS v93 fun p94 n95 c96 => (ld w89 (Addr.add (⟨r1, 0, none⟩ : Addr) 1) fun v97 => asS v97 fun p98 n99 c100 => (cl Tryz.prog 58 #[(.agg #[(.slice p94 n95 c96), (.slice p98 n99 c100)]), (.int .i64 k_92)] w89 fun v101 w102 => asT 2 v101 fun t103 => asA 2 (t103 0) fun a104 => asI .i64 (a104 0) fun x105 => asI .i64 (a104 1) fun x106 => asI .i64 (t103 1) fun x107 => (nw w102 (.cells #[(.int .i64 (0 : Int)), (.int .i64 (0 : Int))] 54) fun r108 w109 => (st w109 (⟨r108, 0, none⟩ : Addr) (.int .i64 x105) fun w110 => (st w110 (Addr.add (⟨r108, 0, none⟩ : Addr) 1) (.int .i64 x106) fun w111 => (lv x107 fun __112 =>
(ld w111 (⟨r108, 0, none⟩ : Addr) fun v113 => asI .i64 v113 fun x114 =>
(cond (x114 != (0 : Int)) (ld w111 (⟨r108, 0, none⟩ : Addr) fun v115 => asI .i64 v115 fun x116 => (ld w111 (Addr.add (⟨r108, 0, none⟩ : Addr) 1) fun v117 => asI .i64 v117 fun x118 => (st w111 (⟨r3, 0, none⟩ : Addr) (.int .i64 x116) fun w119 => (st w119 (Addr.add (⟨r3, 0, none⟩ : Addr) 1) (.int .i64 x118) fun w120 =>
(ld w120 (⟨r3, 0, none⟩ : Addr) fun v121 => asI .i64 v121 fun x122 => (ld w120 (Addr.add (⟨r3, 0, none⟩ : Addr) 1) fun v123 => asI .i64 v123 fun x124 => (Q (.agg #[(.int .i64 x122), (.int .i64 x124)]) w120)))))))
(J90 [(.int .i64 (IntKind.wrap .i64 (x91 + (1 : Int))))] w111)))))))))))
(st w89 (⟨r3, 0, none⟩ : Addr) (.int .i64 (0 : Int)) fun w125 => (st w125 (Addr.add (⟨r3, 0, none⟩ : Addr) 1) (.int .i64 (0 : Int)) fun w126 =>
(ld w126 (⟨r3, 0, none⟩ : Addr) fun v127 => asI .i64 v127 fun x128 => (ld w126 (Addr.add (⟨r3, 0, none⟩ : Addr) 1) fun v129 => asI .i64 v129 fun x130 => (Q (.agg #[(.int .i64 x128), (.int .i64 x130)]) w126)))))))))))))))))))
theorem F18_link (x_0 : Option Addr) (x_0_n x_0_c : Nat) (x_1 : Option Addr) (x_1_n x_1_c : Nat) (w : World) (Q : Value → World → Prop) : fnEv Tryz.prog Tryz.f18 h18 [(.agg #[(.slice x_0 x_0_n x_0_c), (.slice x_1 x_1_n x_1_c)])] w Q = F18 x_0 x_0_n x_0_c x_1 x_1_n x_1_c w Q := by kernel_rfl
theorem F18_calls {x_0 : Option Addr} {x_0_n x_0_c : Nat} {x_1 : Option Addr} {x_1_n x_1_c : Nat} {w : World} {Q : Value → World → Prop} (hF_ : F18 x_0 x_0_n x_0_c x_1 x_1_n x_1_c w Q) : cl Tryz.prog 18 #[(.agg #[(.slice x_0 x_0_n x_0_c), (.slice x_1 x_1_n x_1_c)])] w Q :=
  calls_of_ev (fn := Tryz.f18) Tryz.func18 h18 (args := [(.agg #[(.slice x_0 x_0_n x_0_c), (.slice x_1 x_1_n x_1_c)])]) (by rw [F18_link]; exact hF_)
def h19 : Hint := .d
set_option linter.unusedVariables false in
def F19 (s : Option Addr) (s_n s_c : Nat) (w : World) (Q : Value → World → Prop) : Prop :=
(cond (Option.isNone s)
(Q (.slice none 0 0) w)
(nw w (.cells #[] 65) fun r1 w2 => (rn Tryz.prog (Builtin.append_ #[28, 28] 28 #[(.slice (some (⟨r1, 0, none⟩ : Addr)) 0 0), (.slice s s_n s_c)]) w2 fun v3 w4 => asS v3 fun p5 n6 c7 =>
(Q (.slice p5 n6 c7) w4))))
theorem F19_link (s : Option Addr) (s_n s_c : Nat) (w : World) (Q : Value → World → Prop) : fnEv Tryz.prog Tryz.f19 h19 [(.slice s s_n s_c)] w Q = F19 s s_n s_c w Q := by kernel_rfl
theorem F19_calls {s : Option Addr} {s_n s_c : Nat} {w : World} {Q : Value → World → Prop} (hF_ : F19 s s_n s_c w Q) : cl Tryz.prog 19 #[(.slice s s_n s_c)] w Q :=
  calls_of_ev (fn := Tryz.f19) Tryz.func19 h19 (args := [(.slice s s_n s_c)]) (by rw [F19_link]; exact hF_)
def h20 : Hint := .d
set_option linter.unusedVariables false in
def F20 (s : Option Addr) (s_n s_c : Nat) (w : World) (Q : Value → World → Prop) : Prop :=
(cond (Option.isNone s)
(Q (.slice none 0 0) w)
(nw w (.cells #[] 42) fun r1 w2 => (rn Tryz.prog (Builtin.append_ #[29, 29] 29 #[(.slice (some (⟨r1, 0, none⟩ : Addr)) 0 0), (.slice s s_n s_c)]) w2 fun v3 w4 => asS v3 fun p5 n6 c7 =>
(Q (.slice p5 n6 c7) w4))))
theorem F20_link (s : Option Addr) (s_n s_c : Nat) (w : World) (Q : Value → World → Prop) : fnEv Tryz.prog Tryz.f20 h20 [(.slice s s_n s_c)] w Q = F20 s s_n s_c w Q := by kernel_rfl
theorem F20_calls {s : Option Addr} {s_n s_c : Nat} {w : World} {Q : Value → World → Prop} (hF_ : F20 s s_n s_c w Q) : cl Tryz.prog 20 #[(.slice s s_n s_c)] w Q :=
  calls_of_ev (fn := Tryz.f20) Tryz.func20 h20 (args := [(.slice s s_n s_c)]) (by rw [F20_link]; exact hF_)
def h21 : Hint := .d
set_option linter.unusedVariables false in
def F21  (w : World) (Q : Value → World → Prop) : Prop :=
(nw w (.cells #[(.int .i64 (2 : Int)), (.int .i64 (2 : Int)), (.int .i64 (1 : Int))] 3) fun r1 w2 => (nw w2 (.cells #[(.int .i64 (4 : Int))] 3) fun r3 w4 => (nw w4 (.cells #[(.int .i64 (4 : Int))] 3) fun r5 w6 => (nw w6 (.cells #[(.int .i64 (4 : Int))] 3) fun r7 w8 => (nw w8 (.cells #[(.int .i64 (4 : Int))] 3) fun r9 w10 => (nw w10 (.cells #[(.int .i64 (4 : Int)), (.int .i64 (2 : Int)), (.int .i64 (2 : Int))] 3) fun r11 w12 => (nw w12 (.cells #[(.int .i64 (4 : Int)), (.int .i64 (2 : Int)), (.int .i64 (2 : Int))] 3) fun r13 w14 => (nw w14 (.cells #[(.int .i64 (4 : Int)), (.int .i64 (2 : Int))] 3) fun r15 w16 => (nw w16 (.cells #[(.int .i64 (4 : Int))] 3) fun r17 w18 => (nw w18 (.cells #[(.int .i64 (4 : Int)), (.int .i64 (1 : Int))] 3) fun r19 w20 => (nw w20 (.cells #[(.int .i64 (4 : Int))] 3) fun r21 w22 => (nw w22 (.cells #[(.int .i64 (1 : Int))] 3) fun r23 w24 => (nw w24 (.cells #[(.int .i64 (1 : Int))] 3) fun r25 w26 => (nw w26 (.cells #[(.int .i64 (1 : Int)), (.int .i64 (1 : Int))] 3) fun r27 w28 => (nw w28 (.cells #[(.string (⟨#[115, 112, 97, 119, 110]⟩ : ByteArray)), (.slice (some (⟨r1, 0, none⟩ : Addr)) 3 3), (.int .i64 (4 : Int)), (.string (⟨#[107, 105, 108, 108]⟩ : ByteArray)), (.slice (some (⟨r3, 0, none⟩ : Addr)) 1 1), (.int .i64 (0 : Int)), (.string (⟨#[97, 108, 105, 118, 101]⟩ : ByteArray)), (.slice (some (⟨r5, 0, none⟩ : Addr)) 1 1), (.int .i64 (3 : Int)), (.string (⟨#[103, 101, 116, 120]⟩ : ByteArray)), (.slice (some (⟨r7, 0, none⟩ : Addr)) 1 1), (.int .i64 (2 : Int)), (.string (⟨#[103, 101, 116, 121]⟩ : ByteArray)), (.slice (some (⟨r9, 0, none⟩ : Addr)) 1 1), (.int .i64 (2 : Int)), (.string (⟨#[112, 108, 97, 99, 101]⟩ : ByteArray)), (.slice (some (⟨r11, 0, none⟩ : Addr)) 3 3), (.int .i64 (3 : Int)), (.string (⟨#[112, 117, 115, 104]⟩ : ByteArray)), (.slice (some (⟨r13, 0, none⟩ : Addr)) 3 3), (.int .i64 (0 : Int)), (.string (⟨#[115, 105, 122, 101]⟩ : ByteArray)), (.slice (some (⟨r15, 0, none⟩ : Addr)) 2 2), (.int .i64 (0 : Int)), (.string (⟨#[116, 97, 103]⟩ : ByteArray)), (.slice (some (⟨r17, 0, none⟩ : Addr)) 1 1), (.int .i64 (1 : Int)), (.string (⟨#[109, 97, 114, 107]⟩ : ByteArray)), (.slice (some (⟨r19, 0, none⟩ : Addr)) 2 2), (.int .i64 (0 : Int)), (.string (⟨#[111, 119, 110, 101, 114]⟩ : ByteArray)), (.slice (some (⟨r21, 0, none⟩ : Addr)) 1 1), (.int .i64 (1 : Int)), (.string (⟨#[99, 111, 117, 110, 116]⟩ : ByteArray)), (.slice none 0 0), (.int .i64 (1 : Int)), (.string (⟨#[110, 116, 104]⟩ : ByteArray)), (.slice (some (⟨r23, 0, none⟩ : Addr)) 1 1), (.int .i64 (4 : Int)), (.string (⟨#[110, 111, 119]⟩ : ByteArray)), (.slice none 0 0), (.int .i64 (1 : Int)), (.string (⟨#[114, 97, 110, 100, 111, 109]⟩ : ByteArray)), (.slice (some (⟨r25, 0, none⟩ : Addr)) 1 1), (.int .i64 (1 : Int)), (.string (⟨#[115, 99, 111, 114, 101]⟩ : ByteArray)), (.slice (some (⟨r27, 0, none⟩ : Addr)) 2 2), (.int .i64 (0 : Int))] 141) fun r29 w30 =>
(Q (.slice (some (⟨r29, 0, none⟩ : Addr)) 16 16) w30))))))))))))))))
theorem F21_link  (w : World) (Q : Value → World → Prop) : fnEv Tryz.prog Tryz.f21 h21 [] w Q = F21  w Q := by kernel_rfl
theorem F21_calls  {w : World} {Q : Value → World → Prop} (hF_ : F21  w Q) : cl Tryz.prog 21 #[] w Q :=
  calls_of_ev (fn := Tryz.f21) Tryz.func21 h21 (args := []) (by rw [F21_link]; exact hF_)
def h22 : Hint := .d
set_option linter.unusedVariables false in
def F22 (s : Option Addr) (s_n s_c : Nat) (w : World) (Q : Value → World → Prop) : Prop :=
(cond (Option.isNone s)
(Q (.slice none 0 0) w)
(nw w (.cells #[] 3) fun r1 w2 => (rn Tryz.prog (Builtin.append_ #[23, 23] 23 #[(.slice (some (⟨r1, 0, none⟩ : Addr)) 0 0), (.slice s s_n s_c)]) w2 fun v3 w4 => asS v3 fun p5 n6 c7 =>
(Q (.slice p5 n6 c7) w4))))
theorem F22_link (s : Option Addr) (s_n s_c : Nat) (w : World) (Q : Value → World → Prop) : fnEv Tryz.prog Tryz.f22 h22 [(.slice s s_n s_c)] w Q = F22 s s_n s_c w Q := by kernel_rfl
theorem F22_calls {s : Option Addr} {s_n s_c : Nat} {w : World} {Q : Value → World → Prop} (hF_ : F22 s s_n s_c w Q) : cl Tryz.prog 22 #[(.slice s s_n s_c)] w Q :=
  calls_of_ev (fn := Tryz.f22) Tryz.func22 h22 (args := [(.slice s s_n s_c)]) (by rw [F22_link]; exact hF_)
def h23 : Hint := .d
set_option linter.unusedVariables false in
def F23 (s : Option Addr) (s_n s_c : Nat) (w : World) (Q : Value → World → Prop) : Prop :=
(cond (Option.isNone s)
(Q (.slice none 0 0) w)
(nw w (.cells #[] 81) fun r1 w2 => (rn Tryz.prog (Builtin.append_ #[40, 40] 40 #[(.slice (some (⟨r1, 0, none⟩ : Addr)) 0 0), (.slice s s_n s_c)]) w2 fun v3 w4 => asS v3 fun p5 n6 c7 =>
(Q (.slice p5 n6 c7) w4))))
theorem F23_link (s : Option Addr) (s_n s_c : Nat) (w : World) (Q : Value → World → Prop) : fnEv Tryz.prog Tryz.f23 h23 [(.slice s s_n s_c)] w Q = F23 s s_n s_c w Q := by kernel_rfl
theorem F23_calls {s : Option Addr} {s_n s_c : Nat} {w : World} {Q : Value → World → Prop} (hF_ : F23 s s_n s_c w Q) : cl Tryz.prog 23 #[(.slice s s_n s_c)] w Q :=
  calls_of_ev (fn := Tryz.f23) Tryz.func23 h23 (args := [(.slice s s_n s_c)]) (by rw [F23_link]; exact hF_)
def h24 : Hint := .d
set_option linter.unusedVariables false in
def F24 (g_0 : Int) (g_1 : Int) (g_2 : Int) (w : World) (Q : Value → World → Prop) : Prop :=
 (nw w (.cells #[(.int .i64 g_0), (.int .i64 g_1), (.int .i64 g_2)] 65) fun r1 w2 => (lv (0 : Int) fun y3 =>
(ld w2 (Addr.add (⟨r1, 0, none⟩ : Addr) 1) fun v4 => asI .i64 v4 fun x5 => (lv (if x5 > (1 : Int) then x5 else (1 : Int)) fun y6 =>
(Q (.int .i64 y6) w2)))))
theorem F24_link (g_0 : Int) (g_1 : Int) (g_2 : Int) (w : World) (Q : Value → World → Prop) : fnEv Tryz.prog Tryz.f24 h24 [(.agg #[(.int .i64 g_0), (.int .i64 g_1), (.int .i64 g_2)])] w Q = F24 g_0 g_1 g_2 w Q := by kernel_rfl
theorem F24_calls {g_0 : Int} {g_1 : Int} {g_2 : Int} {w : World} {Q : Value → World → Prop} (hF_ : F24 g_0 g_1 g_2 w Q) : cl Tryz.prog 24 #[(.agg #[(.int .i64 g_0), (.int .i64 g_1), (.int .i64 g_2)])] w Q :=
  calls_of_ev (fn := Tryz.f24) Tryz.func24 h24 (args := [(.agg #[(.int .i64 g_0), (.int .i64 g_1), (.int .i64 g_2)])]) (by rw [F24_link]; exact hF_)
def h25 : Hint := (.s .d (.s .d (.s .d (.s (.s .d (.l [(28, 3)] (.s .d (.s .d (.s (.s .d (.o (ofL [0, 1, 2, 3, 4, 5, 6, 7, 8, 9, 10, 11] .nil))) .d))))) .d))))
set_option linter.unusedVariables false in
def F25 (m : Option Addr) (state : Option Addr) (state_n state_c : Nat) (fn : Int) (args : Option Addr) (args_n args_c : Nat) (fuel : Int) (w : World) (Q : Value → World → Prop) : Prop :=
 (lv (0 : Int) fun y1 =>
(cl Tryz.prog 59 #[(.pointer m), (.slice state state_n state_c), (.int .i64 fn), (.slice args args_n args_c), (.int .i64 fuel)] w fun v2 w3 => asB v2 fun b4 =>
(cond (!b4) (lv (1 : Int) fun y5 =>
(Q (.tuple #[(.pointer none), (.int .i64 y5)]) w3))
(nw w3 (.cells #[(.pointer m), (.slice none 0 0), (.int .i64 fuel), (.slice none 0 0), (.slice none 0 0), (.slice none 0 0), (.bool false), (.bool false), (.int .i64 (0 : Int)), (.int .i64 (0 : Int))] 150) fun r6 w7 =>
(lp [(.int .i64 (0 : Int))] w7 fun J10 s8 w9 => asI .i64 (s8.getD 0 undef) fun x11 =>
(cond (decide (x11 < (state_n : Int)))
(dr state fun a12 => (bnd x11 state_n (ld w9 (Addr.add a12 (Int.toNat x11 * 1)) fun v13 => asS v13 fun p14 n15 c16 =>
(dw w9 fun w17 => (ld w17 (Addr.add (⟨r6, 0, none⟩ : Addr) 1) fun v18 => asS v18 fun p19 n20 c21 => (cl Tryz.prog 22 #[(.slice p14 n15 c16)] w17 fun v22 w23 => asS v22 fun p24 n25 c26 => (hd w23 (Addr.add (⟨r6, 0, none⟩ : Addr) 1) (.slice p19 n20 c21) (nw w23 (.cells #[(.slice p24 n25 c26)] 23) fun r27 w28 => (hd w28 (Addr.add (⟨r6, 0, none⟩ : Addr) 1) (.slice p19 n20 c21) (rn Tryz.prog (Builtin.append_ #[38, 38] 38 #[(.slice p19 n20 c21), (.slice (some (⟨r27, 0, none⟩ : Addr)) 1 1)]) w28 fun v29 w30 => asS v29 fun p31 n32 c33 => (st w30 (Addr.add (⟨r6, 0, none⟩ : Addr) 1) (.slice p31 n32 c33) fun w34 =>
(J10 [(.int .i64 (IntKind.wrap .i64 (x11 + (1 : Int))))] w34))))))))))))
(cl Tryz.prog 60 #[(.pointer (some (⟨r6, 0, none⟩ : Addr))), (.int .i64 fn), (.slice args args_n args_c)] w9 fun v35 w36 =>
(lv (0 : Int) fun y37 =>
(Q (.tuple #[(.pointer (some (⟨r6, 0, none⟩ : Addr))), (.int .i64 y37)]) w36)))))))))
theorem F25_link (m : Option Addr) (state : Option Addr) (state_n state_c : Nat) (fn : Int) (args : Option Addr) (args_n args_c : Nat) (fuel : Int) (w : World) (Q : Value → World → Prop) : fnEv Tryz.prog Tryz.f25 h25 [(.pointer m), (.slice state state_n state_c), (.int .i64 fn), (.slice args args_n args_c), (.int .i64 fuel)] w Q = F25 m state state_n state_c fn args args_n args_c fuel w Q := by kernel_rfl
theorem F25_calls {m : Option Addr} {state : Option Addr} {state_n state_c : Nat} {fn : Int} {args : Option Addr} {args_n args_c : Nat} {fuel : Int} {w : World} {Q : Value → World → Prop} (hF_ : F25 m state state_n state_c fn args args_n args_c fuel w Q) : cl Tryz.prog 25 #[(.pointer m), (.slice state state_n state_c), (.int .i64 fn), (.slice args args_n args_c), (.int .i64 fuel)] w Q :=
  calls_of_ev (fn := Tryz.f25) Tryz.func25 h25 (args := [(.pointer m), (.slice state state_n state_c), (.int .i64 fn), (.slice args args_n args_c), (.int .i64 fuel)]) (by rw [F25_link]; exact hF_)
def h26 : Hint := (.s .d (.j [] (.j [(16, 4)] .d .d) (.s (.s .d (.s (.s (.o (ofL [0, 1, 2, 3, 4, 5, 6, 7, 8, 9, 10, 11, 12, 13] .nil)) (.s (.o (ofL [0, 1, 2, 3, 4, 5, 6, 7] .nil)) .d)) .d)) .d)))
set_option linter.unusedVariables false in
def F26 (r : Option Addr) (w : World) (Q : Value → World → Prop) : Prop :=
 (nw w (.cells #[(.int .i64 (0 : Int)), (.slice none 0 0)] 87) fun r1 w2 =>
(jn (fun s3 w4 => (dr r fun a18 => (ld w4 (Addr.add a18 6) fun v19 => asB v19 fun b20 =>
(cond b20 (dw w4 fun w21 => (dr r fun a22 => (ld w21 (Addr.add a22 5) fun v23 => asS v23 fun p24 n25 c26 => (dr r fun a27 => (ld w21 (Addr.add a27 5) fun v28 => asS v28 fun p29 n30 c31 => (dr p24 fun a32 => (bnd (IntKind.wrap .i64 ((n30 : Int) - (1 : Int))) n25 (ld w21 (Addr.add a32 (Int.toNat (IntKind.wrap .i64 ((n30 : Int) - (1 : Int))) * 2)) fun v33 => asI .i64 v33 fun x34 => (ld w21 (Addr.add (Addr.add a32 (Int.toNat (IntKind.wrap .i64 ((n30 : Int) - (1 : Int))) * 2)) 1) fun v35 => asS v35 fun p36 n37 c38 => (nw w21 (.cells #[(.int .i64 (0 : Int)), (.slice none 0 0)] 87) fun r39 w40 => (hd w40 (Addr.add a32 (Int.toNat (IntKind.wrap .i64 ((n30 : Int) - (1 : Int))) * 2)) (.int .i64 x34) (hd w40 (Addr.add (Addr.add a32 (Int.toNat (IntKind.wrap .i64 ((n30 : Int) - (1 : Int))) * 2)) 1) (.slice p36 n37 c38) (hd w40 (Addr.add a27 5) (.slice p29 n30 c31) (hd w40 (Addr.add a22 5) (.slice p24 n25 c26) (st w40 (⟨r39, 0, none⟩ : Addr) (.int .i64 x34) fun w41 => (st w41 (Addr.add (⟨r39, 0, none⟩ : Addr) 1) (.slice p36 n37 c38) fun w42 =>
(dw w42 fun w43 => (ld w43 (⟨r39, 0, none⟩ : Addr) fun v44 => asI .i64 v44 fun x45 => (ld w43 (Addr.add (⟨r39, 0, none⟩ : Addr) 1) fun v46 => asS v46 fun p47 n48 c49 => (cl Tryz.prog 22 #[(.slice p47 n48 c49)] w43 fun v50 w51 => asS v50 fun p52 n53 c54 => (hd w51 (⟨r39, 0, none⟩ : Addr) (.int .i64 x45) (st w51 (⟨r1, 0, none⟩ : Addr) (.int .i64 x45) fun w55 => (st w55 (Addr.add (⟨r1, 0, none⟩ : Addr) 1) (.slice p52 n53 c54) fun w56 =>
(ld w56 (⟨r1, 0, none⟩ : Addr) fun v57 => asI .i64 v57 fun x58 => (ld w56 (Addr.add (⟨r1, 0, none⟩ : Addr) 1) fun v59 => asS v59 fun p60 n61 c62 => (Q (.tuple #[(.agg #[(.int .i64 x58), (.slice p60 n61 c62)]), (.bool true)]) w56))))))))))))))))))))))))))
(st w4 (⟨r1, 0, none⟩ : Addr) (.int .i64 (0 : Int)) fun w63 => (st w63 (Addr.add (⟨r1, 0, none⟩ : Addr) 1) (.slice none 0 0) fun w64 =>
(ld w64 (⟨r1, 0, none⟩ : Addr) fun v65 => asI .i64 v65 fun x66 => (ld w64 (Addr.add (⟨r1, 0, none⟩ : Addr) 1) fun v67 => asS v67 fun p68 n69 c70 => (Q (.tuple #[(.agg #[(.int .i64 x66), (.slice p68 n69 c70)]), (.bool false)]) w64)))))))))
 (fun J5 => (jn (fun s6 w7 => asB (s6.getD 0 undef) fun b15 => (cond b15 (cl Tryz.prog 61 #[(.pointer r)] w7 fun v16 w17 => (J5 [] w17)) (J5 [] w7)))
 (fun J8 => (dr r fun a9 => (ld w2 (Addr.add a9 7) fun v10 => asB v10 fun b11 => (cond (!b11) (dr r fun a12 => (ld w2 (Addr.add a12 6) fun v13 => asB v13 fun b14 => (J8 [(.bool (!b14))] w2))) (J8 [(.bool false)] w2)))))))))
theorem F26_link (r : Option Addr) (w : World) (Q : Value → World → Prop) : fnEv Tryz.prog Tryz.f26 h26 [(.pointer r)] w Q = F26 r w Q := by kernel_rfl
theorem F26_calls {r : Option Addr} {w : World} {Q : Value → World → Prop} (hF_ : F26 r w Q) : cl Tryz.prog 26 #[(.pointer r)] w Q :=
  calls_of_ev (fn := Tryz.f26) Tryz.func26 h26 (args := [(.pointer r)]) (by rw [F26_link]; exact hF_)
def h27 : Hint := (.s .d (.s .d (.s .d (.s .d (.j [] (.s (.o (ofL [0, 1, 2, 3, 4, 5, 6, 7, 8, 9, 10, 11, 12, 13, 14, 15, 16, 17, 18, 19, 20, 21, 22] .nil)) .d) .d)))))
set_option linter.unusedVariables false in
def F27 (r : Option Addr) (v_0 : Int) (v_1 : Bool) (w : World) (Q : Value → World → Prop) : Prop :=
 (nw w (.cells #[(.int .i64 v_0), (.bool v_1)] 91) fun r1 w2 => (lv (0 : Int) fun y3 =>
(dr r fun a4 => (ld w2 (Addr.add a4 6) fun v5 => asB v5 fun b6 =>
(cond (!b6) (lv (1 : Int) fun y7 =>
(Q (.int .i64 y7) w2))
(dr r fun a8 => (st w2 (Addr.add a8 6) (.bool false) fun w9 =>
(ld w9 (Addr.add (⟨r1, 0, none⟩ : Addr) 1) fun v10 => asB v10 fun b11 =>
(cond b11 (dr r fun a12 => (st w9 (Addr.add a12 7) (.bool true) fun w13 => (dr r fun a14 => (st w13 (Addr.add a14 8) (.int .i64 (5 : Int)) fun w15 =>
(lv (0 : Int) fun y16 =>
(Q (.int .i64 y16) w15))))))
(jn (fun s17 w18 => (lv (0 : Int) fun y56 =>
(Q (.int .i64 y56) w18)))
 (fun J19 => (dw w9 fun w20 => (dr r fun a21 => (ld w20 a21 fun v22 => asP v22 fun p23 => (dr p23 fun a24 => (ld w20 (Addr.add a24 2) fun v25 => asS v25 fun p26 n27 c28 => (dr r fun a29 => (ld w20 (Addr.add a29 5) fun v30 => asS v30 fun p31 n32 c33 => (dr r fun a34 => (ld w20 (Addr.add a34 5) fun v35 => asS v35 fun p36 n37 c38 => (dr p31 fun a39 => (bnd (IntKind.wrap .i64 ((n37 : Int) - (1 : Int))) n32 (ld w20 (Addr.add a39 (Int.toNat (IntKind.wrap .i64 ((n37 : Int) - (1 : Int))) * 2)) fun v40 => asI .i64 v40 fun x41 => (dr p26 fun a42 => (bnd x41 n27 (ld w20 (Addr.add (Addr.add a42 (Int.toNat x41 * 3)) 2) fun v43 => asI .i64 v43 fun x44 =>
(cond (x44 == (0 : Int)) (J19 [] w20)
(cond (x44 == (3 : Int)) (ld w20 (⟨r1, 0, none⟩ : Addr) fun v45 => asI .i64 v45 fun x46 => (cl Tryz.prog 63 #[(.bool (x46 != (0 : Int)))] w20 fun v47 w48 => asI .i64 v47 fun x49 => (cl Tryz.prog 62 #[(.pointer r), (.int .i64 x49)] w48 fun v50 w51 => (J19 [] w51)))) (ld w20 (⟨r1, 0, none⟩ : Addr) fun v52 => asI .i64 v52 fun x53 => (cl Tryz.prog 62 #[(.pointer r), (.int .i64 x53)] w20 fun v54 w55 => (J19 [] w55)))))))))))))))))))))))))))))))
theorem F27_link (r : Option Addr) (v_0 : Int) (v_1 : Bool) (w : World) (Q : Value → World → Prop) : fnEv Tryz.prog Tryz.f27 h27 [(.pointer r), (.agg #[(.int .i64 v_0), (.bool v_1)])] w Q = F27 r v_0 v_1 w Q := by kernel_rfl
theorem F27_calls {r : Option Addr} {v_0 : Int} {v_1 : Bool} {w : World} {Q : Value → World → Prop} (hF_ : F27 r v_0 v_1 w Q) : cl Tryz.prog 27 #[(.pointer r), (.agg #[(.int .i64 v_0), (.bool v_1)])] w Q :=
  calls_of_ev (fn := Tryz.f27) Tryz.func27 h27 (args := [(.pointer r), (.agg #[(.int .i64 v_0), (.bool v_1)])]) (by rw [F27_link]; exact hF_)
def h28 : Hint := (.s .d (.s .d (.s (.o (ofL [0, 1, 2, 3, 4, 5, 6, 7, 8, 9, 10, 11, 12, 13, 14] .nil)) (.j [] .d (.s (.s .d (.l [(39, 3)] (.s .d (.s .d (.s (.s .d (.o (ofL [0, 1, 2, 3, 4, 5, 6, 7] .nil))) .d))))) (.s (.s .d (.l [(56, 3)] (.s .d (.s .d (.s (.s .d (.o (ofL [0, 1, 2, 3, 4, 5, 6, 7, 8, 9, 10, 11] .nil))) .d))))) .d))))))
set_option linter.unusedVariables false in
def F28 (r : Option Addr) (w : World) (Q : Value → World → Prop) : Prop :=
 (nw w (.cells #[(.int .i64 (0 : Int)), (.int .i64 (0 : Int)), (.int .i64 (0 : Int)), (.slice none 0 0), (.slice none 0 0)] 45) fun r1 w2 =>
(dr r fun a3 => (ld w2 (Addr.add a3 7) fun v4 => asB v4 fun b5 =>
(cond (!b5) (st w2 (⟨r1, 0, none⟩ : Addr) (.int .i64 (0 : Int)) fun w6 => (st w6 (Addr.add (⟨r1, 0, none⟩ : Addr) 1) (.int .i64 (0 : Int)) fun w7 => (st w7 (Addr.add (⟨r1, 0, none⟩ : Addr) 2) (.int .i64 (0 : Int)) fun w8 => (st w8 (Addr.add (⟨r1, 0, none⟩ : Addr) 3) (.slice none 0 0) fun w9 => (st w9 (Addr.add (⟨r1, 0, none⟩ : Addr) 4) (.slice none 0 0) fun w10 =>
(ld w10 (⟨r1, 0, none⟩ : Addr) fun v11 => asI .i64 v11 fun x12 => (ld w10 (Addr.add (⟨r1, 0, none⟩ : Addr) 1) fun v13 => asI .i64 v13 fun x14 => (ld w10 (Addr.add (⟨r1, 0, none⟩ : Addr) 2) fun v15 => asI .i64 v15 fun x16 => (ld w10 (Addr.add (⟨r1, 0, none⟩ : Addr) 3) fun v17 => asS v17 fun p18 n19 c20 => (ld w10 (Addr.add (⟨r1, 0, none⟩ : Addr) 4) fun v21 => asS v21 fun p22 n23 c24 => (Q (.tuple #[(.agg #[(.int .i64 x12), (.int .i64 x14), (.int .i64 x16), (.slice p18 n19 c20), (.slice p22 n23 c24)]), (.bool false)]) w10)))))))))))
(dw w2 fun w25 => (dr r fun a26 => (ld w25 (Addr.add a26 8) fun v27 => asI .i64 v27 fun x28 => (dr r fun a29 => (ld w25 (Addr.add a29 9) fun v30 => asI .i64 v30 fun x31 => (dr r fun a32 => (ld w25 (Addr.add a32 2) fun v33 => asI .i64 v33 fun x34 => (nw w25 (.cells #[(.int .i64 (0 : Int)), (.int .i64 (0 : Int)), (.int .i64 (0 : Int)), (.slice none 0 0), (.slice none 0 0)] 45) fun r35 w36 => (hd w36 (Addr.add a32 2) (.int .i64 x34) (hd w36 (Addr.add a29 9) (.int .i64 x31) (hd w36 (Addr.add a26 8) (.int .i64 x28) (st w36 (⟨r35, 0, none⟩ : Addr) (.int .i64 x28) fun w37 => (st w37 (Addr.add (⟨r35, 0, none⟩ : Addr) 1) (.int .i64 x31) fun w38 => (st w38 (Addr.add (⟨r35, 0, none⟩ : Addr) 2) (.int .i64 x34) fun w39 => (st w39 (Addr.add (⟨r35, 0, none⟩ : Addr) 3) (.slice none 0 0) fun w40 => (st w40 (Addr.add (⟨r35, 0, none⟩ : Addr) 4) (.slice none 0 0) fun w41 =>
(jn (fun s42 w43 => (dr r fun a49 => (ld w43 (Addr.add a49 1) fun v50 => asS v50 fun p51 n52 c53 =>
(lp [(.int .i64 (0 : Int))] w43 fun J56 s54 w55 => asI .i64 (s54.getD 0 undef) fun x57 =>
(cond (decide (x57 < (n52 : Int)))
(dr p51 fun a58 => (bnd x57 n52 (ld w55 (Addr.add a58 (Int.toNat x57 * 1)) fun v59 => asS v59 fun p60 n61 c62 =>
(dw w55 fun w63 => (ld w63 (Addr.add (⟨r35, 0, none⟩ : Addr) 3) fun v64 => asS v64 fun p65 n66 c67 => (cl Tryz.prog 22 #[(.slice p60 n61 c62)] w63 fun v68 w69 => asS v68 fun p70 n71 c72 => (hd w69 (Addr.add (⟨r35, 0, none⟩ : Addr) 3) (.slice p65 n66 c67) (nw w69 (.cells #[(.slice p70 n71 c72)] 23) fun r73 w74 => (hd w74 (Addr.add (⟨r35, 0, none⟩ : Addr) 3) (.slice p65 n66 c67) (rn Tryz.prog (Builtin.append_ #[38, 38] 38 #[(.slice p65 n66 c67), (.slice (some (⟨r73, 0, none⟩ : Addr)) 1 1)]) w74 fun v75 w76 => asS v75 fun p77 n78 c79 => (st w76 (Addr.add (⟨r35, 0, none⟩ : Addr) 3) (.slice p77 n78 c79) fun w80 =>
(J56 [(.int .i64 (IntKind.wrap .i64 (x57 + (1 : Int))))] w80))))))))))))
(dr r fun a81 => (ld w55 (Addr.add a81 5) fun v82 => asS v82 fun p83 n84 c85 =>
(lp [(.int .i64 (0 : Int))] w55 fun J88 s86 w87 => asI .i64 (s86.getD 0 undef) fun x89 =>
(cond (decide (x89 < (n84 : Int)))
(dr p83 fun a90 => (bnd x89 n84 (ld w87 (Addr.add a90 (Int.toNat x89 * 2)) fun v91 => asI .i64 v91 fun x92 => (ld w87 (Addr.add (Addr.add a90 (Int.toNat x89 * 2)) 1) fun v93 => asS v93 fun p94 n95 c96 => (nw w87 (.cells #[(.int .i64 (0 : Int)), (.slice none 0 0)] 87) fun r97 w98 => (st w98 (⟨r97, 0, none⟩ : Addr) (.int .i64 x92) fun w99 => (st w99 (Addr.add (⟨r97, 0, none⟩ : Addr) 1) (.slice p94 n95 c96) fun w100 =>
(dw w100 fun w101 => (ld w101 (Addr.add (⟨r35, 0, none⟩ : Addr) 4) fun v102 => asS v102 fun p103 n104 c105 => (ld w101 (⟨r97, 0, none⟩ : Addr) fun v106 => asI .i64 v106 fun x107 => (ld w101 (Addr.add (⟨r97, 0, none⟩ : Addr) 1) fun v108 => asS v108 fun p109 n110 c111 => (cl Tryz.prog 22 #[(.slice p109 n110 c111)] w101 fun v112 w113 => asS v112 fun p114 n115 c116 => (hd w113 (⟨r97, 0, none⟩ : Addr) (.int .i64 x107) (hd w113 (Addr.add (⟨r35, 0, none⟩ : Addr) 4) (.slice p103 n104 c105) (nw w113 (.cells #[(.int .i64 x107), (.slice p114 n115 c116)] 87) fun r117 w118 => (hd w118 (⟨r97, 0, none⟩ : Addr) (.int .i64 x107) (hd w118 (Addr.add (⟨r35, 0, none⟩ : Addr) 4) (.slice p103 n104 c105) (rn Tryz.prog (Builtin.append_ #[43, 43] 43 #[(.slice p103 n104 c105), (.slice (some (⟨r117, 0, none⟩ : Addr)) 1 1)]) w118 fun v119 w120 => asS v119 fun p121 n122 c123 => (hd w120 (⟨r97, 0, none⟩ : Addr) (.int .i64 x107) (st w120 (Addr.add (⟨r35, 0, none⟩ : Addr) 4) (.slice p121 n122 c123) fun w124 =>
(J88 [(.int .i64 (IntKind.wrap .i64 (x89 + (1 : Int))))] w124)))))))))))))))))))))
(ld w87 (⟨r35, 0, none⟩ : Addr) fun v125 => asI .i64 v125 fun x126 => (ld w87 (Addr.add (⟨r35, 0, none⟩ : Addr) 1) fun v127 => asI .i64 v127 fun x128 => (ld w87 (Addr.add (⟨r35, 0, none⟩ : Addr) 2) fun v129 => asI .i64 v129 fun x130 => (ld w87 (Addr.add (⟨r35, 0, none⟩ : Addr) 3) fun v131 => asS v131 fun p132 n133 c134 => (ld w87 (Addr.add (⟨r35, 0, none⟩ : Addr) 4) fun v135 => asS v135 fun p136 n137 c138 => (st w87 (⟨r1, 0, none⟩ : Addr) (.int .i64 x126) fun w139 => (st w139 (Addr.add (⟨r1, 0, none⟩ : Addr) 1) (.int .i64 x128) fun w140 => (st w140 (Addr.add (⟨r1, 0, none⟩ : Addr) 2) (.int .i64 x130) fun w141 => (st w141 (Addr.add (⟨r1, 0, none⟩ : Addr) 3) (.slice p132 n133 c134) fun w142 => (st w142 (Addr.add (⟨r1, 0, none⟩ : Addr) 4) (.slice p136 n137 c138) fun w143 =>
(ld w143 (⟨r1, 0, none⟩ : Addr) fun v144 => asI .i64 v144 fun x145 => (ld w143 (Addr.add (⟨r1, 0, none⟩ : Addr) 1) fun v146 => asI .i64 v146 fun x147 => (ld w143 (Addr.add (⟨r1, 0, none⟩ : Addr) 2) fun v148 => asI .i64 v148 fun x149 => (ld w143 (Addr.add (⟨r1, 0, none⟩ : Addr) 3) fun v150 => asS v150 fun p151 n152 c153 => (ld w143 (Addr.add (⟨r1, 0, none⟩ : Addr) 4) fun v154 => asS v154 fun p155 n156 c157 => (Q (.tuple #[(.agg #[(.int .i64 x145), (.int .i64 x147), (.int .i64 x149), (.slice p151 n152 c153), (.slice p155 n156 c157)]), (.bool true)]) w143)))))))))))))))))))))))))
 (fun J44 => (dr r fun a45 => (ld w41 (Addr.add a45 8) fun v46 => asI .i64 v46 fun x47 =>
(cond (x47 != (0 : Int)) (st w41 (Addr.add (⟨r35, 0, none⟩ : Addr) 1) (.int .i64 (0 : Int)) fun w48 => (J44 [] w48)) (J44 [] w41))))))))))))))))))))))))))
theorem F28_link (r : Option Addr) (w : World) (Q : Value → World → Prop) : fnEv Tryz.prog Tryz.f28 h28 [(.pointer r)] w Q = F28 r w Q := by kernel_rfl
theorem F28_calls {r : Option Addr} {w : World} {Q : Value → World → Prop} (hF_ : F28 r w Q) : cl Tryz.prog 28 #[(.pointer r)] w Q :=
  calls_of_ev (fn := Tryz.f28) Tryz.func28 h28 (args := [(.pointer r)]) (by rw [F28_link]; exact hF_)
def h38 : Hint := (.s .d (.s .d (.s (.s .d (.l [(13, 3)] (.s .d (.s .d (.s (.s .d (.s (.o (ofL [0, 1, 2, 3, 4, 5, 6, 7, 8] .nil)) .d)) .d))))) .d)))
set_option linter.unusedVariables false in
def F38 (s1' : Option Addr) (s1'_n s1'_c : Nat) (s2' : Option Addr) (s2'_n s2'_c : Nat) (w : World) (Q : Value → World → Prop) : Prop :=
(cond (((s1'_n : Nat) : Int) != ((s2'_n : Nat) : Int))
(Q (.bool false) w)
(lp [(.int .i64 (0 : Int))] w fun J3 s1 w2 => asI .i64 (s1.getD 0 undef) fun x4 =>
(cond (decide (x4 < ((s1'_n : Nat) : Int)))
(lv x4 fun i_5 =>
(dw w2 fun w6 => (dr s1' fun a7 => (bnd i_5 s1'_n (ld w6 (Addr.add a7 (Int.toNat i_5 * 1)) fun v8 => asI .u8 v8 fun x9 => (dr s2' fun a10 => (bnd i_5 s2'_n (ld w6 (Addr.add a10 (Int.toNat i_5 * 1)) fun v11 => asI .u8 v11 fun x12 =>
(cond (x9 != x12)
(Q (.bool false) w6)
(J3 [(.int .i64 (IntKind.wrap .i64 (x4 + (1 : Int))))] w6))))))))))
(Q (.bool true) w2))))
theorem F38_link (s1' : Option Addr) (s1'_n s1'_c : Nat) (s2' : Option Addr) (s2'_n s2'_c : Nat) (w : World) (Q : Value → World → Prop) : fnEv Tryz.prog Tryz.f38 h38 [(.slice s1' s1'_n s1'_c), (.slice s2' s2'_n s2'_c)] w Q = F38 s1' s1'_n s1'_c s2' s2'_n s2'_c w Q := by kernel_rfl
theorem F38_calls {s1' : Option Addr} {s1'_n s1'_c : Nat} {s2' : Option Addr} {s2'_n s2'_c : Nat} {w : World} {Q : Value → World → Prop} (hF_ : F38 s1' s1'_n s1'_c s2' s2'_n s2'_c w Q) : cl Tryz.prog 38 #[(.slice s1' s1'_n s1'_c), (.slice s2' s2'_n s2'_c)] w Q :=
  calls_of_ev (fn := Tryz.f38) Tryz.func38 h38 (args := [(.slice s1' s1'_n s1'_c), (.slice s2' s2'_n s2'_c)]) (by rw [F38_link]; exact hF_)
def h39 : Hint := .d
set_option linter.unusedVariables false in
def F39 (b : Option Addr) (b_n b_c : Nat) (w : World) (Q : Value → World → Prop) : Prop :=
(cl Tryz.prog 88 #[(.slice b b_n b_c)] w fun v1 w2 => asI .i64 v1 fun x3 => (lv x3 fun s_4 =>
(nw w2 (.cells #[(.int .u8 (IntKind.wrap .u8 s_4)), (.int .u8 (IntKind.wrap .u8 (Int.fdiv s_4 (2 ^ (min (Int.toNat (8 : Int)) 64))))), (.int .u8 (IntKind.wrap .u8 (Int.fdiv s_4 (2 ^ (min (Int.toNat (16 : Int)) 64))))), (.int .u8 (IntKind.wrap .u8 (Int.fdiv s_4 (2 ^ (min (Int.toNat (24 : Int)) 64)))))] 5) fun r5 w6 => (nw w6 (.cells #[(.slice b b_n b_c), (.slice (some (⟨r5, 0, none⟩ : Addr)) 4 4)] 22) fun r7 w8 => (cl Tryz.prog 89 #[(.slice (some (⟨r7, 0, none⟩ : Addr)) 2 2)] w8 fun v9 w10 => asS v9 fun p11 n12 c13 =>
(Q (.slice p11 n12 c13) w10))))))
theorem F39_link (b : Option Addr) (b_n b_c : Nat) (w : World) (Q : Value → World → Prop) : fnEv Tryz.prog Tryz.f39 h39 [(.slice b b_n b_c)] w Q = F39 b b_n b_c w Q := by kernel_rfl
theorem F39_calls {b : Option Addr} {b_n b_c : Nat} {w : World} {Q : Value → World → Prop} (hF_ : F39 b b_n b_c w Q) : cl Tryz.prog 39 #[(.slice b b_n b_c)] w Q :=
  calls_of_ev (fn := Tryz.f39) Tryz.func39 h39 (args := [(.slice b b_n b_c)]) (by rw [F39_link]; exact hF_)
def h47 : Hint := .d
set_option linter.unusedVariables false in
def F47 (s : Option Addr) (s_n s_c : Nat) (f : Nat) (f_fs f_cs : Array Value) (w : World) (Q : Value → World → Prop) : Prop :=
(cl Tryz.prog 96 #[(.slice s s_n s_c), (.func (.func f) f_fs f_cs)] w fun v1 w2 => asI .i64 v1 fun x3 =>
(Q (.bool (decide (x3 ≥ (0 : Int)))) w2))
theorem F47_link (s : Option Addr) (s_n s_c : Nat) (f : Nat) (f_fs f_cs : Array Value) (w : World) (Q : Value → World → Prop) : fnEv Tryz.prog Tryz.f47 h47 [(.slice s s_n s_c), (.func (.func f) f_fs f_cs)] w Q = F47 s s_n s_c f f_fs f_cs w Q := by kernel_rfl
theorem F47_calls {s : Option Addr} {s_n s_c : Nat} {f : Nat} {f_fs f_cs : Array Value} {w : World} {Q : Value → World → Prop} (hF_ : F47 s s_n s_c f f_fs f_cs w Q) : cl Tryz.prog 47 #[(.slice s s_n s_c), (.func (.func f) f_fs f_cs)] w Q :=
  calls_of_ev (fn := Tryz.f47) Tryz.func47 h47 (args := [(.slice s s_n s_c), (.func (.func f) f_fs f_cs)]) (by rw [F47_link]; exact hF_)
def h48 : Hint := .d
set_option linter.unusedVariables false in
def F48 (g_0 : Int) (g_1 : Int) (g_2 : Int) (w : World) (Q : Value → World → Prop) : Prop :=
 (nw w (.cells #[(.int .i64 g_0), (.int .i64 g_1), (.int .i64 g_2)] 65) fun r1 w2 =>
(ld w2 (⟨r1, 0, none⟩ : Addr) fun v3 => asI .i64 v3 fun x4 => (ld w2 (Addr.add (⟨r1, 0, none⟩ : Addr) 1) fun v5 => asI .i64 v5 fun x6 => (ld w2 (Addr.add (⟨r1, 0, none⟩ : Addr) 2) fun v7 => asI .i64 v7 fun x8 => (cl Tryz.prog 49 #[(.agg #[(.int .i64 x4), (.int .i64 x6), (.int .i64 x8)])] w2 fun v9 w10 => asB v9 fun b11 =>
(Q (.bool (!b11)) w10))))))
theorem F48_link (g_0 : Int) (g_1 : Int) (g_2 : Int) (w : World) (Q : Value → World → Prop) : fnEv Tryz.prog Tryz.f48 h48 [(.agg #[(.int .i64 g_0), (.int .i64 g_1), (.int .i64 g_2)])] w Q = F48 g_0 g_1 g_2 w Q := by kernel_rfl
theorem F48_calls {g_0 : Int} {g_1 : Int} {g_2 : Int} {w : World} {Q : Value → World → Prop} (hF_ : F48 g_0 g_1 g_2 w Q) : cl Tryz.prog 48 #[(.agg #[(.int .i64 g_0), (.int .i64 g_1), (.int .i64 g_2)])] w Q :=
  calls_of_ev (fn := Tryz.f48) Tryz.func48 h48 (args := [(.agg #[(.int .i64 g_0), (.int .i64 g_1), (.int .i64 g_2)])]) (by rw [F48_link]; exact hF_)
def h49 : Hint := (.s .d (.s .d (.j [(3, 3)] (.j [(4, 4)] .d .d) (.j [(2, 4)] .d .d))))
set_option linter.unusedVariables false in
def F49 (g_0 : Int) (g_1 : Int) (g_2 : Int) (w : World) (Q : Value → World → Prop) : Prop :=
 (nw w (.cells #[(.int .i64 g_0), (.int .i64 g_1), (.int .i64 g_2)] 65) fun r1 w2 =>
(lv (9223372036854775807 : Int) fun most_3 =>
(jn (fun s4 w5 => asI .i64 (s4.getD 0 undef) fun x19 => (jn (fun s20 w21 => asB (s20.getD 0 undef) fun b36 => (Q (.bool b36) w21))
 (fun J22 => (ld w5 (⟨r1, 0, none⟩ : Addr) fun v23 => asI .i64 v23 fun x24 => (cl Tryz.prog 97 #[(.int .i64 x24)] w5 fun v25 w26 => asB v25 fun b27 => (cond b27 (ld w26 (Addr.add (⟨r1, 0, none⟩ : Addr) 1) fun v28 => asI .i64 v28 fun x29 => (cond (decide ((0 : Int) ≤ x29)) (ld w26 (Addr.add (⟨r1, 0, none⟩ : Addr) 1) fun v30 => asI .i64 v30 fun x31 => (cond (decide (x31 ≤ (256 : Int))) (cond (x19 == (9223372036854775807 : Int)) (J22 [(.bool true)] w26) (ld w26 (Addr.add (⟨r1, 0, none⟩ : Addr) 2) fun v32 => asI .i64 v32 fun x33 => (cond (decide ((0 : Int) ≤ x33)) (ld w26 (Addr.add (⟨r1, 0, none⟩ : Addr) 2) fun v34 => asI .i64 v34 fun x35 => (J22 [(.bool (decide (x35 ≤ x19)))] w26)) (J22 [(.bool false)] w26)))) (J22 [(.bool false)] w26))) (J22 [(.bool false)] w26))) (J22 [(.bool false)] w26)))))))
 (fun J6 => (jn (fun s7 w8 => asB (s7.getD 0 undef) fun b14 => (cond b14 (lv (0 : Int) fun most_15 => (J6 [(.int .i64 most_15)] w8)) (ld w8 (⟨r1, 0, none⟩ : Addr) fun v16 => asI .i64 v16 fun x17 =>
(cond (x17 == (3 : Int)) (lv (1 : Int) fun most_18 => (J6 [(.int .i64 most_18)] w8)) (J6 [(.int .i64 most_3)] w8)))))
 (fun J9 => (ld w2 (Addr.add (⟨r1, 0, none⟩ : Addr) 1) fun v10 => asI .i64 v10 fun x11 =>
(cond (decide (x11 > (0 : Int))) (J9 [(.bool (decide (x11 > (0 : Int))))] w2) (ld w2 (⟨r1, 0, none⟩ : Addr) fun v12 => asI .i64 v12 fun x13 => (J9 [(.bool (x13 == (4 : Int)))] w2))))))))))
theorem F49_link (g_0 : Int) (g_1 : Int) (g_2 : Int) (w : World) (Q : Value → World → Prop) : fnEv Tryz.prog Tryz.f49 h49 [(.agg #[(.int .i64 g_0), (.int .i64 g_1), (.int .i64 g_2)])] w Q = F49 g_0 g_1 g_2 w Q := by kernel_rfl
theorem F49_calls {g_0 : Int} {g_1 : Int} {g_2 : Int} {w : World} {Q : Value → World → Prop} (hF_ : F49 g_0 g_1 g_2 w Q) : cl Tryz.prog 49 #[(.agg #[(.int .i64 g_0), (.int .i64 g_1), (.int .i64 g_2)])] w Q :=
  calls_of_ev (fn := Tryz.f49) Tryz.func49 h49 (args := [(.agg #[(.int .i64 g_0), (.int .i64 g_1), (.int .i64 g_2)])]) (by rw [F49_link]; exact hF_)
def h50 : Hint := .d
set_option linter.unusedVariables false in
def F50 (s : Option Addr) (s_n s_c : Nat) (f : Nat) (f_fs f_cs : Array Value) (w : World) (Q : Value → World → Prop) : Prop :=
(cl Tryz.prog 98 #[(.slice s s_n s_c), (.func (.func f) f_fs f_cs)] w fun v1 w2 => asI .i64 v1 fun x3 =>
(Q (.bool (decide (x3 ≥ (0 : Int)))) w2))
theorem F50_link (s : Option Addr) (s_n s_c : Nat) (f : Nat) (f_fs f_cs : Array Value) (w : World) (Q : Value → World → Prop) : fnEv Tryz.prog Tryz.f50 h50 [(.slice s s_n s_c), (.func (.func f) f_fs f_cs)] w Q = F50 s s_n s_c f f_fs f_cs w Q := by kernel_rfl
theorem F50_calls {s : Option Addr} {s_n s_c : Nat} {f : Nat} {f_fs f_cs : Array Value} {w : World} {Q : Value → World → Prop} (hF_ : F50 s s_n s_c f f_fs f_cs w Q) : cl Tryz.prog 50 #[(.slice s s_n s_c), (.func (.func f) f_fs f_cs)] w Q :=
  calls_of_ev (fn := Tryz.f50) Tryz.func50 h50 (args := [(.slice s s_n s_c), (.func (.func f) f_fs f_cs)]) (by rw [F50_link]; exact hF_)
def h51 : Hint := .d
set_option linter.unusedVariables false in
def F51 (f_0 : ByteArray) (f_1 : Option Addr) (f_1_n f_1_c : Nat) (f_2 : Int) (f_3 : Option Addr) (f_3_n f_3_c : Nat) (f_4 : Option Addr) (f_4_n f_4_c : Nat) (w : World) (Q : Value → World → Prop) : Prop :=
 (nw w (.cells #[(.string f_0), (.slice f_1 f_1_n f_1_c), (.int .i64 f_2), (.slice f_3 f_3_n f_3_c), (.slice f_4 f_4_n f_4_c)] 42) fun r1 w2 =>
(ld w2 (⟨r1, 0, none⟩ : Addr) fun v3 => asY v3 fun s4 => (ld w2 (Addr.add (⟨r1, 0, none⟩ : Addr) 1) fun v5 => asS v5 fun p6 n7 c8 => (ld w2 (Addr.add (⟨r1, 0, none⟩ : Addr) 2) fun v9 => asI .i64 v9 fun x10 => (ld w2 (Addr.add (⟨r1, 0, none⟩ : Addr) 3) fun v11 => asS v11 fun p12 n13 c14 => (ld w2 (Addr.add (⟨r1, 0, none⟩ : Addr) 4) fun v15 => asS v15 fun p16 n17 c18 => (cl Tryz.prog 52 #[(.agg #[(.string s4), (.slice p6 n7 c8), (.int .i64 x10), (.slice p12 n13 c14), (.slice p16 n17 c18)])] w2 fun v19 w20 => asB v19 fun b21 =>
(Q (.bool (!b21)) w20))))))))
theorem F51_link (f_0 : ByteArray) (f_1 : Option Addr) (f_1_n f_1_c : Nat) (f_2 : Int) (f_3 : Option Addr) (f_3_n f_3_c : Nat) (f_4 : Option Addr) (f_4_n f_4_c : Nat) (w : World) (Q : Value → World → Prop) : fnEv Tryz.prog Tryz.f51 h51 [(.agg #[(.string f_0), (.slice f_1 f_1_n f_1_c), (.int .i64 f_2), (.slice f_3 f_3_n f_3_c), (.slice f_4 f_4_n f_4_c)])] w Q = F51 f_0 f_1 f_1_n f_1_c f_2 f_3 f_3_n f_3_c f_4 f_4_n f_4_c w Q := by kernel_rfl
theorem F51_calls {f_0 : ByteArray} {f_1 : Option Addr} {f_1_n f_1_c : Nat} {f_2 : Int} {f_3 : Option Addr} {f_3_n f_3_c : Nat} {f_4 : Option Addr} {f_4_n f_4_c : Nat} {w : World} {Q : Value → World → Prop} (hF_ : F51 f_0 f_1 f_1_n f_1_c f_2 f_3 f_3_n f_3_c f_4 f_4_n f_4_c w Q) : cl Tryz.prog 51 #[(.agg #[(.string f_0), (.slice f_1 f_1_n f_1_c), (.int .i64 f_2), (.slice f_3 f_3_n f_3_c), (.slice f_4 f_4_n f_4_c)])] w Q :=
  calls_of_ev (fn := Tryz.f51) Tryz.func51 h51 (args := [(.agg #[(.string f_0), (.slice f_1 f_1_n f_1_c), (.int .i64 f_2), (.slice f_3 f_3_n f_3_c), (.slice f_4 f_4_n f_4_c)])]) (by rw [F51_link]; exact hF_)
def h52 : Hint := (.s .d (.s .d (.j [(4, 4)] .d (.j [(2, 4)] (.o (ofL [0, 1, 2, 3, 4, 5, 6, 7, 8, 9, 10, 11, 12, 13, 14, 15, 16, 17, 18, 19, 20, 21, 22, 23] .nil)) .d))))
set_option linter.unusedVariables false in
def F52 (f_0 : ByteArray) (f_1 : Option Addr) (f_1_n f_1_c : Nat) (f_2 : Int) (f_3 : Option Addr) (f_3_n f_3_c : Nat) (f_4 : Option Addr) (f_4_n f_4_c : Nat) (w : World) (Q : Value → World → Prop) : Prop :=
 (nw w (.cells #[(.string f_0), (.slice f_1 f_1_n f_1_c), (.int .i64 f_2), (.slice f_3 f_3_n f_3_c), (.slice f_4 f_4_n f_4_c)] 42) fun r1 w2 =>
(ld w2 (Addr.add (⟨r1, 0, none⟩ : Addr) 1) fun v3 => asS v3 fun p4 n5 c6 => (lv (n5 : Int) fun n_7 =>
(jn (fun s8 w9 => asB (s8.getD 0 undef) fun b38 => (jn (fun s39 w40 => asB (s39.getD 0 undef) fun b65 => (Q (.bool b65) w40))
 (fun J41 => (dw w9 fun w42 => (cond b38 (ld w42 (Addr.add (⟨r1, 0, none⟩ : Addr) 3) fun v43 => asS v43 fun p44 n45 c46 => (cond (decide (n_7 ≤ (n45 : Int))) (ld w42 (Addr.add (⟨r1, 0, none⟩ : Addr) 1) fun v47 => asS v47 fun p48 n49 c50 => (ld w42 (Addr.add (⟨r1, 0, none⟩ : Addr) 3) fun v51 => asS v51 fun p52 n53 c54 => (bn2 n_7 c54 (cl Tryz.prog 57 #[(.slice p48 n49 c50), (.slice p52 (Int.toNat n_7) c54)] w42 fun v55 w56 => asB v55 fun b57 => (hd w56 (Addr.add (⟨r1, 0, none⟩ : Addr) 3) (.slice p52 n53 c54) (hd w56 (Addr.add (⟨r1, 0, none⟩ : Addr) 3) (.slice p44 n45 c46) (cond b57 (ld w56 (Addr.add (⟨r1, 0, none⟩ : Addr) 4) fun v58 => asS v58 fun p59 n60 c61 => (cl Tryz.prog 101 #[(.slice p59 n60 c61), (.func (.func 102) #[] #[])] w56 fun v62 w63 => asB v62 fun b64 => (hd w63 (Addr.add (⟨r1, 0, none⟩ : Addr) 3) (.slice p52 n53 c54) (hd w63 (Addr.add (⟨r1, 0, none⟩ : Addr) 3) (.slice p44 n45 c46) (J41 [(.bool (!b64))] w63))))) (J41 [(.bool false)] w56)))))))) (J41 [(.bool false)] w42))) (J41 [(.bool false)] w42))))))
 (fun J10 => (ld w2 (⟨r1, 0, none⟩ : Addr) fun v11 => asY v11 fun s12 => (cl Tryz.prog 99 #[(.string s12)] w2 fun v13 w14 => asB v13 fun b15 => (cond b15 (cond (decide (n_7 ≤ (8 : Int))) (ld w14 (Addr.add (⟨r1, 0, none⟩ : Addr) 3) fun v16 => asS v16 fun p17 n18 c19 => (cond (decide ((n18 : Int) ≤ (32 : Int))) (ld w14 (Addr.add (⟨r1, 0, none⟩ : Addr) 4) fun v20 => asS v20 fun p21 n22 c23 => (cond (decide ((n22 : Int) ≤ (32768 : Int))) (ld w14 (Addr.add (⟨r1, 0, none⟩ : Addr) 3) fun v24 => asS v24 fun p25 n26 c27 => (cl Tryz.prog 100 #[(.slice p25 n26 c27)] w14 fun v28 w29 => asB v28 fun b30 => (cond b30 (ld w29 (Addr.add (⟨r1, 0, none⟩ : Addr) 2) fun v31 => asI .i64 v31 fun x32 => (cond (x32 == (0 : Int)) (J10 [(.bool true)] w29) (ld w29 (Addr.add (⟨r1, 0, none⟩ : Addr) 2) fun v33 => asI .i64 v33 fun x34 => (cl Tryz.prog 97 #[(.int .i64 x34)] w29 fun v35 w36 => asB v35 fun b37 => (J10 [(.bool b37)] w36))))) (J10 [(.bool false)] w29)))) (J10 [(.bool false)] w14))) (J10 [(.bool false)] w14))) (J10 [(.bool false)] w14)) (J10 [(.bool false)] w14)))))))))
theorem F52_link (f_0 : ByteArray) (f_1 : Option Addr) (f_1_n f_1_c : Nat) (f_2 : Int) (f_3 : Option Addr) (f_3_n f_3_c : Nat) (f_4 : Option Addr) (f_4_n f_4_c : Nat) (w : World) (Q : Value → World → Prop) : fnEv Tryz.prog Tryz.f52 h52 [(.agg #[(.string f_0), (.slice f_1 f_1_n f_1_c), (.int .i64 f_2), (.slice f_3 f_3_n f_3_c), (.slice f_4 f_4_n f_4_c)])] w Q = F52 f_0 f_1 f_1_n f_1_c f_2 f_3 f_3_n f_3_c f_4 f_4_n f_4_c w Q := by kernel_rfl
theorem F52_calls {f_0 : ByteArray} {f_1 : Option Addr} {f_1_n f_1_c : Nat} {f_2 : Int} {f_3 : Option Addr} {f_3_n f_3_c : Nat} {f_4 : Option Addr} {f_4_n f_4_c : Nat} {w : World} {Q : Value → World → Prop} (hF_ : F52 f_0 f_1 f_1_n f_1_c f_2 f_3 f_3_n f_3_c f_4 f_4_n f_4_c w Q) : cl Tryz.prog 52 #[(.agg #[(.string f_0), (.slice f_1 f_1_n f_1_c), (.int .i64 f_2), (.slice f_3 f_3_n f_3_c), (.slice f_4 f_4_n f_4_c)])] w Q :=
  calls_of_ev (fn := Tryz.f52) Tryz.func52 h52 (args := [(.agg #[(.string f_0), (.slice f_1 f_1_n f_1_c), (.int .i64 f_2), (.slice f_3 f_3_n f_3_c), (.slice f_4 f_4_n f_4_c)])]) (by rw [F52_link]; exact hF_)
def h53 : Hint := .d
set_option linter.unusedVariables false in
def F53 (x_0 : Option Addr) (x_0_n x_0_c : Nat) (x_1 : Option Addr) (x_1_n x_1_c : Nat) (w : World) (Q : Value → World → Prop) : Prop :=
 (nw w (.cells #[(.slice x_0 x_0_n x_0_c), (.slice x_1 x_1_n x_1_c)] 31) fun r1 w2 => (lv (0 : Int) fun y3 =>
(ld w2 (⟨r1, 0, none⟩ : Addr) fun v4 => asS v4 fun p5 n6 c7 => (ld w2 (Addr.add (⟨r1, 0, none⟩ : Addr) 1) fun v8 => asS v8 fun p9 n10 c11 => (cl Tryz.prog 103 #[(.agg #[(.slice p5 n6 c7), (.slice p9 n10 c11)])] w2 fun v12 w13 => asT 2 v12 fun t14 => asS (t14 0) fun p15 n16 c17 => asI .i64 (t14 1) fun x18 => (lv x18 fun e_19 =>
(lv e_19 fun y20 =>
(Q (.int .i64 y20) w13))))))))
theorem F53_link (x_0 : Option Addr) (x_0_n x_0_c : Nat) (x_1 : Option Addr) (x_1_n x_1_c : Nat) (w : World) (Q : Value → World → Prop) : fnEv Tryz.prog Tryz.f53 h53 [(.agg #[(.slice x_0 x_0_n x_0_c), (.slice x_1 x_1_n x_1_c)])] w Q = F53 x_0 x_0_n x_0_c x_1 x_1_n x_1_c w Q := by kernel_rfl
theorem F53_calls {x_0 : Option Addr} {x_0_n x_0_c : Nat} {x_1 : Option Addr} {x_1_n x_1_c : Nat} {w : World} {Q : Value → World → Prop} (hF_ : F53 x_0 x_0_n x_0_c x_1 x_1_n x_1_c w Q) : cl Tryz.prog 53 #[(.agg #[(.slice x_0 x_0_n x_0_c), (.slice x_1 x_1_n x_1_c)])] w Q :=
  calls_of_ev (fn := Tryz.f53) Tryz.func53 h53 (args := [(.agg #[(.slice x_0 x_0_n x_0_c), (.slice x_1 x_1_n x_1_c)])]) (by rw [F53_link]; exact hF_)
def h54 : Hint := .d
set_option linter.unusedVariables false in
def F54 (s : Option Addr) (s_n s_c : Nat) (f : Nat) (f_fs f_cs : Array Value) (w : World) (Q : Value → World → Prop) : Prop :=
(cl Tryz.prog 104 #[(.slice s s_n s_c), (.func (.func f) f_fs f_cs)] w fun v1 w2 => asI .i64 v1 fun x3 =>
(Q (.bool (decide (x3 ≥ (0 : Int)))) w2))
theorem F54_link (s : Option Addr) (s_n s_c : Nat) (f : Nat) (f_fs f_cs : Array Value) (w : World) (Q : Value → World → Prop) : fnEv Tryz.prog Tryz.f54 h54 [(.slice s s_n s_c), (.func (.func f) f_fs f_cs)] w Q = F54 s s_n s_c f f_fs f_cs w Q := by kernel_rfl
theorem F54_calls {s : Option Addr} {s_n s_c : Nat} {f : Nat} {f_fs f_cs : Array Value} {w : World} {Q : Value → World → Prop} (hF_ : F54 s s_n s_c f f_fs f_cs w Q) : cl Tryz.prog 54 #[(.slice s s_n s_c), (.func (.func f) f_fs f_cs)] w Q :=
  calls_of_ev (fn := Tryz.f54) Tryz.func54 h54 (args := [(.slice s s_n s_c), (.func (.func f) f_fs f_cs)]) (by rw [F54_link]; exact hF_)
def h55 : Hint := .d
set_option linter.unusedVariables false in
def F55  (w : World) (Q : Value → World → Prop) : Prop :=
(nw w (.cells #[(.int .i64 (1 : Int))] 3) fun r1 w2 => (nw w2 (.cells #[(.int .i64 (1 : Int))] 3) fun r3 w4 => (nw w4 (.cells #[(.int .i64 (1 : Int)), (.int .i64 (1 : Int))] 3) fun r5 w6 => (nw w6 (.cells #[(.int .i64 (4 : Int)), (.int .i64 (4 : Int))] 3) fun r7 w8 => (nw w8 (.cells #[(.string (⟨#[115, 116, 97, 114, 116]⟩ : ByteArray)), (.slice none 0 0), (.int .i64 (0 : Int)), (.string (⟨#[106, 111, 105, 110]⟩ : ByteArray)), (.slice (some (⟨r1, 0, none⟩ : Addr)) 1 1), (.int .i64 (0 : Int)), (.string (⟨#[108, 101, 97, 118, 101]⟩ : ByteArray)), (.slice (some (⟨r3, 0, none⟩ : Addr)) 1 1), (.int .i64 (0 : Int)), (.string (⟨#[105, 110, 112, 117, 116]⟩ : ByteArray)), (.slice (some (⟨r5, 0, none⟩ : Addr)) 2 2), (.int .i64 (0 : Int)), (.string (⟨#[116, 105, 99, 107]⟩ : ByteArray)), (.slice none 0 0), (.int .i64 (0 : Int)), (.string (⟨#[116, 111, 117, 99, 104]⟩ : ByteArray)), (.slice (some (⟨r7, 0, none⟩ : Addr)) 2 2), (.int .i64 (0 : Int))] 141) fun r9 w10 =>
(Q (.slice (some (⟨r9, 0, none⟩ : Addr)) 6 6) w10))))))
theorem F55_link  (w : World) (Q : Value → World → Prop) : fnEv Tryz.prog Tryz.f55 h55 [] w Q = F55  w Q := by kernel_rfl
theorem F55_calls  {w : World} {Q : Value → World → Prop} (hF_ : F55  w Q) : cl Tryz.prog 55 #[] w Q :=
  calls_of_ev (fn := Tryz.f55) Tryz.func55 h55 (args := []) (by rw [F55_link]; exact hF_)
def h56 : Hint := (.s .d (.j [(3, 4)] .d .d))
set_option linter.unusedVariables false in
def F56 (b_0 : ByteArray) (b_1 : Option Addr) (b_1_n b_1_c : Nat) (b_2 : Int) (free0_p : Option Addr) (w : World) (Q : Value → World → Prop) : Prop :=
 (nw w (.cells #[(.string b_0), (.slice b_1 b_1_n b_1_c), (.int .i64 b_2)] 141) fun r1 w2 =>
(jn (fun s3 w4 => asB (s3.getD 0 undef) fun b26 => (Q (.bool b26) w4))
 (fun J5 => (ld w2 (⟨r1, 0, none⟩ : Addr) fun v6 => asY v6 fun s7 => (dr free0_p fun a8 => (ld w2 a8 fun v9 => asY v9 fun s10 => (cond (ByteArray.toList s7 == ByteArray.toList s10) (dr free0_p fun a11 => (ld w2 (Addr.add a11 2) fun v12 => asI .i64 v12 fun x13 => (cond (x13 != (0 : Int)) (J5 [(.bool true)] w2) (ld w2 (Addr.add (⟨r1, 0, none⟩ : Addr) 1) fun v14 => asS v14 fun p15 n16 c17 => (dr free0_p fun a18 => (ld w2 (Addr.add a18 1) fun v19 => asS v19 fun p20 n21 c22 => (cl Tryz.prog 57 #[(.slice p15 n16 c17), (.slice p20 n21 c22)] w2 fun v23 w24 => asB v23 fun b25 => (J5 [(.bool (!b25))] w24)))))))) (J5 [(.bool false)] w2))))))))
theorem F56_link (b_0 : ByteArray) (b_1 : Option Addr) (b_1_n b_1_c : Nat) (b_2 : Int) (free0_p : Option Addr) (w : World) (Q : Value → World → Prop) : fnEv Tryz.prog Tryz.f56 h56 [(.agg #[(.string b_0), (.slice b_1 b_1_n b_1_c), (.int .i64 b_2)]), (.pointer free0_p)] w Q = F56 b_0 b_1 b_1_n b_1_c b_2 free0_p w Q := by kernel_rfl
theorem F56_calls {b_0 : ByteArray} {b_1 : Option Addr} {b_1_n b_1_c : Nat} {b_2 : Int} {free0_p : Option Addr} {w : World} {Q : Value → World → Prop} (hF_ : F56 b_0 b_1 b_1_n b_1_c b_2 free0_p w Q) : cl Tryz.prog 56 #[(.agg #[(.string b_0), (.slice b_1 b_1_n b_1_c), (.int .i64 b_2)]), (.pointer free0_p)] w Q :=
  calls_of_ev (fn := Tryz.f56) Tryz.func56 h56 (args := [(.agg #[(.string b_0), (.slice b_1 b_1_n b_1_c), (.int .i64 b_2)]), (.pointer free0_p)]) (by rw [F56_link]; exact hF_)
def h57 : Hint := (.s .d (.s .d (.s (.s .d (.l [(13, 3)] (.s .d (.s .d (.s (.s .d (.s (.o (ofL [0, 1, 2, 3, 4, 5, 6, 7, 8] .nil)) .d)) .d))))) .d)))
set_option linter.unusedVariables false in
def F57 (s1' : Option Addr) (s1'_n s1'_c : Nat) (s2' : Option Addr) (s2'_n s2'_c : Nat) (w : World) (Q : Value → World → Prop) : Prop :=
(cond (((s1'_n : Nat) : Int) != ((s2'_n : Nat) : Int))
(Q (.bool false) w)
(lp [(.int .i64 (0 : Int))] w fun J3 s1 w2 => asI .i64 (s1.getD 0 undef) fun x4 =>
(cond (decide (x4 < ((s1'_n : Nat) : Int)))
(lv x4 fun i_5 =>
(dw w2 fun w6 => (dr s1' fun a7 => (bnd i_5 s1'_n (ld w6 (Addr.add a7 (Int.toNat i_5 * 1)) fun v8 => asI .i64 v8 fun x9 => (dr s2' fun a10 => (bnd i_5 s2'_n (ld w6 (Addr.add a10 (Int.toNat i_5 * 1)) fun v11 => asI .i64 v11 fun x12 =>
(cond (x9 != x12)
(Q (.bool false) w6)
(J3 [(.int .i64 (IntKind.wrap .i64 (x4 + (1 : Int))))] w6))))))))))
(Q (.bool true) w2))))
theorem F57_link (s1' : Option Addr) (s1'_n s1'_c : Nat) (s2' : Option Addr) (s2'_n s2'_c : Nat) (w : World) (Q : Value → World → Prop) : fnEv Tryz.prog Tryz.f57 h57 [(.slice s1' s1'_n s1'_c), (.slice s2' s2'_n s2'_c)] w Q = F57 s1' s1'_n s1'_c s2' s2'_n s2'_c w Q := by kernel_rfl
theorem F57_calls {s1' : Option Addr} {s1'_n s1'_c : Nat} {s2' : Option Addr} {s2'_n s2'_c : Nat} {w : World} {Q : Value → World → Prop} (hF_ : F57 s1' s1'_n s1'_c s2' s2'_n s2'_c w Q) : cl Tryz.prog 57 #[(.slice s1' s1'_n s1'_c), (.slice s2' s2'_n s2'_c)] w Q :=
  calls_of_ev (fn := Tryz.f57) Tryz.func57 h57 (args := [(.slice s1' s1'_n s1'_c), (.slice s2' s2'_n s2'_c)]) (by rw [F57_link]; exact hF_)
def h59 : Hint := (.s .d (.s (.j [(60, 4)] .d .d) (.s (.s .d (.l [(67, 3)] (.s .d (.s .d (.s (.s .d (.j [(89, 4)] (.o (ofL [0, 1, 2, 3, 4, 5, 6, 7, 8, 9, 10, 11, 12, 13, 14, 15, 16, 17] .nil)) .d)) .d))))) (.s (.s .d (.l [(101, 3)] .d)) .d))))
set_option linter.unusedVariables false in
def F59 (m : Option Addr) (state : Option Addr) (state_n state_c : Nat) (fn : Int) (args : Option Addr) (args_n args_c : Nat) (fuel : Int) (w : World) (Q : Value → World → Prop) : Prop :=
(jn (fun s1 w2 => asB (s1.getD 0 undef) fun b24 => (cond b24
(Q (.bool false) w2)
(dr m fun a25 => (ld w2 a25 fun v26 => asS v26 fun p27 n28 c29 =>
(lp [(.int .i64 (0 : Int))] w2 fun J32 s30 w31 => asI .i64 (s30.getD 0 undef) fun x33 =>
(cond (decide (x33 < (n28 : Int)))
(dr p27 fun a34 => (bnd x33 n28 (ld w31 (Addr.add a34 (Int.toNat x33 * 3)) fun v35 => asI .i64 v35 fun x36 => (ld w31 (Addr.add (Addr.add a34 (Int.toNat x33 * 3)) 1) fun v37 => asI .i64 v37 fun x38 => (ld w31 (Addr.add (Addr.add a34 (Int.toNat x33 * 3)) 2) fun v39 => asI .i64 v39 fun x40 => (nw w31 (.cells #[(.int .i64 (0 : Int)), (.int .i64 (0 : Int)), (.int .i64 (0 : Int))] 65) fun r41 w42 => (lv x33 fun i_43 => (st w42 (⟨r41, 0, none⟩ : Addr) (.int .i64 x36) fun w44 => (st w44 (Addr.add (⟨r41, 0, none⟩ : Addr) 1) (.int .i64 x38) fun w45 => (st w45 (Addr.add (⟨r41, 0, none⟩ : Addr) 2) (.int .i64 x40) fun w46 =>
(jn (fun s47 w48 => asB (s47.getD 0 undef) fun b75 => (cond b75
(Q (.bool false) w48)
(J32 [(.int .i64 (IntKind.wrap .i64 (x33 + (1 : Int))))] w48)))
 (fun J49 => (dw w46 fun w50 => (dr state fun a51 => (bnd i_43 state_n (ld w50 (Addr.add a51 (Int.toNat i_43 * 1)) fun v52 => asS v52 fun p53 n54 c55 => (ld w50 (⟨r41, 0, none⟩ : Addr) fun v56 => asI .i64 v56 fun x57 => (ld w50 (Addr.add (⟨r41, 0, none⟩ : Addr) 1) fun v58 => asI .i64 v58 fun x59 => (ld w50 (Addr.add (⟨r41, 0, none⟩ : Addr) 2) fun v60 => asI .i64 v60 fun x61 => (cl Tryz.prog 24 #[(.agg #[(.int .i64 x57), (.int .i64 x59), (.int .i64 x61)])] w50 fun v62 w63 => asI .i64 v62 fun x64 => (hd w63 (Addr.add a51 (Int.toNat i_43 * 1)) (.slice p53 n54 c55) (cond ((n54 : Int) != x64) (J49 [(.bool true)] w63) (ld w63 (⟨r41, 0, none⟩ : Addr) fun v65 => asI .i64 v65 fun x66 => (dr state fun a67 => (bnd i_43 state_n (ld w63 (Addr.add a67 (Int.toNat i_43 * 1)) fun v68 => asS v68 fun p69 n70 c71 => (cl Tryz.prog 109 #[(.int .i64 x66), (.slice p69 n70 c71)] w63 fun v72 w73 => asB v72 fun b74 => (hd w73 (Addr.add a51 (Int.toNat i_43 * 1)) (.slice p53 n54 c55) (J49 [(.bool (!b74))] w73)))))))))))))))))))))))))))))
(dr m fun a76 => (ld w31 (Addr.add a76 1) fun v77 => asS v77 fun p78 n79 c80 => (dr p78 fun a81 => (bnd fn n79 (ld w31 (Addr.add (Addr.add a81 (Int.toNat fn * 5)) 1) fun v82 => asS v82 fun p83 n84 c85 =>
(lp [(.int .i64 (0 : Int))] w31 fun J88 s86 w87 => asI .i64 (s86.getD 0 undef) fun x89 =>
(cond (decide (x89 < (n84 : Int)))
(dr p83 fun a90 => (bnd x89 n84 (ld w87 (Addr.add a90 (Int.toNat x89 * 1)) fun v91 => asI .i64 v91 fun x92 => (lv x89 fun i_93 => (lv x92 fun t_94 =>
(dr args fun a95 => (bnd i_93 args_n (ld w87 (Addr.add a95 (Int.toNat i_93 * 1)) fun v96 => asI .i64 v96 fun x97 => (nw w87 (.cells #[(.int .i64 x97)] 3) fun r98 w99 => (cl Tryz.prog 109 #[(.int .i64 t_94), (.slice (some (⟨r98, 0, none⟩ : Addr)) 1 1)] w99 fun v100 w101 => asB v100 fun b102 =>
(cond (!b102)
(Q (.bool false) w101)
(J88 [(.int .i64 (IntKind.wrap .i64 (x89 + (1 : Int))))] w101))))))))))))
(Q (.bool true) w87))))))))))))))
 (fun J3 => (dr m fun a4 => (ld w a4 fun v5 => asS v5 fun p6 n7 c8 => (cond ((state_n : Int) != (n7 : Int)) (J3 [(.bool true)] w) (cond (decide (fn < (0 : Int))) (J3 [(.bool true)] w) (dr m fun a9 => (ld w (Addr.add a9 1) fun v10 => asS v10 fun p11 n12 c13 => (cond (decide (fn ≥ (n12 : Int))) (J3 [(.bool true)] w) (cond (decide (fuel < (0 : Int))) (J3 [(.bool true)] w) (cond (decide (fuel > (1048576 : Int))) (J3 [(.bool true)] w) (dr m fun a14 => (ld w (Addr.add a14 1) fun v15 => asS v15 fun p16 n17 c18 => (dr p16 fun a19 => (bnd fn n17 (ld w (Addr.add (Addr.add a19 (Int.toNat fn * 5)) 1) fun v20 => asS v20 fun p21 n22 c23 => (J3 [(.bool ((args_n : Int) != (n22 : Int)))] w)))))))))))))))))
theorem F59_link (m : Option Addr) (state : Option Addr) (state_n state_c : Nat) (fn : Int) (args : Option Addr) (args_n args_c : Nat) (fuel : Int) (w : World) (Q : Value → World → Prop) : fnEv Tryz.prog Tryz.f59 h59 [(.pointer m), (.slice state state_n state_c), (.int .i64 fn), (.slice args args_n args_c), (.int .i64 fuel)] w Q = F59 m state state_n state_c fn args args_n args_c fuel w Q := by kernel_rfl
theorem F59_calls {m : Option Addr} {state : Option Addr} {state_n state_c : Nat} {fn : Int} {args : Option Addr} {args_n args_c : Nat} {fuel : Int} {w : World} {Q : Value → World → Prop} (hF_ : F59 m state state_n state_c fn args args_n args_c fuel w Q) : cl Tryz.prog 59 #[(.pointer m), (.slice state state_n state_c), (.int .i64 fn), (.slice args args_n args_c), (.int .i64 fuel)] w Q :=
  calls_of_ev (fn := Tryz.f59) Tryz.func59 h59 (args := [(.pointer m), (.slice state state_n state_c), (.int .i64 fn), (.slice args args_n args_c), (.int .i64 fuel)]) (by rw [F59_link]; exact hF_)
def h60 : Hint := (.s .d (.s .d (.s .d (.o (ofL [0, 1, 2, 3, 4, 5, 6, 7, 8, 9, 10, 11, 12, 13, 14, 15, 16, 17] .nil)))))
set_option linter.unusedVariables false in
def F60 (r : Option Addr) (fn : Int) (args : Option Addr) (args_n args_c : Nat) (w : World) (Q : Value → World → Prop) : Prop :=
 (dr r fun a1 => (ld w a1 fun v2 => asP v2 fun p3 => (dr p3 fun a4 => (ld w (Addr.add a4 1) fun v5 => asS v5 fun p6 n7 c8 => (dr p6 fun a9 => (bnd fn n7
(ld w (Addr.add (Addr.add a9 (Int.toNat fn * 5)) 3) fun v10 => asS v10 fun p11 n12 c13 => (rn Tryz.prog (Instr.makeSlice 23 (.int .i64 (n12 : Int)) (.int .i64 (n12 : Int))) w fun v14 w15 => asS v14 fun p16 n17 c18 =>
(rn Tryz.prog (Builtin.copy_ #[23, 23] 3 #[(.slice p16 n17 c18), (.slice args args_n args_c)]) w15 fun v19 w20 => asI .i64 v19 fun x21 =>
(dw w20 fun w22 => (dr r fun a23 => (ld w22 (Addr.add a23 3) fun v24 => asS v24 fun p25 n26 c27 => (dr r fun a28 => (ld w22 (Addr.add a28 4) fun v29 => asS v29 fun p30 n31 c32 => (nw w22 (.cells #[(.pointer (some (Addr.add a9 (Int.toNat fn * 5)))), (.int .i64 (0 : Int)), (.slice p16 n17 c18), (.int .i64 (n31 : Int))] 217) fun r33 w34 => (hd w34 (Addr.add a28 4) (.slice p30 n31 c32) (hd w34 (Addr.add a23 3) (.slice p25 n26 c27) (rn Tryz.prog (Builtin.append_ #[148, 148] 148 #[(.slice p25 n26 c27), (.slice (some (⟨r33, 0, none⟩ : Addr)) 1 1)]) w34 fun v35 w36 => asS v35 fun p37 n38 c39 => (hd w36 (Addr.add a28 4) (.slice p30 n31 c32) (dr r fun a40 => (st w36 (Addr.add a40 3) (.slice p37 n38 c39) fun w41 => (Q (.tuple #[]) w41))))))))))))))))))))))
theorem F60_link (r : Option Addr) (fn : Int) (args : Option Addr) (args_n args_c : Nat) (w : World) (Q : Value → World → Prop) : fnEv Tryz.prog Tryz.f60 h60 [(.pointer r), (.int .i64 fn), (.slice args args_n args_c)] w Q = F60 r fn args args_n args_c w Q := by kernel_rfl
theorem F60_calls {r : Option Addr} {fn : Int} {args : Option Addr} {args_n args_c : Nat} {w : World} {Q : Value → World → Prop} (hF_ : F60 r fn args args_n args_c w Q) : cl Tryz.prog 60 #[(.pointer r), (.int .i64 fn), (.slice args args_n args_c)] w Q :=
  calls_of_ev (fn := Tryz.f60) Tryz.func60 h60 (args := [(.pointer r), (.int .i64 fn), (.slice args args_n args_c)]) (by rw [F60_link]; exact hF_)
def h62 : Hint := .d
set_option linter.unusedVariables false in
def F62 (r : Option Addr) (v : Int) (w : World) (Q : Value → World → Prop) : Prop :=
 (dr r fun a1 => (ld w (Addr.add a1 4) fun v2 => asS v2 fun p3 n4 c5 => (nw w (.cells #[(.int .i64 v)] 3) fun r6 w7 => (rn Tryz.prog (Builtin.append_ #[23, 23] 23 #[(.slice p3 n4 c5), (.slice (some (⟨r6, 0, none⟩ : Addr)) 1 1)]) w7 fun v8 w9 => asS v8 fun p10 n11 c12 => (dr r fun a13 => (st w9 (Addr.add a13 4) (.slice p10 n11 c12) fun w14 => (Q (.tuple #[]) w14)))))))
theorem F62_link (r : Option Addr) (v : Int) (w : World) (Q : Value → World → Prop) : fnEv Tryz.prog Tryz.f62 h62 [(.pointer r), (.int .i64 v)] w Q = F62 r v w Q := by kernel_rfl
theorem F62_calls {r : Option Addr} {v : Int} {w : World} {Q : Value → World → Prop} (hF_ : F62 r v w Q) : cl Tryz.prog 62 #[(.pointer r), (.int .i64 v)] w Q :=
  calls_of_ev (fn := Tryz.f62) Tryz.func62 h62 (args := [(.pointer r), (.int .i64 v)]) (by rw [F62_link]; exact hF_)
def h63 : Hint := .d
set_option linter.unusedVariables false in
def F63 (is : Bool) (w : World) (Q : Value → World → Prop) : Prop :=
 (lv (0 : Int) fun y1 =>
(cond is (lv (1 : Int) fun y2 =>
(Q (.int .i64 y2) w))
(lv (0 : Int) fun y3 =>
(Q (.int .i64 y3) w))))
theorem F63_link (is : Bool) (w : World) (Q : Value → World → Prop) : fnEv Tryz.prog Tryz.f63 h63 [(.bool is)] w Q = F63 is w Q := by kernel_rfl
theorem F63_calls {is : Bool} {w : World} {Q : Value → World → Prop} (hF_ : F63 is w Q) : cl Tryz.prog 63 #[(.bool is)] w Q :=
  calls_of_ev (fn := Tryz.f63) Tryz.func63 h63 (args := [(.bool is)]) (by rw [F63_link]; exact hF_)
def h64 : Hint := (.s .d (.s (.s .d (.l [(8, 3)] .d)) .d))
set_option linter.unusedVariables false in
def F64 (s : ByteArray) (may : Nat) (may_fs may_cs : Array Value) (w : World) (Q : Value → World → Prop) : Prop :=
 (lv (0 : Int) fun y1 =>
(lp [(.int .i64 (0 : Int))] w fun J4 s2 w3 => asI .i64 (s2.getD 0 undef) fun x5 =>
(cond (decide (x5 < (ByteArray.size s : Int)))
(lv x5 fun i_6 =>
(bnd i_6 (ByteArray.size s) (cond (callOk Tryz.prog may) (cl Tryz.prog may (may_fs ++ #[(.int .u8 (byteAt s i_6))] ++ may_cs) w3 fun v7 w8 => asB v7 fun b9 =>
(cond (!b9) (lv i_6 fun y10 =>
(Q (.int .i64 y10) w8))
(J4 [(.int .i64 (IntKind.wrap .i64 (x5 + (1 : Int))))] w8))) (xt Tryz.prog may (may_fs ++ #[(.int .u8 (byteAt s i_6))] ++ may_cs) w3 fun v7 w8 => asB v7 fun b9 =>
(cond (!b9) (lv i_6 fun y10 =>
(Q (.int .i64 y10) w8))
(J4 [(.int .i64 (IntKind.wrap .i64 (x5 + (1 : Int))))] w8))))))
(lv (ByteArray.size s : Int) fun y11 =>
(Q (.int .i64 y11) w3)))))
theorem F64_link (s : ByteArray) (may : Nat) (may_fs may_cs : Array Value) (w : World) (Q : Value → World → Prop) : fnEv Tryz.prog Tryz.f64 h64 [(.string s), (.func (.func may) may_fs may_cs)] w Q = F64 s may may_fs may_cs w Q := by kernel_rfl
theorem F64_calls {s : ByteArray} {may : Nat} {may_fs may_cs : Array Value} {w : World} {Q : Value → World → Prop} (hF_ : F64 s may may_fs may_cs w Q) : cl Tryz.prog 64 #[(.string s), (.func (.func may) may_fs may_cs)] w Q :=
  calls_of_ev (fn := Tryz.f64) Tryz.func64 h64 (args := [(.string s), (.func (.func may) may_fs may_cs)]) (by rw [F64_link]; exact hF_)
def h88 : Hint := (.s .d (.s .d (.s (.s .d (.l [(3, 248), (8, 3)] .d)) .d)))
set_option linter.unusedVariables false in
def F88 (b : Option Addr) (b_n b_c : Nat) (w : World) (Q : Value → World → Prop) : Prop :=
 (lv (0 : Int) fun y1 =>
(lv (4294967295 : Int) fun s_2 =>
(lp [(.int .u32 s_2), (.int .i64 (0 : Int))] w fun J5 s3 w4 => asI .u32 (s3.getD 0 undef) fun x6 => asI .i64 (s3.getD 1 undef) fun x7 =>
(cond (decide (x7 < (b_n : Int)))
(dr b fun a8 => (bnd x7 b_n (ld w4 (Addr.add a8 (Int.toNat x7 * 1)) fun v9 => asI .u8 v9 fun x10 => (lv x10 fun c_11 =>
(lv (Go.bits .xor .u32 x6 (IntKind.wrap .u32 c_11)) fun s_12 =>
(bnd (Go.bits .and .u32 s_12 (15 : Int)) 16 (ld w4 (Addr.add (⟨0, 0, none⟩ : Addr) (Int.toNat (Go.bits .and .u32 s_12 (15 : Int)) * 1)) fun v13 => asI .u32 v13 fun x14 => (lv (Go.bits .xor .u32 (Int.fdiv s_12 (2 ^ (min (Int.toNat (4 : Int)) 32))) x14) fun s_15 =>
(bnd (Go.bits .and .u32 s_15 (15 : Int)) 16 (ld w4 (Addr.add (⟨0, 0, none⟩ : Addr) (Int.toNat (Go.bits .and .u32 s_15 (15 : Int)) * 1)) fun v16 => asI .u32 v16 fun x17 => (lv (Go.bits .xor .u32 (Int.fdiv s_15 (2 ^ (min (Int.toNat (4 : Int)) 32))) x17) fun s_18 =>
(J5 [(.int .u32 s_18), (.int .i64 (IntKind.wrap .i64 (x7 + (1 : Int))))] w4))))))))))))
(lv (IntKind.wrap .i64 (Go.bits .xor .u32 (IntKind.max .u32) x6)) fun y19 =>
(Q (.int .i64 y19) w4))))))
theorem F88_link (b : Option Addr) (b_n b_c : Nat) (w : World) (Q : Value → World → Prop) : fnEv Tryz.prog Tryz.f88 h88 [(.slice b b_n b_c)] w Q = F88 b b_n b_c w Q := by kernel_rfl
theorem F88_calls {b : Option Addr} {b_n b_c : Nat} {w : World} {Q : Value → World → Prop} (hF_ : F88 b b_n b_c w Q) : cl Tryz.prog 88 #[(.slice b b_n b_c)] w Q :=
  calls_of_ev (fn := Tryz.f88) Tryz.func88 h88 (args := [(.slice b b_n b_c)]) (by rw [F88_link]; exact hF_)
def h90 : Hint := .d
set_option linter.unusedVariables false in
def F90 (b : Option Addr) (b_n b_c : Nat) (at' : Int) (w : World) (Q : Value → World → Prop) : Prop :=
 (lv (0 : Int) fun y1 => (lv (0 : Int) fun y2 => (lv (0 : Int) fun y3 =>
(cl Tryz.prog 141 #[(.slice b b_n b_c), (.int .i64 at'), (.int .i64 (9 : Int))] w fun v4 w5 => asT 3 v4 fun t6 => asI .u64 (t6 0) fun x7 => asI .i64 (t6 1) fun x8 => asI .i64 (t6 2) fun x9 => (lv x7 fun z_10 => (lv x8 fun next_11 => (lv x9 fun e_12 =>
(lv (IntKind.wrap .i64 z_10) fun y13 => (lv next_11 fun y14 => (lv e_12 fun y15 =>
(Q (.tuple #[(.int .i64 y13), (.int .i64 y14), (.int .i64 y15)]) w5)))))))))))
theorem F90_link (b : Option Addr) (b_n b_c : Nat) (at' : Int) (w : World) (Q : Value → World → Prop) : fnEv Tryz.prog Tryz.f90 h90 [(.slice b b_n b_c), (.int .i64 at')] w Q = F90 b b_n b_c at' w Q := by kernel_rfl
theorem F90_calls {b : Option Addr} {b_n b_c : Nat} {at' : Int} {w : World} {Q : Value → World → Prop} (hF_ : F90 b b_n b_c at' w Q) : cl Tryz.prog 90 #[(.slice b b_n b_c), (.int .i64 at')] w Q :=
  calls_of_ev (fn := Tryz.f90) Tryz.func90 h90 (args := [(.slice b b_n b_c), (.int .i64 at')]) (by rw [F90_link]; exact hF_)
def h92 : Hint := .d
set_option linter.unusedVariables false in
def F92 (b : Option Addr) (b_n b_c : Nat) (at' : Int) (w : World) (Q : Value → World → Prop) : Prop :=
 (lv (0 : Int) fun y1 => (lv (0 : Int) fun y2 => (lv (0 : Int) fun y3 =>
(cl Tryz.prog 141 #[(.slice b b_n b_c), (.int .i64 at'), (.int .i64 (10 : Int))] w fun v4 w5 => asT 3 v4 fun t6 => asI .u64 (t6 0) fun x7 => asI .i64 (t6 1) fun x8 => asI .i64 (t6 2) fun x9 => (lv x7 fun z_10 => (lv x8 fun next_11 => (lv x9 fun e_12 =>
(lv (Go.bits .xor .i64 (IntKind.wrap .i64 (Int.fdiv z_10 (2 ^ (min (Int.toNat (1 : Int)) 64)))) (IntKind.wrap .i64 ((0 : Int) - (IntKind.wrap .i64 (Go.bits .and .u64 z_10 (1 : Int)))))) fun y13 => (lv next_11 fun y14 => (lv e_12 fun y15 =>
(Q (.tuple #[(.int .i64 y13), (.int .i64 y14), (.int .i64 y15)]) w5)))))))))))
theorem F92_link (b : Option Addr) (b_n b_c : Nat) (at' : Int) (w : World) (Q : Value → World → Prop) : fnEv Tryz.prog Tryz.f92 h92 [(.slice b b_n b_c), (.int .i64 at')] w Q = F92 b b_n b_c at' w Q := by kernel_rfl
theorem F92_calls {b : Option Addr} {b_n b_c : Nat} {at' : Int} {w : World} {Q : Value → World → Prop} (hF_ : F92 b b_n b_c at' w Q) : cl Tryz.prog 92 #[(.slice b b_n b_c), (.int .i64 at')] w Q :=
  calls_of_ev (fn := Tryz.f92) Tryz.func92 h92 (args := [(.slice b b_n b_c), (.int .i64 at')]) (by rw [F92_link]; exact hF_)
def h93 : Hint := .d
set_option linter.unusedVariables false in
def F93 (b : Option Addr) (b_n b_c : Nat) (at' : Int) (w : World) (Q : Value → World → Prop) : Prop :=
 (lv (0 : Int) fun y1 => (lv (0 : Int) fun y2 =>
(cl Tryz.prog 90 #[(.slice b b_n b_c), (.int .i64 at')] w fun v3 w4 => asT 3 v3 fun t5 => asI .i64 (t5 0) fun x6 => asI .i64 (t5 1) fun x7 => asI .i64 (t5 2) fun x8 => (lv x6 fun n_9 => (lv x7 fun next_10 => (lv x8 fun e_11 =>
(cond (e_11 != (0 : Int)) (lv (0 : Int) fun y12 => (lv e_11 fun y13 =>
(Q (.tuple #[(.string (⟨#[]⟩ : ByteArray)), (.int .i64 y12), (.int .i64 y13)]) w4)))
(cond (decide (n_9 > (65536 : Int))) (lv (0 : Int) fun y14 => (lv (2 : Int) fun y15 =>
(Q (.tuple #[(.string (⟨#[]⟩ : ByteArray)), (.int .i64 y14), (.int .i64 y15)]) w4)))
(cond (decide (n_9 > (IntKind.wrap .i64 ((b_n : Int) - next_10)))) (lv (0 : Int) fun y16 => (lv (3 : Int) fun y17 =>
(Q (.tuple #[(.string (⟨#[]⟩ : ByteArray)), (.int .i64 y16), (.int .i64 y17)]) w4)))
(bn2 (IntKind.wrap .i64 (next_10 + n_9)) b_c (bn2 next_10 (Int.toNat (IntKind.wrap .i64 (next_10 + n_9))) (rq Tryz.prog (Go.convert 22 9 (.slice (slp b b_c (Int.toNat next_10) 1) ((Int.toNat (IntKind.wrap .i64 (next_10 + n_9))) - (Int.toNat next_10)) (b_c - (Int.toNat next_10)))) w4 fun v18 => asY v18 fun s19 => (lv (IntKind.wrap .i64 (next_10 + n_9)) fun y20 => (lv (0 : Int) fun y21 =>
(Q (.tuple #[(.string s19), (.int .i64 y20), (.int .i64 y21)]) w4)))))))))))))))
theorem F93_link (b : Option Addr) (b_n b_c : Nat) (at' : Int) (w : World) (Q : Value → World → Prop) : fnEv Tryz.prog Tryz.f93 h93 [(.slice b b_n b_c), (.int .i64 at')] w Q = F93 b b_n b_c at' w Q := by kernel_rfl
theorem F93_calls {b : Option Addr} {b_n b_c : Nat} {at' : Int} {w : World} {Q : Value → World → Prop} (hF_ : F93 b b_n b_c at' w Q) : cl Tryz.prog 93 #[(.slice b b_n b_c), (.int .i64 at')] w Q :=
  calls_of_ev (fn := Tryz.f93) Tryz.func93 h93 (args := [(.slice b b_n b_c), (.int .i64 at')]) (by rw [F93_link]; exact hF_)
def h96 : Hint := (.s .d (.s (.s .d (.l [(8, 3)] .d)) .d))
set_option linter.unusedVariables false in
def F96 (s : Option Addr) (s_n s_c : Nat) (f : Nat) (f_fs f_cs : Array Value) (w : World) (Q : Value → World → Prop) : Prop :=
 (lv (0 : Int) fun y1 =>
(lp [(.int .i64 (0 : Int))] w fun J4 s2 w3 => asI .i64 (s2.getD 0 undef) fun x5 =>
(cond (decide (x5 < (s_n : Int)))
(lv x5 fun i_6 =>
(dr s fun a7 => (bnd i_6 s_n (ld w3 (Addr.add a7 (Int.toNat i_6 * 3)) fun v8 => asI .i64 v8 fun x9 => (ld w3 (Addr.add (Addr.add a7 (Int.toNat i_6 * 3)) 1) fun v10 => asI .i64 v10 fun x11 => (ld w3 (Addr.add (Addr.add a7 (Int.toNat i_6 * 3)) 2) fun v12 => asI .i64 v12 fun x13 => (cond (callOk Tryz.prog f) (cl Tryz.prog f (f_fs ++ #[(.agg #[(.int .i64 x9), (.int .i64 x11), (.int .i64 x13)])] ++ f_cs) w3 fun v14 w15 => asB v14 fun b16 =>
(cond b16 (lv i_6 fun y17 =>
(Q (.int .i64 y17) w15))
(J4 [(.int .i64 (IntKind.wrap .i64 (x5 + (1 : Int))))] w15))) (xt Tryz.prog f (f_fs ++ #[(.agg #[(.int .i64 x9), (.int .i64 x11), (.int .i64 x13)])] ++ f_cs) w3 fun v14 w15 => asB v14 fun b16 =>
(cond b16 (lv i_6 fun y17 =>
(Q (.int .i64 y17) w15))
(J4 [(.int .i64 (IntKind.wrap .i64 (x5 + (1 : Int))))] w15))))))))))
(lv (-1 : Int) fun y18 =>
(Q (.int .i64 y18) w3)))))
theorem F96_link (s : Option Addr) (s_n s_c : Nat) (f : Nat) (f_fs f_cs : Array Value) (w : World) (Q : Value → World → Prop) : fnEv Tryz.prog Tryz.f96 h96 [(.slice s s_n s_c), (.func (.func f) f_fs f_cs)] w Q = F96 s s_n s_c f f_fs f_cs w Q := by kernel_rfl
theorem F96_calls {s : Option Addr} {s_n s_c : Nat} {f : Nat} {f_fs f_cs : Array Value} {w : World} {Q : Value → World → Prop} (hF_ : F96 s s_n s_c f f_fs f_cs w Q) : cl Tryz.prog 96 #[(.slice s s_n s_c), (.func (.func f) f_fs f_cs)] w Q :=
  calls_of_ev (fn := Tryz.f96) Tryz.func96 h96 (args := [(.slice s s_n s_c), (.func (.func f) f_fs f_cs)]) (by rw [F96_link]; exact hF_)
def h97 : Hint := (.s .d (.j [(2, 4)] .d .d))
set_option linter.unusedVariables false in
def F97 (t : Int) (w : World) (Q : Value → World → Prop) : Prop :=
(jn (fun s1 w2 => asB (s1.getD 0 undef) fun b4 => (Q (.bool b4) w2))
 (fun J3 => (cond (decide ((1 : Int) ≤ t)) (J3 [(.bool (decide (t ≤ (4 : Int))))] w) (J3 [(.bool false)] w))))
theorem F97_link (t : Int) (w : World) (Q : Value → World → Prop) : fnEv Tryz.prog Tryz.f97 h97 [(.int .i64 t)] w Q = F97 t w Q := by kernel_rfl
theorem F97_calls {t : Int} {w : World} {Q : Value → World → Prop} (hF_ : F97 t w Q) : cl Tryz.prog 97 #[(.int .i64 t)] w Q :=
  calls_of_ev (fn := Tryz.f97) Tryz.func97 h97 (args := [(.int .i64 t)]) (by rw [F97_link]; exact hF_)
def h98 : Hint := (.s .d (.s (.s .d (.l [(8, 3)] .d)) .d))
set_option linter.unusedVariables false in
def F98 (s : Option Addr) (s_n s_c : Nat) (f : Nat) (f_fs f_cs : Array Value) (w : World) (Q : Value → World → Prop) : Prop :=
 (lv (0 : Int) fun y1 =>
(lp [(.int .i64 (0 : Int))] w fun J4 s2 w3 => asI .i64 (s2.getD 0 undef) fun x5 =>
(cond (decide (x5 < (s_n : Int)))
(lv x5 fun i_6 =>
(dr s fun a7 => (bnd i_6 s_n (ld w3 (Addr.add a7 (Int.toNat i_6 * 5)) fun v8 => asY v8 fun s9 => (ld w3 (Addr.add (Addr.add a7 (Int.toNat i_6 * 5)) 1) fun v10 => asS v10 fun p11 n12 c13 => (ld w3 (Addr.add (Addr.add a7 (Int.toNat i_6 * 5)) 2) fun v14 => asI .i64 v14 fun x15 => (ld w3 (Addr.add (Addr.add a7 (Int.toNat i_6 * 5)) 3) fun v16 => asS v16 fun p17 n18 c19 => (ld w3 (Addr.add (Addr.add a7 (Int.toNat i_6 * 5)) 4) fun v20 => asS v20 fun p21 n22 c23 => (cond (callOk Tryz.prog f) (cl Tryz.prog f (f_fs ++ #[(.agg #[(.string s9), (.slice p11 n12 c13), (.int .i64 x15), (.slice p17 n18 c19), (.slice p21 n22 c23)])] ++ f_cs) w3 fun v24 w25 => asB v24 fun b26 =>
(cond b26 (lv i_6 fun y27 =>
(Q (.int .i64 y27) w25))
(J4 [(.int .i64 (IntKind.wrap .i64 (x5 + (1 : Int))))] w25))) (xt Tryz.prog f (f_fs ++ #[(.agg #[(.string s9), (.slice p11 n12 c13), (.int .i64 x15), (.slice p17 n18 c19), (.slice p21 n22 c23)])] ++ f_cs) w3 fun v24 w25 => asB v24 fun b26 =>
(cond b26 (lv i_6 fun y27 =>
(Q (.int .i64 y27) w25))
(J4 [(.int .i64 (IntKind.wrap .i64 (x5 + (1 : Int))))] w25))))))))))))
(lv (-1 : Int) fun y28 =>
(Q (.int .i64 y28) w3)))))
theorem F98_link (s : Option Addr) (s_n s_c : Nat) (f : Nat) (f_fs f_cs : Array Value) (w : World) (Q : Value → World → Prop) : fnEv Tryz.prog Tryz.f98 h98 [(.slice s s_n s_c), (.func (.func f) f_fs f_cs)] w Q = F98 s s_n s_c f f_fs f_cs w Q := by kernel_rfl
theorem F98_calls {s : Option Addr} {s_n s_c : Nat} {f : Nat} {f_fs f_cs : Array Value} {w : World} {Q : Value → World → Prop} (hF_ : F98 s s_n s_c f f_fs f_cs w Q) : cl Tryz.prog 98 #[(.slice s s_n s_c), (.func (.func f) f_fs f_cs)] w Q :=
  calls_of_ev (fn := Tryz.f98) Tryz.func98 h98 (args := [(.slice s s_n s_c), (.func (.func f) f_fs f_cs)]) (by rw [F98_link]; exact hF_)
def h99 : Hint := (.s .d (.j [(2, 4)] .d .d))
set_option linter.unusedVariables false in
def F99 (s : ByteArray) (w : World) (Q : Value → World → Prop) : Prop :=
(jn (fun s1 w2 => asB (s1.getD 0 undef) fun b13 => (Q (.bool b13) w2))
 (fun J3 => (cond (!(ByteArray.toList s == ByteArray.toList (⟨#[]⟩ : ByteArray))) (cond (decide ((ByteArray.size s : Int) ≤ (24 : Int))) (bnd (0 : Int) (ByteArray.size s) (cl Tryz.prog 117 #[(.int .u8 (byteAt s (0 : Int)))] w fun v4 w5 => asB v4 fun b6 => (cond b6 (cl Tryz.prog 64 #[(.string s), (.func (.func 118) #[] #[])] w5 fun v7 w8 => asI .i64 v7 fun x9 => (cond (x9 == (ByteArray.size s : Int)) (cl Tryz.prog 119 #[(.string s)] w8 fun v10 w11 => asB v10 fun b12 => (J3 [(.bool (!b12))] w11)) (J3 [(.bool false)] w8))) (J3 [(.bool false)] w5)))) (J3 [(.bool false)] w)) (J3 [(.bool false)] w))))
theorem F99_link (s : ByteArray) (w : World) (Q : Value → World → Prop) : fnEv Tryz.prog Tryz.f99 h99 [(.string s)] w Q = F99 s w Q := by kernel_rfl
theorem F99_calls {s : ByteArray} {w : World} {Q : Value → World → Prop} (hF_ : F99 s w Q) : cl Tryz.prog 99 #[(.string s)] w Q :=
  calls_of_ev (fn := Tryz.f99) Tryz.func99 h99 (args := [(.string s)]) (by rw [F99_link]; exact hF_)
def h100 : Hint := .d
set_option linter.unusedVariables false in
def F100 (l : Option Addr) (l_n l_c : Nat) (w : World) (Q : Value → World → Prop) : Prop :=
(cl Tryz.prog 142 #[(.slice l l_n l_c), (.func (.func 143) #[] #[])] w fun v1 w2 => asB v1 fun b3 =>
(Q (.bool (!b3)) w2))
theorem F100_link (l : Option Addr) (l_n l_c : Nat) (w : World) (Q : Value → World → Prop) : fnEv Tryz.prog Tryz.f100 h100 [(.slice l l_n l_c)] w Q = F100 l l_n l_c w Q := by kernel_rfl
theorem F100_calls {l : Option Addr} {l_n l_c : Nat} {w : World} {Q : Value → World → Prop} (hF_ : F100 l l_n l_c w Q) : cl Tryz.prog 100 #[(.slice l l_n l_c)] w Q :=
  calls_of_ev (fn := Tryz.f100) Tryz.func100 h100 (args := [(.slice l l_n l_c)]) (by rw [F100_link]; exact hF_)
def h101 : Hint := .d
set_option linter.unusedVariables false in
def F101 (s : Option Addr) (s_n s_c : Nat) (f : Nat) (f_fs f_cs : Array Value) (w : World) (Q : Value → World → Prop) : Prop :=
(cl Tryz.prog 144 #[(.slice s s_n s_c), (.func (.func f) f_fs f_cs)] w fun v1 w2 => asI .i64 v1 fun x3 =>
(Q (.bool (decide (x3 ≥ (0 : Int)))) w2))
theorem F101_link (s : Option Addr) (s_n s_c : Nat) (f : Nat) (f_fs f_cs : Array Value) (w : World) (Q : Value → World → Prop) : fnEv Tryz.prog Tryz.f101 h101 [(.slice s s_n s_c), (.func (.func f) f_fs f_cs)] w Q = F101 s s_n s_c f f_fs f_cs w Q := by kernel_rfl
theorem F101_calls {s : Option Addr} {s_n s_c : Nat} {f : Nat} {f_fs f_cs : Array Value} {w : World} {Q : Value → World → Prop} (hF_ : F101 s s_n s_c f f_fs f_cs w Q) : cl Tryz.prog 101 #[(.slice s s_n s_c), (.func (.func f) f_fs f_cs)] w Q :=
  calls_of_ev (fn := Tryz.f101) Tryz.func101 h101 (args := [(.slice s s_n s_c), (.func (.func f) f_fs f_cs)]) (by rw [F101_link]; exact hF_)
def h102 : Hint := (.s .d (.j [(2, 4)] .d .d))
set_option linter.unusedVariables false in
def F102 (x_0 : Int) (x_1 : Int) (x_2 : Int) (w : World) (Q : Value → World → Prop) : Prop :=
 (nw w (.cells #[(.int .i64 x_0), (.int .i64 x_1), (.int .i64 x_2)] 81) fun r1 w2 =>
(jn (fun s3 w4 => asB (s3.getD 0 undef) fun b14 => (Q (.bool b14) w4))
 (fun J5 => (ld w2 (⟨r1, 0, none⟩ : Addr) fun v6 => asI .i64 v6 fun x7 => (cond (decide (x7 < (1 : Int))) (J5 [(.bool true)] w2) (ld w2 (⟨r1, 0, none⟩ : Addr) fun v8 => asI .i64 v8 fun x9 => (cond (decide (x9 > (33 : Int))) (J5 [(.bool true)] w2) (ld w2 (Addr.add (⟨r1, 0, none⟩ : Addr) 2) fun v10 => asI .i64 v10 fun x11 => (cond (decide (x11 < (0 : Int))) (J5 [(.bool true)] w2) (ld w2 (Addr.add (⟨r1, 0, none⟩ : Addr) 2) fun v12 => asI .i64 v12 fun x13 => (J5 [(.bool (decide (x13 > (4 : Int))))] w2)))))))))))
theorem F102_link (x_0 : Int) (x_1 : Int) (x_2 : Int) (w : World) (Q : Value → World → Prop) : fnEv Tryz.prog Tryz.f102 h102 [(.agg #[(.int .i64 x_0), (.int .i64 x_1), (.int .i64 x_2)])] w Q = F102 x_0 x_1 x_2 w Q := by kernel_rfl
theorem F102_calls {x_0 : Int} {x_1 : Int} {x_2 : Int} {w : World} {Q : Value → World → Prop} (hF_ : F102 x_0 x_1 x_2 w Q) : cl Tryz.prog 102 #[(.agg #[(.int .i64 x_0), (.int .i64 x_1), (.int .i64 x_2)])] w Q :=
  calls_of_ev (fn := Tryz.f102) Tryz.func102 h102 (args := [(.agg #[(.int .i64 x_0), (.int .i64 x_1), (.int .i64 x_2)])]) (by rw [F102_link]; exact hF_)
def h103 : Hint := .d
set_option linter.unusedVariables false in
def F103 (x_0 : Option Addr) (x_0_n x_0_c : Nat) (x_1 : Option Addr) (x_1_n x_1_c : Nat) (w : World) (Q : Value → World → Prop) : Prop :=
 (nw w (.cells #[(.slice x_0 x_0_n x_0_c), (.slice x_1 x_1_n x_1_c)] 31) fun r1 w2 => (lv (0 : Int) fun y3 =>
(ld w2 (⟨r1, 0, none⟩ : Addr) fun v4 => asS v4 fun p5 n6 c7 => (ld w2 (Addr.add (⟨r1, 0, none⟩ : Addr) 1) fun v8 => asS v8 fun p9 n10 c11 => (cl Tryz.prog 17 #[(.agg #[(.slice p5 n6 c7), (.slice p9 n10 c11)])] w2 fun v12 w13 => asB v12 fun b14 =>
(cond (!b14) (lv (150 : Int) fun y15 =>
(Q (.tuple #[(.slice none 0 0), (.int .i64 y15)]) w13))
(nw w13 (.cells #[(.int .u8 (84 : Int)), (.int .u8 (73 : Int)), (.int .u8 (76 : Int)), (.int .u8 (84 : Int))] 5) fun r16 w17 => (rn Tryz.prog (Go.convert 22 22 (.slice (some (⟨r16, 0, none⟩ : Addr)) 4 4)) w17 fun v18 w19 => asS v18 fun p20 n21 c22 => (ld w19 (⟨r1, 0, none⟩ : Addr) fun v23 => asS v23 fun p24 n25 c26 => (cl Tryz.prog 145 #[(.slice p20 n21 c22), (.slice p24 n25 c26), (.func (.func 146) #[] #[])] w19 fun v27 w28 => asS v27 fun p29 n30 c31 =>
(ld w28 (Addr.add (⟨r1, 0, none⟩ : Addr) 1) fun v32 => asS v32 fun p33 n34 c35 => (cl Tryz.prog 149 #[(.slice p29 n30 c31), (.slice p33 n34 c35), (.func (.func 150) #[] #[])] w28 fun v36 w37 => asS v36 fun p38 n39 c40 =>
(cl Tryz.prog 39 #[(.slice p38 n39 c40)] w37 fun v41 w42 => asS v41 fun p43 n44 c45 =>
(cond (decide ((n44 : Int) > (1048576 : Int))) (lv (2 : Int) fun y46 =>
(Q (.tuple #[(.slice none 0 0), (.int .i64 y46)]) w42))
(lv (0 : Int) fun y47 =>
(Q (.tuple #[(.slice p43 n44 c45), (.int .i64 y47)]) w42))))))))))))))))
theorem F103_link (x_0 : Option Addr) (x_0_n x_0_c : Nat) (x_1 : Option Addr) (x_1_n x_1_c : Nat) (w : World) (Q : Value → World → Prop) : fnEv Tryz.prog Tryz.f103 h103 [(.agg #[(.slice x_0 x_0_n x_0_c), (.slice x_1 x_1_n x_1_c)])] w Q = F103 x_0 x_0_n x_0_c x_1 x_1_n x_1_c w Q := by kernel_rfl
theorem F103_calls {x_0 : Option Addr} {x_0_n x_0_c : Nat} {x_1 : Option Addr} {x_1_n x_1_c : Nat} {w : World} {Q : Value → World → Prop} (hF_ : F103 x_0 x_0_n x_0_c x_1 x_1_n x_1_c w Q) : cl Tryz.prog 103 #[(.agg #[(.slice x_0 x_0_n x_0_c), (.slice x_1 x_1_n x_1_c)])] w Q :=
  calls_of_ev (fn := Tryz.f103) Tryz.func103 h103 (args := [(.agg #[(.slice x_0 x_0_n x_0_c), (.slice x_1 x_1_n x_1_c)])]) (by rw [F103_link]; exact hF_)
def h104 : Hint := (.s .d (.s (.s .d (.l [(8, 3)] .d)) .d))
set_option linter.unusedVariables false in
def F104 (s : Option Addr) (s_n s_c : Nat) (f : Nat) (f_fs f_cs : Array Value) (w : World) (Q : Value → World → Prop) : Prop :=
 (lv (0 : Int) fun y1 =>
(lp [(.int .i64 (0 : Int))] w fun J4 s2 w3 => asI .i64 (s2.getD 0 undef) fun x5 =>
(cond (decide (x5 < (s_n : Int)))
(lv x5 fun i_6 =>
(dr s fun a7 => (bnd i_6 s_n (ld w3 (Addr.add a7 (Int.toNat i_6 * 3)) fun v8 => asY v8 fun s9 => (ld w3 (Addr.add (Addr.add a7 (Int.toNat i_6 * 3)) 1) fun v10 => asS v10 fun p11 n12 c13 => (ld w3 (Addr.add (Addr.add a7 (Int.toNat i_6 * 3)) 2) fun v14 => asI .i64 v14 fun x15 => (cond (callOk Tryz.prog f) (cl Tryz.prog f (f_fs ++ #[(.agg #[(.string s9), (.slice p11 n12 c13), (.int .i64 x15)])] ++ f_cs) w3 fun v16 w17 => asB v16 fun b18 =>
(cond b18 (lv i_6 fun y19 =>
(Q (.int .i64 y19) w17))
(J4 [(.int .i64 (IntKind.wrap .i64 (x5 + (1 : Int))))] w17))) (xt Tryz.prog f (f_fs ++ #[(.agg #[(.string s9), (.slice p11 n12 c13), (.int .i64 x15)])] ++ f_cs) w3 fun v16 w17 => asB v16 fun b18 =>
(cond b18 (lv i_6 fun y19 =>
(Q (.int .i64 y19) w17))
(J4 [(.int .i64 (IntKind.wrap .i64 (x5 + (1 : Int))))] w17))))))))))
(lv (-1 : Int) fun y20 =>
(Q (.int .i64 y20) w3)))))
theorem F104_link (s : Option Addr) (s_n s_c : Nat) (f : Nat) (f_fs f_cs : Array Value) (w : World) (Q : Value → World → Prop) : fnEv Tryz.prog Tryz.f104 h104 [(.slice s s_n s_c), (.func (.func f) f_fs f_cs)] w Q = F104 s s_n s_c f f_fs f_cs w Q := by kernel_rfl
theorem F104_calls {s : Option Addr} {s_n s_c : Nat} {f : Nat} {f_fs f_cs : Array Value} {w : World} {Q : Value → World → Prop} (hF_ : F104 s s_n s_c f f_fs f_cs w Q) : cl Tryz.prog 104 #[(.slice s s_n s_c), (.func (.func f) f_fs f_cs)] w Q :=
  calls_of_ev (fn := Tryz.f104) Tryz.func104 h104 (args := [(.slice s s_n s_c), (.func (.func f) f_fs f_cs)]) (by rw [F104_link]; exact hF_)
def h105 : Hint := (.s .d (.s .d (.s .d (.s (.j [(36, 4)] .d .d) (.j [] .d .d)))))
set_option linter.unusedVariables false in
def F105 (l : Option Addr) (from' : Int) (to : Int) (stack : ByteArray) (w : World) (Q : Value → World → Prop) : Prop :=
(dr l fun a1 => (ld w (Addr.add (Addr.add a1 2) 4) fun v2 => asS v2 fun p3 n4 c5 =>
(cond (to == (n4 : Int)) (cl Tryz.prog 155 #[(.pointer l), (.int .i64 (161 : Int)), (.int .i64 from')] w fun v6 w7 => asB v6 fun b8 =>
(Q (.bool b8) w7))
(dr l fun a9 => (ld w (Addr.add a9 8) fun v10 => asM v10 fun r11 => (rq Tryz.prog (Instr.lookup 206 (.map r11) (.int .i64 to) true) w fun v12 => asT 2 v12 fun t13 => asY (t13 0) fun s14 => asB (t13 1) fun b15 =>
(jn (fun s16 w17 => asB (s16.getD 0 undef) fun b19 => (cond b19 (cl Tryz.prog 155 #[(.pointer l), (.int .i64 (162 : Int)), (.int .i64 to)] w17 fun v20 w21 => asB v20 fun b22 =>
(Q (.bool b22) w21))
(jn (fun s23 w24 =>
(Q (.bool true) w24))
 (fun J25 =>
(cond (!b15) (dr l fun a26 => (ld w17 (Addr.add a26 8) fun v27 => asM v27 fun r28 => (ru Tryz.prog (Instr.mapUpdate 206 (.map r28) (.int .i64 to) (.string stack)) w17 fun w29 =>
(dr l fun a30 => (rn Tryz.prog (Instr.makeInterface 214 (.pointer (some (Addr.add a30 9)))) w29 fun v31 w32 => (rn Tryz.prog (Instr.makeInterface 3 (.int .i64 to)) w32 fun v33 w34 => (cl Tryz.prog 156 #[v31, v33] w34 fun v35 w36 => (J25 [] w36)))))))) (J25 [] w17))))))
 (fun J18 => (cond b15 (J18 [(.bool (!(ByteArray.toList s14 == ByteArray.toList stack)))] w) (J18 [(.bool false)] w))))))))))
theorem F105_link (l : Option Addr) (from' : Int) (to : Int) (stack : ByteArray) (w : World) (Q : Value → World → Prop) : fnEv Tryz.prog Tryz.f105 h105 [(.pointer l), (.int .i64 from'), (.int .i64 to), (.string stack)] w Q = F105 l from' to stack w Q := by kernel_rfl
theorem F105_calls {l : Option Addr} {from' : Int} {to : Int} {stack : ByteArray} {w : World} {Q : Value → World → Prop} (hF_ : F105 l from' to stack w Q) : cl Tryz.prog 105 #[(.pointer l), (.int .i64 from'), (.int .i64 to), (.string stack)] w Q :=
  calls_of_ev (fn := Tryz.f105) Tryz.func105 h105 (args := [(.pointer l), (.int .i64 from'), (.int .i64 to), (.string stack)]) (by rw [F105_link]; exact hF_)
def h106 : Hint := .d
set_option linter.unusedVariables false in
def F106 (s : Option Addr) (s_n s_c : Nat) (w : World) (Q : Value → World → Prop) : Prop :=
 (lv (0 : Int) fun y1 =>
(lv (s_n : Int) fun y2 =>
(Q (.int .i64 y2) w)))
theorem F106_link (s : Option Addr) (s_n s_c : Nat) (w : World) (Q : Value → World → Prop) : fnEv Tryz.prog Tryz.f106 h106 [(.slice s s_n s_c)] w Q = F106 s s_n s_c w Q := by kernel_rfl
theorem F106_calls {s : Option Addr} {s_n s_c : Nat} {w : World} {Q : Value → World → Prop} (hF_ : F106 s s_n s_c w Q) : cl Tryz.prog 106 #[(.slice s s_n s_c)] w Q :=
  calls_of_ev (fn := Tryz.f106) Tryz.func106 h106 (args := [(.slice s s_n s_c)]) (by rw [F106_link]; exact hF_)
def h109 : Hint := (.s .d (.j [(4, 4)] .d .d))
set_option linter.unusedVariables false in
def F109 (t : Int) (l : Option Addr) (l_n l_c : Nat) (w : World) (Q : Value → World → Prop) : Prop :=
(jn (fun s1 w2 => asB (s1.getD 0 undef) fun b7 => (Q (.bool b7) w2))
 (fun J3 => (cond (t != (3 : Int)) (J3 [(.bool true)] w) (cl Tryz.prog 142 #[(.slice l l_n l_c), (.func (.func 160) #[] #[])] w fun v4 w5 => asB v4 fun b6 => (J3 [(.bool (!b6))] w5)))))
theorem F109_link (t : Int) (l : Option Addr) (l_n l_c : Nat) (w : World) (Q : Value → World → Prop) : fnEv Tryz.prog Tryz.f109 h109 [(.int .i64 t), (.slice l l_n l_c)] w Q = F109 t l l_n l_c w Q := by kernel_rfl
theorem F109_calls {t : Int} {l : Option Addr} {l_n l_c : Nat} {w : World} {Q : Value → World → Prop} (hF_ : F109 t l l_n l_c w Q) : cl Tryz.prog 109 #[(.int .i64 t), (.slice l l_n l_c)] w Q :=
  calls_of_ev (fn := Tryz.f109) Tryz.func109 h109 (args := [(.int .i64 t), (.slice l l_n l_c)]) (by rw [F109_link]; exact hF_)
def h110 : Hint := (.s .d (.s .d (.s .d (.s .d (.s .d (.s (.o (ofL [0, 1, 2, 3, 4, 5, 6, 7, 8, 9] .nil)) (.s .d (.s (.o (ofL [0, 1, 2, 3, 4, 5, 6, 7, 8, 9] .nil)) (.s .d (.s (.o (ofL [0, 1, 2, 3, 4, 5, 6, 7, 8, 9, 10, 11] .nil)) (.s .d (.s (.o (ofL [0, 1, 2, 3, 4, 5, 6, 7, 8, 9, 10, 11] .nil)) .d))))))))))))
set_option linter.unusedVariables false in
def F110 (r : Option Addr) (f : Option Addr) (i_0 : Int) (i_1 : Int) (i_2 : Int) (w : World) (Q : Value → World → Prop) : Prop :=
 (nw w (.cells #[(.int .i64 i_0), (.int .i64 i_1), (.int .i64 i_2)] 81) fun r1 w2 =>
(ld w2 (⟨r1, 0, none⟩ : Addr) fun v3 => asI .i64 v3 fun x4 =>
(cond (x4 == (1 : Int)) (ld w2 (Addr.add (⟨r1, 0, none⟩ : Addr) 1) fun v5 => asI .i64 v5 fun x6 => (cl Tryz.prog 62 #[(.pointer r), (.int .i64 x6)] w2 fun v7 w8 => (Q (.tuple #[]) w8)))
(cond (x4 == (2 : Int)) (dw w2 fun w9 => (dr f fun a10 => (ld w9 (Addr.add a10 2) fun v11 => asS v11 fun p12 n13 c14 => (ld w9 (Addr.add (⟨r1, 0, none⟩ : Addr) 1) fun v15 => asI .i64 v15 fun x16 => (dr p12 fun a17 => (bnd x16 n13 (ld w9 (Addr.add a17 (Int.toNat x16 * 1)) fun v18 => asI .i64 v18 fun x19 => (cl Tryz.prog 62 #[(.pointer r), (.int .i64 x19)] w9 fun v20 w21 => (hd w21 (Addr.add (⟨r1, 0, none⟩ : Addr) 1) (.int .i64 x16) (hd w21 (Addr.add a10 2) (.slice p12 n13 c14) (Q (.tuple #[]) w21)))))))))))
(cond (x4 == (3 : Int)) (dw w2 fun w22 => (dr f fun a23 => (ld w22 (Addr.add a23 2) fun v24 => asS v24 fun p25 n26 c27 => (ld w22 (Addr.add (⟨r1, 0, none⟩ : Addr) 1) fun v28 => asI .i64 v28 fun x29 => (cl Tryz.prog 115 #[(.pointer r)] w22 fun v30 w31 => asI .i64 v30 fun x32 => (hd w31 (Addr.add (⟨r1, 0, none⟩ : Addr) 1) (.int .i64 x29) (hd w31 (Addr.add a23 2) (.slice p25 n26 c27) (dr p25 fun a33 => (bnd x29 n26 (st w31 (Addr.add a33 (Int.toNat x29 * 1)) (.int .i64 x32) fun w34 => (Q (.tuple #[]) w34)))))))))))
(cond (x4 == (4 : Int)) (dw w2 fun w35 => (dr r fun a36 => (ld w35 (Addr.add a36 1) fun v37 => asS v37 fun p38 n39 c40 => (ld w35 (Addr.add (⟨r1, 0, none⟩ : Addr) 1) fun v41 => asI .i64 v41 fun x42 => (dr p38 fun a43 => (bnd x42 n39 (ld w35 (Addr.add a43 (Int.toNat x42 * 1)) fun v44 => asS v44 fun p45 n46 c47 => (dr p45 fun a48 => (bnd (0 : Int) n46 (ld w35 (Addr.add a48 (Int.toNat (0 : Int) * 1)) fun v49 => asI .i64 v49 fun x50 => (cl Tryz.prog 62 #[(.pointer r), (.int .i64 x50)] w35 fun v51 w52 => (hd w52 (Addr.add a43 (Int.toNat x42 * 1)) (.slice p45 n46 c47) (hd w52 (Addr.add (⟨r1, 0, none⟩ : Addr) 1) (.int .i64 x42) (hd w52 (Addr.add a36 1) (.slice p38 n39 c40) (Q (.tuple #[]) w52)))))))))))))))
(cond (x4 == (5 : Int)) (dw w2 fun w53 => (dr r fun a54 => (ld w53 (Addr.add a54 1) fun v55 => asS v55 fun p56 n57 c58 => (ld w53 (Addr.add (⟨r1, 0, none⟩ : Addr) 1) fun v59 => asI .i64 v59 fun x60 => (dr p56 fun a61 => (bnd x60 n57 (ld w53 (Addr.add a61 (Int.toNat x60 * 1)) fun v62 => asS v62 fun p63 n64 c65 => (cl Tryz.prog 115 #[(.pointer r)] w53 fun v66 w67 => asI .i64 v66 fun x68 => (hd w67 (Addr.add a61 (Int.toNat x60 * 1)) (.slice p63 n64 c65) (hd w67 (Addr.add (⟨r1, 0, none⟩ : Addr) 1) (.int .i64 x60) (hd w67 (Addr.add a54 1) (.slice p56 n57 c58) (dr p63 fun a69 => (bnd (0 : Int) n64 (st w67 (Addr.add a69 (Int.toNat (0 : Int) * 1)) (.int .i64 x68) fun w70 => (Q (.tuple #[]) w70)))))))))))))))
(cond (x4 == (28 : Int)) (ld w2 (Addr.add (⟨r1, 0, none⟩ : Addr) 1) fun v71 => asI .i64 v71 fun x72 => (dr f fun a73 => (st w2 (Addr.add a73 1) (.int .i64 x72) fun w74 => (Q (.tuple #[]) w74))))
(cond (x4 == (29 : Int)) (cl Tryz.prog 115 #[(.pointer r)] w2 fun v75 w76 => asI .i64 v75 fun x77 =>
(cond (x77 == (0 : Int)) (ld w76 (Addr.add (⟨r1, 0, none⟩ : Addr) 1) fun v78 => asI .i64 v78 fun x79 => (dr f fun a80 => (st w76 (Addr.add a80 1) (.int .i64 x79) fun w81 => (Q (.tuple #[]) w81)))) (Q (.tuple #[]) w76)))
(cond (x4 == (33 : Int)) (cl Tryz.prog 115 #[(.pointer r)] w2 fun v82 w83 => asI .i64 v82 fun x84 => (Q (.tuple #[]) w83)) (Q (.tuple #[]) w2)))))))))))
theorem F110_link (r : Option Addr) (f : Option Addr) (i_0 : Int) (i_1 : Int) (i_2 : Int) (w : World) (Q : Value → World → Prop) : fnEv Tryz.prog Tryz.f110 h110 [(.pointer r), (.pointer f), (.agg #[(.int .i64 i_0), (.int .i64 i_1), (.int .i64 i_2)])] w Q = F110 r f i_0 i_1 i_2 w Q := by kernel_rfl
theorem F110_calls {r : Option Addr} {f : Option Addr} {i_0 : Int} {i_1 : Int} {i_2 : Int} {w : World} {Q : Value → World → Prop} (hF_ : F110 r f i_0 i_1 i_2 w Q) : cl Tryz.prog 110 #[(.pointer r), (.pointer f), (.agg #[(.int .i64 i_0), (.int .i64 i_1), (.int .i64 i_2)])] w Q :=
  calls_of_ev (fn := Tryz.f110) Tryz.func110 h110 (args := [(.pointer r), (.pointer f), (.agg #[(.int .i64 i_0), (.int .i64 i_1), (.int .i64 i_2)])]) (by rw [F110_link]; exact hF_)
def h111 : Hint := (.s .d (.j [(4, 3)] .d .d))
set_option linter.unusedVariables false in
def F111 (r : Option Addr) (op : Int) (w : World) (Q : Value → World → Prop) : Prop :=
 (cl Tryz.prog 115 #[(.pointer r)] w fun v1 w2 => asI .i64 v1 fun x3 => (lv x3 fun v_4 =>
(jn (fun s5 w6 => asI .i64 (s5.getD 0 undef) fun x22 => (cl Tryz.prog 62 #[(.pointer r), (.int .i64 x22)] w6 fun v23 w24 => (Q (.tuple #[]) w24)))
 (fun J7 =>
(cond (op == (13 : Int)) (lv (IntKind.wrap .i64 ((0 : Int) - v_4)) fun v_8 => (J7 [(.int .i64 v_8)] w2))
(cond (op == (18 : Int)) (cl Tryz.prog 161 #[(.int .i64 (0 : Int)), (.int .i64 v_4)] w2 fun v9 w10 => asI .i64 v9 fun x11 => (lv x11 fun v_12 => (J7 [(.int .i64 v_12)] w10)))
(cond (op == (25 : Int)) (lv (Go.bits .xor .i64 v_4 (1 : Int)) fun v_13 => (J7 [(.int .i64 v_13)] w2))
(cond (op == (26 : Int)) (cl Tryz.prog 162 #[(.int .i64 v_4)] w2 fun v14 w15 => asI .i64 v14 fun x16 => (lv x16 fun v_17 => (J7 [(.int .i64 v_17)] w15)))
(cond (op == (27 : Int)) (cl Tryz.prog 163 #[(.int .i64 v_4)] w2 fun v18 w19 => asI .i64 v18 fun x20 => (lv x20 fun v_21 => (J7 [(.int .i64 v_21)] w19))) (J7 [(.int .i64 v_4)] w2))))))))))
theorem F111_link (r : Option Addr) (op : Int) (w : World) (Q : Value → World → Prop) : fnEv Tryz.prog Tryz.f111 h111 [(.pointer r), (.int .i64 op)] w Q = F111 r op w Q := by kernel_rfl
theorem F111_calls {r : Option Addr} {op : Int} {w : World} {Q : Value → World → Prop} (hF_ : F111 r op w Q) : cl Tryz.prog 111 #[(.pointer r), (.int .i64 op)] w Q :=
  calls_of_ev (fn := Tryz.f111) Tryz.func111 h111 (args := [(.pointer r), (.int .i64 op)]) (by rw [F111_link]; exact hF_)
def h112 : Hint := (.s .d (.s .d (.j [(5, 3)] .d (.s (.o (ofL [0, 2, 3, 4, 5, 6, 7, 8, 9, 1, 10, 11] .nil)) (.s (.j [(30, 4)] .d .d) (.j [] .d .d))))))
set_option linter.unusedVariables false in
def F112 (r : Option Addr) (i_0 : Int) (i_1 : Int) (i_2 : Int) (w : World) (Q : Value → World → Prop) : Prop :=
 (nw w (.cells #[(.int .i64 i_0), (.int .i64 i_1), (.int .i64 i_2)] 81) fun r1 w2 =>
(lv (0 : Int) fun v_3 =>
(jn (fun s4 w5 => asI .i64 (s4.getD 0 undef) fun x13 => (dw w5 fun w14 => (dr r fun a15 => (ld w14 (Addr.add a15 1) fun v16 => asS v16 fun p17 n18 c19 => (ld w14 (Addr.add (⟨r1, 0, none⟩ : Addr) 1) fun v20 => asI .i64 v20 fun x21 => (dr p17 fun a22 => (bnd x21 n18 (ld w14 (Addr.add a22 (Int.toNat x21 * 1)) fun v23 => asS v23 fun p24 n25 c26 => (cl Tryz.prog 115 #[(.pointer r)] w14 fun v27 w28 => asI .i64 v27 fun x29 => (hd w28 (Addr.add a22 (Int.toNat x21 * 1)) (.slice p24 n25 c26) (hd w28 (Addr.add (⟨r1, 0, none⟩ : Addr) 1) (.int .i64 x21) (hd w28 (Addr.add a15 1) (.slice p17 n18 c19) (lv x29 fun n_30 =>
(jn (fun s31 w32 => asB (s31.getD 0 undef) fun b34 => (cond b34
(Q (.bool false) w32)
(jn (fun s35 w36 =>
(Q (.bool true) w36))
 (fun J37 => (ld w32 (⟨r1, 0, none⟩ : Addr) fun v38 => asI .i64 v38 fun x39 =>
(cond (x39 == (7 : Int)) (dr p24 fun a40 => (bnd n_30 n25 (st w32 (Addr.add a40 (Int.toNat n_30 * 1)) (.int .i64 x13) fun w41 => (J37 [] w41)))) (dr p24 fun a42 => (bnd n_30 n25 (ld w32 (Addr.add a42 (Int.toNat n_30 * 1)) fun v43 => asI .i64 v43 fun x44 => (cl Tryz.prog 62 #[(.pointer r), (.int .i64 x44)] w32 fun v45 w46 => (J37 [] w46)))))))))))
 (fun J33 => (cond (decide (n_30 < (0 : Int))) (J33 [(.bool true)] w28) (J33 [(.bool (decide (n_30 ≥ (n25 : Int))))] w28)))))))))))))))))
 (fun J6 => (ld w2 (⟨r1, 0, none⟩ : Addr) fun v7 => asI .i64 v7 fun x8 =>
(cond (x8 == (7 : Int)) (cl Tryz.prog 115 #[(.pointer r)] w2 fun v9 w10 => asI .i64 v9 fun x11 => (lv x11 fun v_12 => (J6 [(.int .i64 v_12)] w10))) (J6 [(.int .i64 v_3)] w2)))))))
theorem F112_link (r : Option Addr) (i_0 : Int) (i_1 : Int) (i_2 : Int) (w : World) (Q : Value → World → Prop) : fnEv Tryz.prog Tryz.f112 h112 [(.pointer r), (.agg #[(.int .i64 i_0), (.int .i64 i_1), (.int .i64 i_2)])] w Q = F112 r i_0 i_1 i_2 w Q := by kernel_rfl
theorem F112_calls {r : Option Addr} {i_0 : Int} {i_1 : Int} {i_2 : Int} {w : World} {Q : Value → World → Prop} (hF_ : F112 r i_0 i_1 i_2 w Q) : cl Tryz.prog 112 #[(.pointer r), (.agg #[(.int .i64 i_0), (.int .i64 i_1), (.int .i64 i_2)])] w Q :=
  calls_of_ev (fn := Tryz.f112) Tryz.func112 h112 (args := [(.pointer r), (.agg #[(.int .i64 i_0), (.int .i64 i_1), (.int .i64 i_2)])]) (by rw [F112_link]; exact hF_)
def h113 : Hint := .d
set_option linter.unusedVariables false in
def F113 (r : Option Addr) (n : Int) (w : World) (Q : Value → World → Prop) : Prop :=
(dr r fun a1 => (ld w (Addr.add a1 4) fun v2 => asS v2 fun p3 n4 c5 => (lv (IntKind.wrap .i64 ((n4 : Int) - n)) fun k_6 =>
(dr r fun a7 => (ld w (Addr.add a7 4) fun v8 => asS v8 fun p9 n10 c11 => (bn2 k_6 n10 (cl Tryz.prog 22 #[(.slice (slp p9 c11 (Int.toNat k_6) 1) (n10 - (Int.toNat k_6)) (c11 - (Int.toNat k_6)))] w fun v12 w13 => asS v12 fun p14 n15 c16 =>
(dr r fun a17 => (ld w13 (Addr.add a17 4) fun v18 => asS v18 fun p19 n20 c21 => (bn2 k_6 c21 (dr r fun a22 => (st w13 (Addr.add a22 4) (.slice p19 (Int.toNat k_6) c21) fun w23 =>
(Q (.slice p14 n15 c16) w23)))))))))))))
theorem F113_link (r : Option Addr) (n : Int) (w : World) (Q : Value → World → Prop) : fnEv Tryz.prog Tryz.f113 h113 [(.pointer r), (.int .i64 n)] w Q = F113 r n w Q := by kernel_rfl
theorem F113_calls {r : Option Addr} {n : Int} {w : World} {Q : Value → World → Prop} (hF_ : F113 r n w Q) : cl Tryz.prog 113 #[(.pointer r), (.int .i64 n)] w Q :=
  calls_of_ev (fn := Tryz.f113) Tryz.func113 h113 (args := [(.pointer r), (.int .i64 n)]) (by rw [F113_link]; exact hF_)
def h114 : Hint := (.s .d (.s .d (.j [] .d (.s (.o (ofL [0, 1, 2, 3, 4, 5, 6, 7, 8, 9, 10, 11, 12] .nil)) (.s (.o (ofL [0, 1, 2, 3, 4, 5, 6, 7, 8, 9, 10, 11, 12, 13, 14] .nil)) (.s .d (.j [] .d .d)))))))
set_option linter.unusedVariables false in
def F114 (r : Option Addr) (f : Option Addr) (w : World) (Q : Value → World → Prop) : Prop :=
(dr f fun a1 => (ld w a1 fun v2 => asP v2 fun p3 => (dr p3 fun a4 => (ld w (Addr.add a4 2) fun v5 => asI .i64 v5 fun x6 =>
(jn (fun s7 w8 => (dw w8 fun w15 => (dr r fun a16 => (ld w15 (Addr.add a16 4) fun v17 => asS v17 fun p18 n19 c20 => (dr f fun a21 => (ld w15 (Addr.add a21 3) fun v22 => asI .i64 v22 fun x23 => (bn2 x23 c20 (dr r fun a24 => (st w15 (Addr.add a24 4) (.slice p18 (Int.toNat x23) c20) fun w25 =>
(dw w25 fun w26 => (dr r fun a27 => (ld w26 (Addr.add a27 3) fun v28 => asS v28 fun p29 n30 c31 => (dr r fun a32 => (ld w26 (Addr.add a32 3) fun v33 => asS v33 fun p34 n35 c36 => (bn2 (IntKind.wrap .i64 ((n35 : Int) - (1 : Int))) c31 (dr r fun a37 => (st w26 (Addr.add a37 3) (.slice p29 (Int.toNat (IntKind.wrap .i64 ((n35 : Int) - (1 : Int)))) c31) fun w38 =>
(dr r fun a39 => (ld w38 (Addr.add a39 3) fun v40 => asS v40 fun p41 n42 c43 =>
(cond ((n42 : Int) == (0 : Int))
(Q (.bool true) w38)
(jn (fun s44 w45 =>
(Q (.bool false) w45))
 (fun J46 =>
(cond (x6 != (0 : Int)) (dr r fun a47 => (ld w38 (Addr.add a47 9) fun v48 => asI .i64 v48 fun x49 => (cl Tryz.prog 62 #[(.pointer r), (.int .i64 x49)] w38 fun v50 w51 =>
(dr r fun a52 => (st w51 (Addr.add a52 9) (.int .i64 (0 : Int)) fun w53 => (J46 [] w53)))))) (J46 [] w38))))))))))))))))))))))))
 (fun J9 =>
(cond (x6 != (0 : Int)) (cl Tryz.prog 115 #[(.pointer r)] w fun v10 w11 => asI .i64 v10 fun x12 => (dr r fun a13 => (st w11 (Addr.add a13 9) (.int .i64 x12) fun w14 => (J9 [] w14)))) (J9 [] w))))))))
theorem F114_link (r : Option Addr) (f : Option Addr) (w : World) (Q : Value → World → Prop) : fnEv Tryz.prog Tryz.f114 h114 [(.pointer r), (.pointer f)] w Q = F114 r f w Q := by kernel_rfl
theorem F114_calls {r : Option Addr} {f : Option Addr} {w : World} {Q : Value → World → Prop} (hF_ : F114 r f w Q) : cl Tryz.prog 114 #[(.pointer r), (.pointer f)] w Q :=
  calls_of_ev (fn := Tryz.f114) Tryz.func114 h114 (args := [(.pointer r), (.pointer f)]) (by rw [F114_link]; exact hF_)
def h115 : Hint := .d
set_option linter.unusedVariables false in
def F115 (r : Option Addr) (w : World) (Q : Value → World → Prop) : Prop :=
 (lv (0 : Int) fun y1 =>
(dr r fun a2 => (ld w (Addr.add a2 4) fun v3 => asS v3 fun p4 n5 c6 => (lv (IntKind.wrap .i64 ((n5 : Int) - (1 : Int))) fun n_7 =>
(dr r fun a8 => (ld w (Addr.add a8 4) fun v9 => asS v9 fun p10 n11 c12 => (dr p10 fun a13 => (bnd n_7 n11 (ld w (Addr.add a13 (Int.toNat n_7 * 1)) fun v14 => asI .i64 v14 fun x15 => (lv x15 fun v_16 =>
(dr r fun a17 => (ld w (Addr.add a17 4) fun v18 => asS v18 fun p19 n20 c21 => (bn2 n_7 c21 (dr r fun a22 => (st w (Addr.add a22 4) (.slice p19 (Int.toNat n_7) c21) fun w23 =>
(lv v_16 fun y24 =>
(Q (.int .i64 y24) w23)))))))))))))))))
theorem F115_link (r : Option Addr) (w : World) (Q : Value → World → Prop) : fnEv Tryz.prog Tryz.f115 h115 [(.pointer r)] w Q = F115 r w Q := by kernel_rfl
theorem F115_calls {r : Option Addr} {w : World} {Q : Value → World → Prop} (hF_ : F115 r w Q) : cl Tryz.prog 115 #[(.pointer r)] w Q :=
  calls_of_ev (fn := Tryz.f115) Tryz.func115 h115 (args := [(.pointer r)]) (by rw [F115_link]; exact hF_)
def h116 : Hint := .d
set_option linter.unusedVariables false in
def F116 (op : Int) (w : World) (Q : Value → World → Prop) : Prop :=
 (lvv Value.nilFunc fun y1 =>
(cond (op == (8 : Int))
(Q (.func (.func 164) #[] #[]) w)
(cond (op == (9 : Int))
(Q (.func (.func 165) #[] #[]) w)
(cond (op == (10 : Int))
(Q (.func (.func 166) #[] #[]) w)
(cond (op == (11 : Int))
(Q (.func (.func 167) #[] #[]) w)
(cond (op == (12 : Int))
(Q (.func (.func 168) #[] #[]) w)
(cond (op == (14 : Int))
(Q (.func (.func 169) #[] #[]) w)
(cond (op == (15 : Int))
(Q (.func (.func 161) #[] #[]) w)
(cond (op == (16 : Int))
(Q (.func (.func 170) #[] #[]) w)
(cond (op == (17 : Int))
(Q (.func (.func 171) #[] #[]) w)
(cond (op == (19 : Int))
(Q (.func (.func 173) #[] #[]) w)
(cond (op == (20 : Int))
(Q (.func (.func 174) #[] #[]) w)
(cond (op == (21 : Int))
(Q (.func (.func 175) #[] #[]) w)
(cond (op == (22 : Int))
(Q (.func (.func 176) #[] #[]) w)
(cond (op == (23 : Int))
(Q (.func (.func 177) #[] #[]) w)
(Q (.func (.func 178) #[] #[]) w))))))))))))))))
theorem F116_link (op : Int) (w : World) (Q : Value → World → Prop) : fnEv Tryz.prog Tryz.f116 h116 [(.int .i64 op)] w Q = F116 op w Q := by kernel_rfl
theorem F116_calls {op : Int} {w : World} {Q : Value → World → Prop} (hF_ : F116 op w Q) : cl Tryz.prog 116 #[(.int .i64 op)] w Q :=
  calls_of_ev (fn := Tryz.f116) Tryz.func116 h116 (args := [(.int .i64 op)]) (by rw [F116_link]; exact hF_)
def h117 : Hint := (.s .d (.j [(2, 4)] .d .d))
set_option linter.unusedVariables false in
def F117 (c : Int) (w : World) (Q : Value → World → Prop) : Prop :=
(jn (fun s1 w2 => asB (s1.getD 0 undef) fun b4 => (Q (.bool b4) w2))
 (fun J3 => (cond (decide ((97 : Int) ≤ c)) (cond (decide (c ≤ (122 : Int))) (J3 [(.bool true)] w) (J3 [(.bool (c == (95 : Int)))] w)) (J3 [(.bool (c == (95 : Int)))] w))))
theorem F117_link (c : Int) (w : World) (Q : Value → World → Prop) : fnEv Tryz.prog Tryz.f117 h117 [(.int .u8 c)] w Q = F117 c w Q := by kernel_rfl
theorem F117_calls {c : Int} {w : World} {Q : Value → World → Prop} (hF_ : F117 c w Q) : cl Tryz.prog 117 #[(.int .u8 c)] w Q :=
  calls_of_ev (fn := Tryz.f117) Tryz.func117 h117 (args := [(.int .u8 c)]) (by rw [F117_link]; exact hF_)
def h118 : Hint := (.s .d (.j [(2, 4)] .d .d))
set_option linter.unusedVariables false in
def F118 (c : Int) (w : World) (Q : Value → World → Prop) : Prop :=
(jn (fun s1 w2 => asB (s1.getD 0 undef) fun b10 => (Q (.bool b10) w2))
 (fun J3 => (cl Tryz.prog 117 #[(.int .u8 c)] w fun v4 w5 => asB v4 fun b6 => (cond b6 (J3 [(.bool true)] w5) (cl Tryz.prog 120 #[(.int .u8 c)] w5 fun v7 w8 => asB v7 fun b9 => (J3 [(.bool b9)] w8))))))
theorem F118_link (c : Int) (w : World) (Q : Value → World → Prop) : fnEv Tryz.prog Tryz.f118 h118 [(.int .u8 c)] w Q = F118 c w Q := by kernel_rfl
theorem F118_calls {c : Int} {w : World} {Q : Value → World → Prop} (hF_ : F118 c w Q) : cl Tryz.prog 118 #[(.int .u8 c)] w Q :=
  calls_of_ev (fn := Tryz.f118) Tryz.func118 h118 (args := [(.int .u8 c)]) (by rw [F118_link]; exact hF_)
def h119 : Hint := (.s .d (.s (.s .d (.j [(4, 4)] .d .d)) .d))
set_option linter.unusedVariables false in
def F119 (s : ByteArray) (w : World) (Q : Value → World → Prop) : Prop :=
(jn (fun s1 w2 => asB (s1.getD 0 undef) fun b4 => (cond b4
(Q (.bool true) w2)
(Q (.bool false) w2)))
 (fun J3 =>
(cond (ByteArray.toList s == ByteArray.toList (⟨#[98, 111, 111, 108]⟩ : ByteArray)) (J3 [(.bool (ByteArray.toList s == ByteArray.toList (⟨#[98, 111, 111, 108]⟩ : ByteArray)))] w)
(cond (ByteArray.toList s == ByteArray.toList (⟨#[101, 108, 115, 101]⟩ : ByteArray)) (J3 [(.bool (ByteArray.toList s == ByteArray.toList (⟨#[101, 108, 115, 101]⟩ : ByteArray)))] w)
(cond (ByteArray.toList s == ByteArray.toList (⟨#[101, 110, 116]⟩ : ByteArray)) (J3 [(.bool (ByteArray.toList s == ByteArray.toList (⟨#[101, 110, 116]⟩ : ByteArray)))] w)
(cond (ByteArray.toList s == ByteArray.toList (⟨#[102, 97, 108, 115, 101]⟩ : ByteArray)) (J3 [(.bool (ByteArray.toList s == ByteArray.toList (⟨#[102, 97, 108, 115, 101]⟩ : ByteArray)))] w)
(cond (ByteArray.toList s == ByteArray.toList (⟨#[102, 105, 120]⟩ : ByteArray)) (J3 [(.bool (ByteArray.toList s == ByteArray.toList (⟨#[102, 105, 120]⟩ : ByteArray)))] w)
(cond (ByteArray.toList s == ByteArray.toList (⟨#[102, 110]⟩ : ByteArray)) (J3 [(.bool (ByteArray.toList s == ByteArray.toList (⟨#[102, 110]⟩ : ByteArray)))] w)
(cond (ByteArray.toList s == ByteArray.toList (⟨#[105, 102]⟩ : ByteArray)) (J3 [(.bool (ByteArray.toList s == ByteArray.toList (⟨#[105, 102]⟩ : ByteArray)))] w)
(cond (ByteArray.toList s == ByteArray.toList (⟨#[105, 110, 116]⟩ : ByteArray)) (J3 [(.bool (ByteArray.toList s == ByteArray.toList (⟨#[105, 110, 116]⟩ : ByteArray)))] w)
(cond (ByteArray.toList s == ByteArray.toList (⟨#[108, 101, 116]⟩ : ByteArray)) (J3 [(.bool (ByteArray.toList s == ByteArray.toList (⟨#[108, 101, 116]⟩ : ByteArray)))] w)
(cond (ByteArray.toList s == ByteArray.toList (⟨#[110, 117, 108, 108]⟩ : ByteArray)) (J3 [(.bool (ByteArray.toList s == ByteArray.toList (⟨#[110, 117, 108, 108]⟩ : ByteArray)))] w)
(cond (ByteArray.toList s == ByteArray.toList (⟨#[114, 101, 116, 117, 114, 110]⟩ : ByteArray)) (J3 [(.bool (ByteArray.toList s == ByteArray.toList (⟨#[114, 101, 116, 117, 114, 110]⟩ : ByteArray)))] w)
(cond (ByteArray.toList s == ByteArray.toList (⟨#[116, 114, 117, 101]⟩ : ByteArray)) (J3 [(.bool (ByteArray.toList s == ByteArray.toList (⟨#[116, 114, 117, 101]⟩ : ByteArray)))] w)
(cond (ByteArray.toList s == ByteArray.toList (⟨#[118, 97, 114]⟩ : ByteArray)) (J3 [(.bool (ByteArray.toList s == ByteArray.toList (⟨#[118, 97, 114]⟩ : ByteArray)))] w) (J3 [(.bool (ByteArray.toList s == ByteArray.toList (⟨#[119, 104, 105, 108, 101]⟩ : ByteArray)))] w))))))))))))))))
theorem F119_link (s : ByteArray) (w : World) (Q : Value → World → Prop) : fnEv Tryz.prog Tryz.f119 h119 [(.string s)] w Q = F119 s w Q := by kernel_rfl
theorem F119_calls {s : ByteArray} {w : World} {Q : Value → World → Prop} (hF_ : F119 s w Q) : cl Tryz.prog 119 #[(.string s)] w Q :=
  calls_of_ev (fn := Tryz.f119) Tryz.func119 h119 (args := [(.string s)]) (by rw [F119_link]; exact hF_)
def h120 : Hint := (.s .d (.j [(2, 4)] .d .d))
set_option linter.unusedVariables false in
def F120 (c : Int) (w : World) (Q : Value → World → Prop) : Prop :=
(jn (fun s1 w2 => asB (s1.getD 0 undef) fun b4 => (Q (.bool b4) w2))
 (fun J3 => (cond (decide ((48 : Int) ≤ c)) (J3 [(.bool (decide (c ≤ (57 : Int))))] w) (J3 [(.bool false)] w))))
theorem F120_link (c : Int) (w : World) (Q : Value → World → Prop) : fnEv Tryz.prog Tryz.f120 h120 [(.int .u8 c)] w Q = F120 c w Q := by kernel_rfl
theorem F120_calls {c : Int} {w : World} {Q : Value → World → Prop} (hF_ : F120 c w Q) : cl Tryz.prog 120 #[(.int .u8 c)] w Q :=
  calls_of_ev (fn := Tryz.f120) Tryz.func120 h120 (args := [(.int .u8 c)]) (by rw [F120_link]; exact hF_)
def h141 : Hint := (.s .d (.g 5 [] [(.j [(19, 4)] .d .d), .d, (.s .d (.l [(9, 252), (24, 3)] (.s .d (.s .d (.s (.s .d (.s .d (.s (.j [(37, 4)] .d .d) (.s .d (.s .d (.s (.s (.j [(53, 4)] .d .d) .d) .d)))))) .d))))), .d, .d] .d))
set_option linter.unusedVariables false in
def F141 (b : Option Addr) (b_n b_c : Nat) (at' : Int) (most : Int) (w : World) (Q : Value → World → Prop) : Prop :=
 (lv (0 : Int) fun y1 => (lv (0 : Int) fun y2 => (lv (0 : Int) fun y3 =>
(jn (fun s4 w5 => asB (s4.getD 0 undef) fun b7 => (cond b7 (lv (0 : Int) fun y8 => (lv (0 : Int) fun y9 => (lv (1 : Int) fun y10 =>
(Q (.tuple #[(.int .u64 y8), (.int .i64 y9), (.int .i64 y10)]) w5)))) (lv (0 : Int) fun z_11 => (bn2 at' b_n
(lp [(.int .u64 z_11), (.int .i64 (0 : Int))] w5 fun J14 s12 w13 => asI .u64 (s12.getD 0 undef) fun x15 => asI .i64 (s12.getD 1 undef) fun x16 =>
(cond (decide (x16 < (((b_n - (Int.toNat at')) : Nat) : Int)))
(dr (slp b b_c (Int.toNat at') 1) fun a17 => (bnd x16 (b_n - (Int.toNat at')) (ld w13 (Addr.add a17 (Int.toNat x16 * 1)) fun v18 => asI .u8 v18 fun x19 => (lv x16 fun i_20 => (lv x19 fun c_21 =>
(cond (i_20 == most) (lp [] w13 fun J24 s22 w23 => (lv (0 : Int) fun y25 => (lv (0 : Int) fun y26 => (lv (20 : Int) fun y27 =>
(Q (.tuple #[(.int .u64 y25), (.int .i64 y26), (.int .i64 y27)]) w23)))))
(jn (fun s28 w29 => asB (s28.getD 0 undef) fun b31 => (cond b31 (lp [] w29 fun J34 s32 w33 => (lv (0 : Int) fun y35 => (lv (0 : Int) fun y36 => (lv (20 : Int) fun y37 =>
(Q (.tuple #[(.int .u64 y35), (.int .i64 y36), (.int .i64 y37)]) w33)))))
(nn (IntKind.wrap .i64 ((7 : Int) * i_20)) (lv (Go.bits .or .u64 x15 (IntKind.wrap .u64 ((IntKind.wrap .u64 (Go.bits .and .u8 c_21 (127 : Int))) * 2 ^ (min (Int.toNat (IntKind.wrap .i64 ((7 : Int) * i_20))) 64)))) fun z_38 =>
(cond (decide (c_21 < (128 : Int))) (jn (fun s39 w40 => asB (s39.getD 0 undef) fun b42 => (cond b42 (lp [] w40 fun J45 s43 w44 => (lv (0 : Int) fun y46 => (lv (0 : Int) fun y47 => (lv (20 : Int) fun y48 =>
(Q (.tuple #[(.int .u64 y46), (.int .i64 y47), (.int .i64 y48)]) w44)))))
(lv z_38 fun y49 => (lv (IntKind.wrap .i64 ((IntKind.wrap .i64 (at' + i_20)) + (1 : Int))) fun y50 => (lv (0 : Int) fun y51 =>
(Q (.tuple #[(.int .u64 y49), (.int .i64 y50), (.int .i64 y51)]) w40))))))
 (fun J41 => (cond (c_21 == (0 : Int)) (J41 [(.bool (decide (i_20 > (0 : Int))))] w29) (J41 [(.bool false)] w29))))
(J14 [(.int .u64 z_38), (.int .i64 (IntKind.wrap .i64 (x16 + (1 : Int))))] w29))))))
 (fun J30 => (cond (i_20 == (9 : Int)) (J30 [(.bool (decide (c_21 > (1 : Int))))] w13) (J30 [(.bool false)] w13))))))))))
(cond (decide ((IntKind.wrap .i64 ((b_n : Int) - at')) ≥ most)) (lp [] w13 fun J54 s52 w53 => (lv (0 : Int) fun y55 => (lv (0 : Int) fun y56 => (lv (20 : Int) fun y57 =>
(Q (.tuple #[(.int .u64 y55), (.int .i64 y56), (.int .i64 y57)]) w53))))) (lv (0 : Int) fun y58 => (lv (0 : Int) fun y59 => (lv (3 : Int) fun y60 =>
(Q (.tuple #[(.int .u64 y58), (.int .i64 y59), (.int .i64 y60)]) w13)))))))))))
 (fun J6 => (cond (decide (at' < (0 : Int))) (J6 [(.bool true)] w) (J6 [(.bool (decide (at' > (b_n : Int))))] w)))))))
theorem F141_link (b : Option Addr) (b_n b_c : Nat) (at' : Int) (most : Int) (w : World) (Q : Value → World → Prop) : fnEv Tryz.prog Tryz.f141 h141 [(.slice b b_n b_c), (.int .i64 at'), (.int .i64 most)] w Q = F141 b b_n b_c at' most w Q := by kernel_rfl
theorem F141_calls {b : Option Addr} {b_n b_c : Nat} {at' : Int} {most : Int} {w : World} {Q : Value → World → Prop} (hF_ : F141 b b_n b_c at' most w Q) : cl Tryz.prog 141 #[(.slice b b_n b_c), (.int .i64 at'), (.int .i64 most)] w Q :=
  calls_of_ev (fn := Tryz.f141) Tryz.func141 h141 (args := [(.slice b b_n b_c), (.int .i64 at'), (.int .i64 most)]) (by rw [F141_link]; exact hF_)
def h142 : Hint := .d
set_option linter.unusedVariables false in
def F142 (s : Option Addr) (s_n s_c : Nat) (f : Nat) (f_fs f_cs : Array Value) (w : World) (Q : Value → World → Prop) : Prop :=
(cl Tryz.prog 202 #[(.slice s s_n s_c), (.func (.func f) f_fs f_cs)] w fun v1 w2 => asI .i64 v1 fun x3 =>
(Q (.bool (decide (x3 ≥ (0 : Int)))) w2))
theorem F142_link (s : Option Addr) (s_n s_c : Nat) (f : Nat) (f_fs f_cs : Array Value) (w : World) (Q : Value → World → Prop) : fnEv Tryz.prog Tryz.f142 h142 [(.slice s s_n s_c), (.func (.func f) f_fs f_cs)] w Q = F142 s s_n s_c f f_fs f_cs w Q := by kernel_rfl
theorem F142_calls {s : Option Addr} {s_n s_c : Nat} {f : Nat} {f_fs f_cs : Array Value} {w : World} {Q : Value → World → Prop} (hF_ : F142 s s_n s_c f f_fs f_cs w Q) : cl Tryz.prog 142 #[(.slice s s_n s_c), (.func (.func f) f_fs f_cs)] w Q :=
  calls_of_ev (fn := Tryz.f142) Tryz.func142 h142 (args := [(.slice s s_n s_c), (.func (.func f) f_fs f_cs)]) (by rw [F142_link]; exact hF_)
def h143 : Hint := .d
set_option linter.unusedVariables false in
def F143 (t : Int) (w : World) (Q : Value → World → Prop) : Prop :=
(cl Tryz.prog 97 #[(.int .i64 t)] w fun v1 w2 => asB v1 fun b3 =>
(Q (.bool (!b3)) w2))
theorem F143_link (t : Int) (w : World) (Q : Value → World → Prop) : fnEv Tryz.prog Tryz.f143 h143 [(.int .i64 t)] w Q = F143 t w Q := by kernel_rfl
theorem F143_calls {t : Int} {w : World} {Q : Value → World → Prop} (hF_ : F143 t w Q) : cl Tryz.prog 143 #[(.int .i64 t)] w Q :=
  calls_of_ev (fn := Tryz.f143) Tryz.func143 h143 (args := [(.int .i64 t)]) (by rw [F143_link]; exact hF_)
def h144 : Hint := (.s .d (.s (.s .d (.l [(8, 3)] .d)) .d))
set_option linter.unusedVariables false in
def F144 (s : Option Addr) (s_n s_c : Nat) (f : Nat) (f_fs f_cs : Array Value) (w : World) (Q : Value → World → Prop) : Prop :=
 (lv (0 : Int) fun y1 =>
(lp [(.int .i64 (0 : Int))] w fun J4 s2 w3 => asI .i64 (s2.getD 0 undef) fun x5 =>
(cond (decide (x5 < (s_n : Int)))
(lv x5 fun i_6 =>
(dr s fun a7 => (bnd i_6 s_n (ld w3 (Addr.add a7 (Int.toNat i_6 * 3)) fun v8 => asI .i64 v8 fun x9 => (ld w3 (Addr.add (Addr.add a7 (Int.toNat i_6 * 3)) 1) fun v10 => asI .i64 v10 fun x11 => (ld w3 (Addr.add (Addr.add a7 (Int.toNat i_6 * 3)) 2) fun v12 => asI .i64 v12 fun x13 => (cond (callOk Tryz.prog f) (cl Tryz.prog f (f_fs ++ #[(.agg #[(.int .i64 x9), (.int .i64 x11), (.int .i64 x13)])] ++ f_cs) w3 fun v14 w15 => asB v14 fun b16 =>
(cond b16 (lv i_6 fun y17 =>
(Q (.int .i64 y17) w15))
(J4 [(.int .i64 (IntKind.wrap .i64 (x5 + (1 : Int))))] w15))) (xt Tryz.prog f (f_fs ++ #[(.agg #[(.int .i64 x9), (.int .i64 x11), (.int .i64 x13)])] ++ f_cs) w3 fun v14 w15 => asB v14 fun b16 =>
(cond b16 (lv i_6 fun y17 =>
(Q (.int .i64 y17) w15))
(J4 [(.int .i64 (IntKind.wrap .i64 (x5 + (1 : Int))))] w15))))))))))
(lv (-1 : Int) fun y18 =>
(Q (.int .i64 y18) w3)))))
theorem F144_link (s : Option Addr) (s_n s_c : Nat) (f : Nat) (f_fs f_cs : Array Value) (w : World) (Q : Value → World → Prop) : fnEv Tryz.prog Tryz.f144 h144 [(.slice s s_n s_c), (.func (.func f) f_fs f_cs)] w Q = F144 s s_n s_c f f_fs f_cs w Q := by kernel_rfl
theorem F144_calls {s : Option Addr} {s_n s_c : Nat} {f : Nat} {f_fs f_cs : Array Value} {w : World} {Q : Value → World → Prop} (hF_ : F144 s s_n s_c f f_fs f_cs w Q) : cl Tryz.prog 144 #[(.slice s s_n s_c), (.func (.func f) f_fs f_cs)] w Q :=
  calls_of_ev (fn := Tryz.f144) Tryz.func144 h144 (args := [(.slice s s_n s_c), (.func (.func f) f_fs f_cs)]) (by rw [F144_link]; exact hF_)
def h145 : Hint := (.s .d (.s .d (.s (.s .d (.l [(0, 22), (15, 3)] .d)) .d)))
set_option linter.unusedVariables false in
def F145 (b : Option Addr) (b_n b_c : Nat) (l : Option Addr) (l_n l_c : Nat) (put : Nat) (put_fs put_cs : Array Value) (w : World) (Q : Value → World → Prop) : Prop :=
(cl Tryz.prog 148 #[(.slice b b_n b_c), (.int .i64 (l_n : Int))] w fun v1 w2 => asS v1 fun p3 n4 c5 =>
(lp [(.slice p3 n4 c5), (.int .i64 (0 : Int))] w2 fun J8 s6 w7 => asS (s6.getD 0 undef) fun p9 n10 c11 => asI .i64 (s6.getD 1 undef) fun x12 =>
(cond (decide (x12 < (l_n : Int)))
(dr l fun a13 => (bnd x12 l_n (ld w7 (Addr.add a13 (Int.toNat x12 * 3)) fun v14 => asI .i64 v14 fun x15 => (ld w7 (Addr.add (Addr.add a13 (Int.toNat x12 * 3)) 1) fun v16 => asI .i64 v16 fun x17 => (ld w7 (Addr.add (Addr.add a13 (Int.toNat x12 * 3)) 2) fun v18 => asI .i64 v18 fun x19 => (nw w7 (.cells #[(.int .i64 (0 : Int)), (.int .i64 (0 : Int)), (.int .i64 (0 : Int))] 65) fun r20 w21 => (st w21 (⟨r20, 0, none⟩ : Addr) (.int .i64 x15) fun w22 => (st w22 (Addr.add (⟨r20, 0, none⟩ : Addr) 1) (.int .i64 x17) fun w23 => (st w23 (Addr.add (⟨r20, 0, none⟩ : Addr) 2) (.int .i64 x19) fun w24 =>
(ld w24 (⟨r20, 0, none⟩ : Addr) fun v25 => asI .i64 v25 fun x26 => (ld w24 (Addr.add (⟨r20, 0, none⟩ : Addr) 1) fun v27 => asI .i64 v27 fun x28 => (ld w24 (Addr.add (⟨r20, 0, none⟩ : Addr) 2) fun v29 => asI .i64 v29 fun x30 => (cond (callOk Tryz.prog put) (cl Tryz.prog put (put_fs ++ #[(.slice p9 n10 c11), (.agg #[(.int .i64 x26), (.int .i64 x28), (.int .i64 x30)])] ++ put_cs) w24 fun v31 w32 => asS v31 fun p33 n34 c35 =>
(J8 [(.slice p33 n34 c35), (.int .i64 (IntKind.wrap .i64 (x12 + (1 : Int))))] w32)) (xt Tryz.prog put (put_fs ++ #[(.slice p9 n10 c11), (.agg #[(.int .i64 x26), (.int .i64 x28), (.int .i64 x30)])] ++ put_cs) w24 fun v31 w32 => asS v31 fun p33 n34 c35 =>
(J8 [(.slice p33 n34 c35), (.int .i64 (IntKind.wrap .i64 (x12 + (1 : Int))))] w32)))))))))))))))
(Q (.slice p9 n10 c11) w7))))
theorem F145_link (b : Option Addr) (b_n b_c : Nat) (l : Option Addr) (l_n l_c : Nat) (put : Nat) (put_fs put_cs : Array Value) (w : World) (Q : Value → World → Prop) : fnEv Tryz.prog Tryz.f145 h145 [(.slice b b_n b_c), (.slice l l_n l_c), (.func (.func put) put_fs put_cs)] w Q = F145 b b_n b_c l l_n l_c put put_fs put_cs w Q := by kernel_rfl
theorem F145_calls {b : Option Addr} {b_n b_c : Nat} {l : Option Addr} {l_n l_c : Nat} {put : Nat} {put_fs put_cs : Array Value} {w : World} {Q : Value → World → Prop} (hF_ : F145 b b_n b_c l l_n l_c put put_fs put_cs w Q) : cl Tryz.prog 145 #[(.slice b b_n b_c), (.slice l l_n l_c), (.func (.func put) put_fs put_cs)] w Q :=
  calls_of_ev (fn := Tryz.f145) Tryz.func145 h145 (args := [(.slice b b_n b_c), (.slice l l_n l_c), (.func (.func put) put_fs put_cs)]) (by rw [F145_link]; exact hF_)
def h146 : Hint := (.s .d (.s (.o (ofL [0, 1, 2, 4, 5, 7, 8, 3, 6, 9, 10] .nil)) .d))
set_option linter.unusedVariables false in
def F146 (b : Option Addr) (b_n b_c : Nat) (g_0 : Int) (g_1 : Int) (g_2 : Int) (w : World) (Q : Value → World → Prop) : Prop :=
 (nw w (.cells #[(.int .i64 g_0), (.int .i64 g_1), (.int .i64 g_2)] 65) fun r1 w2 =>
(dw w2 fun w3 => (ld w3 (⟨r1, 0, none⟩ : Addr) fun v4 => asI .i64 v4 fun x5 => (ld w3 (Addr.add (⟨r1, 0, none⟩ : Addr) 1) fun v6 => asI .i64 v6 fun x7 => (ld w3 (Addr.add (⟨r1, 0, none⟩ : Addr) 2) fun v8 => asI .i64 v8 fun x9 => (cl Tryz.prog 148 #[(.slice b b_n b_c), (.int .i64 x5)] w3 fun v10 w11 => asS v10 fun p12 n13 c14 => (hd w11 (Addr.add (⟨r1, 0, none⟩ : Addr) 2) (.int .i64 x9) (hd w11 (Addr.add (⟨r1, 0, none⟩ : Addr) 1) (.int .i64 x7) (cl Tryz.prog 148 #[(.slice p12 n13 c14), (.int .i64 x7)] w11 fun v15 w16 => asS v15 fun p17 n18 c19 => (hd w16 (Addr.add (⟨r1, 0, none⟩ : Addr) 2) (.int .i64 x9) (cl Tryz.prog 147 #[(.slice p17 n18 c19), (.int .i64 x9)] w16 fun v20 w21 => asS v20 fun p22 n23 c24 =>
(Q (.slice p22 n23 c24) w21))))))))))))
theorem F146_link (b : Option Addr) (b_n b_c : Nat) (g_0 : Int) (g_1 : Int) (g_2 : Int) (w : World) (Q : Value → World → Prop) : fnEv Tryz.prog Tryz.f146 h146 [(.slice b b_n b_c), (.agg #[(.int .i64 g_0), (.int .i64 g_1), (.int .i64 g_2)])] w Q = F146 b b_n b_c g_0 g_1 g_2 w Q := by kernel_rfl
theorem F146_calls {b : Option Addr} {b_n b_c : Nat} {g_0 : Int} {g_1 : Int} {g_2 : Int} {w : World} {Q : Value → World → Prop} (hF_ : F146 b b_n b_c g_0 g_1 g_2 w Q) : cl Tryz.prog 146 #[(.slice b b_n b_c), (.agg #[(.int .i64 g_0), (.int .i64 g_1), (.int .i64 g_2)])] w Q :=
  calls_of_ev (fn := Tryz.f146) Tryz.func146 h146 (args := [(.slice b b_n b_c), (.agg #[(.int .i64 g_0), (.int .i64 g_1), (.int .i64 g_2)])]) (by rw [F146_link]; exact hF_)
def h147 : Hint := .d
set_option linter.unusedVariables false in
def F147 (b : Option Addr) (b_n b_c : Nat) (n : Int) (w : World) (Q : Value → World → Prop) : Prop :=
(cl Tryz.prog 203 #[(.slice none 0 0), (.int .i64 n)] w fun v1 w2 => asS v1 fun p3 n4 c5 => (rn Tryz.prog (Builtin.append_ #[22, 22] 22 #[(.slice b b_n b_c), (.slice p3 n4 c5)]) w2 fun v6 w7 => asS v6 fun p8 n9 c10 =>
(Q (.slice p8 n9 c10) w7)))
theorem F147_link (b : Option Addr) (b_n b_c : Nat) (n : Int) (w : World) (Q : Value → World → Prop) : fnEv Tryz.prog Tryz.f147 h147 [(.slice b b_n b_c), (.int .i64 n)] w Q = F147 b b_n b_c n w Q := by kernel_rfl
theorem F147_calls {b : Option Addr} {b_n b_c : Nat} {n : Int} {w : World} {Q : Value → World → Prop} (hF_ : F147 b b_n b_c n w Q) : cl Tryz.prog 147 #[(.slice b b_n b_c), (.int .i64 n)] w Q :=
  calls_of_ev (fn := Tryz.f147) Tryz.func147 h147 (args := [(.slice b b_n b_c), (.int .i64 n)]) (by rw [F147_link]; exact hF_)
def h148 : Hint := .d
set_option linter.unusedVariables false in
def F148 (b : Option Addr) (b_n b_c : Nat) (n : Int) (w : World) (Q : Value → World → Prop) : Prop :=
(cl Tryz.prog 204 #[(.slice none 0 0), (.int .i64 n)] w fun v1 w2 => asT 2 v1 fun t3 => asS (t3 0) fun p4 n5 c6 => asI .i64 (t3 1) fun x7 => (lv x7 fun __8 =>
(rn Tryz.prog (Builtin.append_ #[22, 22] 22 #[(.slice b b_n b_c), (.slice p4 n5 c6)]) w2 fun v9 w10 => asS v9 fun p11 n12 c13 =>
(Q (.slice p11 n12 c13) w10))))
theorem F148_link (b : Option Addr) (b_n b_c : Nat) (n : Int) (w : World) (Q : Value → World → Prop) : fnEv Tryz.prog Tryz.f148 h148 [(.slice b b_n b_c), (.int .i64 n)] w Q = F148 b b_n b_c n w Q := by kernel_rfl
theorem F148_calls {b : Option Addr} {b_n b_c : Nat} {n : Int} {w : World} {Q : Value → World → Prop} (hF_ : F148 b b_n b_c n w Q) : cl Tryz.prog 148 #[(.slice b b_n b_c), (.int .i64 n)] w Q :=
  calls_of_ev (fn := Tryz.f148) Tryz.func148 h148 (args := [(.slice b b_n b_c), (.int .i64 n)]) (by rw [F148_link]; exact hF_)
def h149 : Hint := (.s .d (.s .d (.s (.s .d (.l [(0, 22), (15, 3)] .d)) .d)))
set_option linter.unusedVariables false in
def F149 (b : Option Addr) (b_n b_c : Nat) (l : Option Addr) (l_n l_c : Nat) (put : Nat) (put_fs put_cs : Array Value) (w : World) (Q : Value → World → Prop) : Prop :=
(cl Tryz.prog 148 #[(.slice b b_n b_c), (.int .i64 (l_n : Int))] w fun v1 w2 => asS v1 fun p3 n4 c5 =>
(lp [(.slice p3 n4 c5), (.int .i64 (0 : Int))] w2 fun J8 s6 w7 => asS (s6.getD 0 undef) fun p9 n10 c11 => asI .i64 (s6.getD 1 undef) fun x12 =>
(cond (decide (x12 < (l_n : Int)))
(dr l fun a13 => (bnd x12 l_n (ld w7 (Addr.add a13 (Int.toNat x12 * 5)) fun v14 => asY v14 fun s15 => (ld w7 (Addr.add (Addr.add a13 (Int.toNat x12 * 5)) 1) fun v16 => asS v16 fun p17 n18 c19 => (ld w7 (Addr.add (Addr.add a13 (Int.toNat x12 * 5)) 2) fun v20 => asI .i64 v20 fun x21 => (ld w7 (Addr.add (Addr.add a13 (Int.toNat x12 * 5)) 3) fun v22 => asS v22 fun p23 n24 c25 => (ld w7 (Addr.add (Addr.add a13 (Int.toNat x12 * 5)) 4) fun v26 => asS v26 fun p27 n28 c29 => (nw w7 (.cells #[(.string ByteArray.empty), (.slice none 0 0), (.int .i64 (0 : Int)), (.slice none 0 0), (.slice none 0 0)] 42) fun r30 w31 => (st w31 (⟨r30, 0, none⟩ : Addr) (.string s15) fun w32 => (st w32 (Addr.add (⟨r30, 0, none⟩ : Addr) 1) (.slice p17 n18 c19) fun w33 => (st w33 (Addr.add (⟨r30, 0, none⟩ : Addr) 2) (.int .i64 x21) fun w34 => (st w34 (Addr.add (⟨r30, 0, none⟩ : Addr) 3) (.slice p23 n24 c25) fun w35 => (st w35 (Addr.add (⟨r30, 0, none⟩ : Addr) 4) (.slice p27 n28 c29) fun w36 =>
(ld w36 (⟨r30, 0, none⟩ : Addr) fun v37 => asY v37 fun s38 => (ld w36 (Addr.add (⟨r30, 0, none⟩ : Addr) 1) fun v39 => asS v39 fun p40 n41 c42 => (ld w36 (Addr.add (⟨r30, 0, none⟩ : Addr) 2) fun v43 => asI .i64 v43 fun x44 => (ld w36 (Addr.add (⟨r30, 0, none⟩ : Addr) 3) fun v45 => asS v45 fun p46 n47 c48 => (ld w36 (Addr.add (⟨r30, 0, none⟩ : Addr) 4) fun v49 => asS v49 fun p50 n51 c52 => (cond (callOk Tryz.prog put) (cl Tryz.prog put (put_fs ++ #[(.slice p9 n10 c11), (.agg #[(.string s38), (.slice p40 n41 c42), (.int .i64 x44), (.slice p46 n47 c48), (.slice p50 n51 c52)])] ++ put_cs) w36 fun v53 w54 => asS v53 fun p55 n56 c57 =>
(J8 [(.slice p55 n56 c57), (.int .i64 (IntKind.wrap .i64 (x12 + (1 : Int))))] w54)) (xt Tryz.prog put (put_fs ++ #[(.slice p9 n10 c11), (.agg #[(.string s38), (.slice p40 n41 c42), (.int .i64 x44), (.slice p46 n47 c48), (.slice p50 n51 c52)])] ++ put_cs) w36 fun v53 w54 => asS v53 fun p55 n56 c57 =>
(J8 [(.slice p55 n56 c57), (.int .i64 (IntKind.wrap .i64 (x12 + (1 : Int))))] w54)))))))))))))))))))))
(Q (.slice p9 n10 c11) w7))))
theorem F149_link (b : Option Addr) (b_n b_c : Nat) (l : Option Addr) (l_n l_c : Nat) (put : Nat) (put_fs put_cs : Array Value) (w : World) (Q : Value → World → Prop) : fnEv Tryz.prog Tryz.f149 h149 [(.slice b b_n b_c), (.slice l l_n l_c), (.func (.func put) put_fs put_cs)] w Q = F149 b b_n b_c l l_n l_c put put_fs put_cs w Q := by kernel_rfl
theorem F149_calls {b : Option Addr} {b_n b_c : Nat} {l : Option Addr} {l_n l_c : Nat} {put : Nat} {put_fs put_cs : Array Value} {w : World} {Q : Value → World → Prop} (hF_ : F149 b b_n b_c l l_n l_c put put_fs put_cs w Q) : cl Tryz.prog 149 #[(.slice b b_n b_c), (.slice l l_n l_c), (.func (.func put) put_fs put_cs)] w Q :=
  calls_of_ev (fn := Tryz.f149) Tryz.func149 h149 (args := [(.slice b b_n b_c), (.slice l l_n l_c), (.func (.func put) put_fs put_cs)]) (by rw [F149_link]; exact hF_)
def h150 : Hint := (.s .d (.s .d (.s (.o (ofL [0, 1, 3, 4, 2, 5, 6] .nil)) (.s (.o (ofL [0, 1, 2, 4, 5, 6, 7, 8, 9, 3, 10, 11] .nil)) .d))))
set_option linter.unusedVariables false in
def F150 (b : Option Addr) (b_n b_c : Nat) (f_0 : ByteArray) (f_1 : Option Addr) (f_1_n f_1_c : Nat) (f_2 : Int) (f_3 : Option Addr) (f_3_n f_3_c : Nat) (f_4 : Option Addr) (f_4_n f_4_c : Nat) (w : World) (Q : Value → World → Prop) : Prop :=
 (nw w (.cells #[(.string f_0), (.slice f_1 f_1_n f_1_c), (.int .i64 f_2), (.slice f_3 f_3_n f_3_c), (.slice f_4 f_4_n f_4_c)] 42) fun r1 w2 =>
(ld w2 (⟨r1, 0, none⟩ : Addr) fun v3 => asY v3 fun s4 => (cl Tryz.prog 151 #[(.slice none 0 0), (.string s4)] w2 fun v5 w6 => asT 2 v5 fun t7 => asS (t7 0) fun p8 n9 c10 => asI .i64 (t7 1) fun x11 => (lv x11 fun __12 =>
(dw w6 fun w13 => (ld w13 (Addr.add (⟨r1, 0, none⟩ : Addr) 1) fun v14 => asS v14 fun p15 n16 c17 => (rn Tryz.prog (Builtin.append_ #[22, 22] 22 #[(.slice b b_n b_c), (.slice p8 n9 c10)]) w13 fun v18 w19 => asS v18 fun p20 n21 c22 => (hd w19 (Addr.add (⟨r1, 0, none⟩ : Addr) 1) (.slice p15 n16 c17) (cl Tryz.prog 152 #[(.slice p20 n21 c22), (.slice p15 n16 c17), (.func (.func 148) #[] #[])] w19 fun v23 w24 => asS v23 fun p25 n26 c27 =>
(dw w24 fun w28 => (ld w28 (Addr.add (⟨r1, 0, none⟩ : Addr) 2) fun v29 => asI .i64 v29 fun x30 => (ld w28 (Addr.add (⟨r1, 0, none⟩ : Addr) 3) fun v31 => asS v31 fun p32 n33 c34 => (ld w28 (Addr.add (⟨r1, 0, none⟩ : Addr) 1) fun v35 => asS v35 fun p36 n37 c38 => (bn2 (n37 : Int) n33 (cl Tryz.prog 148 #[(.slice p25 n26 c27), (.int .i64 x30)] w28 fun v39 w40 => asS v39 fun p41 n42 c43 => (hd w40 (Addr.add (⟨r1, 0, none⟩ : Addr) 1) (.slice p36 n37 c38) (hd w40 (Addr.add (⟨r1, 0, none⟩ : Addr) 3) (.slice p32 n33 c34) (cl Tryz.prog 152 #[(.slice p41 n42 c43), (.slice (slp p32 c34 (Int.toNat (n37 : Int)) 1) (n33 - (Int.toNat (n37 : Int))) (c34 - (Int.toNat (n37 : Int)))), (.func (.func 148) #[] #[])] w40 fun v44 w45 => asS v44 fun p46 n47 c48 => (hd w45 (Addr.add (⟨r1, 0, none⟩ : Addr) 1) (.slice p36 n37 c38) (hd w45 (Addr.add (⟨r1, 0, none⟩ : Addr) 3) (.slice p32 n33 c34)
(ld w45 (Addr.add (⟨r1, 0, none⟩ : Addr) 4) fun v49 => asS v49 fun p50 n51 c52 => (cl Tryz.prog 153 #[(.slice p46 n47 c48), (.slice p50 n51 c52), (.func (.func 154) #[] #[])] w45 fun v53 w54 => asS v53 fun p55 n56 c57 =>
(Q (.slice p55 n56 c57) w54)))))))))))))))))))))))
theorem F150_link (b : Option Addr) (b_n b_c : Nat) (f_0 : ByteArray) (f_1 : Option Addr) (f_1_n f_1_c : Nat) (f_2 : Int) (f_3 : Option Addr) (f_3_n f_3_c : Nat) (f_4 : Option Addr) (f_4_n f_4_c : Nat) (w : World) (Q : Value → World → Prop) : fnEv Tryz.prog Tryz.f150 h150 [(.slice b b_n b_c), (.agg #[(.string f_0), (.slice f_1 f_1_n f_1_c), (.int .i64 f_2), (.slice f_3 f_3_n f_3_c), (.slice f_4 f_4_n f_4_c)])] w Q = F150 b b_n b_c f_0 f_1 f_1_n f_1_c f_2 f_3 f_3_n f_3_c f_4 f_4_n f_4_c w Q := by kernel_rfl
theorem F150_calls {b : Option Addr} {b_n b_c : Nat} {f_0 : ByteArray} {f_1 : Option Addr} {f_1_n f_1_c : Nat} {f_2 : Int} {f_3 : Option Addr} {f_3_n f_3_c : Nat} {f_4 : Option Addr} {f_4_n f_4_c : Nat} {w : World} {Q : Value → World → Prop} (hF_ : F150 b b_n b_c f_0 f_1 f_1_n f_1_c f_2 f_3 f_3_n f_3_c f_4 f_4_n f_4_c w Q) : cl Tryz.prog 150 #[(.slice b b_n b_c), (.agg #[(.string f_0), (.slice f_1 f_1_n f_1_c), (.int .i64 f_2), (.slice f_3 f_3_n f_3_c), (.slice f_4 f_4_n f_4_c)])] w Q :=
  calls_of_ev (fn := Tryz.f150) Tryz.func150 h150 (args := [(.slice b b_n b_c), (.agg #[(.string f_0), (.slice f_1 f_1_n f_1_c), (.int .i64 f_2), (.slice f_3 f_3_n f_3_c), (.slice f_4 f_4_n f_4_c)])]) (by rw [F150_link]; exact hF_)
def h151 : Hint := .d
set_option linter.unusedVariables false in
def F151 (b : Option Addr) (b_n b_c : Nat) (s : ByteArray) (w : World) (Q : Value → World → Prop) : Prop :=
 (lv (0 : Int) fun y1 =>
(cond (decide ((ByteArray.size s : Int) > (65536 : Int))) (lv (2 : Int) fun y2 =>
(Q (.tuple #[(.slice none 0 0), (.int .i64 y2)]) w))
(cl Tryz.prog 205 #[(.slice b b_n b_c), (.int .u64 (IntKind.wrap .u64 (ByteArray.size s : Int)))] w fun v3 w4 => asS v3 fun p5 n6 c7 => (rn Tryz.prog (Builtin.append_ #[22, 9] 22 #[(.slice p5 n6 c7), (.string s)]) w4 fun v8 w9 => asS v8 fun p10 n11 c12 => (lv (0 : Int) fun y13 =>
(Q (.tuple #[(.slice p10 n11 c12), (.int .i64 y13)]) w9))))))
theorem F151_link (b : Option Addr) (b_n b_c : Nat) (s : ByteArray) (w : World) (Q : Value → World → Prop) : fnEv Tryz.prog Tryz.f151 h151 [(.slice b b_n b_c), (.string s)] w Q = F151 b b_n b_c s w Q := by kernel_rfl
theorem F151_calls {b : Option Addr} {b_n b_c : Nat} {s : ByteArray} {w : World} {Q : Value → World → Prop} (hF_ : F151 b b_n b_c s w Q) : cl Tryz.prog 151 #[(.slice b b_n b_c), (.string s)] w Q :=
  calls_of_ev (fn := Tryz.f151) Tryz.func151 h151 (args := [(.slice b b_n b_c), (.string s)]) (by rw [F151_link]; exact hF_)
def h152 : Hint := (.s .d (.s .d (.s (.s .d (.l [(0, 22), (15, 3)] .d)) .d)))
set_option linter.unusedVariables false in
def F152 (b : Option Addr) (b_n b_c : Nat) (l : Option Addr) (l_n l_c : Nat) (put : Nat) (put_fs put_cs : Array Value) (w : World) (Q : Value → World → Prop) : Prop :=
(cl Tryz.prog 148 #[(.slice b b_n b_c), (.int .i64 (l_n : Int))] w fun v1 w2 => asS v1 fun p3 n4 c5 =>
(lp [(.slice p3 n4 c5), (.int .i64 (0 : Int))] w2 fun J8 s6 w7 => asS (s6.getD 0 undef) fun p9 n10 c11 => asI .i64 (s6.getD 1 undef) fun x12 =>
(cond (decide (x12 < (l_n : Int)))
(dr l fun a13 => (bnd x12 l_n (ld w7 (Addr.add a13 (Int.toNat x12 * 1)) fun v14 => asI .i64 v14 fun x15 => (lv x15 fun x_16 =>
(cond (callOk Tryz.prog put) (cl Tryz.prog put (put_fs ++ #[(.slice p9 n10 c11), (.int .i64 x_16)] ++ put_cs) w7 fun v17 w18 => asS v17 fun p19 n20 c21 =>
(J8 [(.slice p19 n20 c21), (.int .i64 (IntKind.wrap .i64 (x12 + (1 : Int))))] w18)) (xt Tryz.prog put (put_fs ++ #[(.slice p9 n10 c11), (.int .i64 x_16)] ++ put_cs) w7 fun v17 w18 => asS v17 fun p19 n20 c21 =>
(J8 [(.slice p19 n20 c21), (.int .i64 (IntKind.wrap .i64 (x12 + (1 : Int))))] w18)))))))
(Q (.slice p9 n10 c11) w7))))
theorem F152_link (b : Option Addr) (b_n b_c : Nat) (l : Option Addr) (l_n l_c : Nat) (put : Nat) (put_fs put_cs : Array Value) (w : World) (Q : Value → World → Prop) : fnEv Tryz.prog Tryz.f152 h152 [(.slice b b_n b_c), (.slice l l_n l_c), (.func (.func put) put_fs put_cs)] w Q = F152 b b_n b_c l l_n l_c put put_fs put_cs w Q := by kernel_rfl
theorem F152_calls {b : Option Addr} {b_n b_c : Nat} {l : Option Addr} {l_n l_c : Nat} {put : Nat} {put_fs put_cs : Array Value} {w : World} {Q : Value → World → Prop} (hF_ : F152 b b_n b_c l l_n l_c put put_fs put_cs w Q) : cl Tryz.prog 152 #[(.slice b b_n b_c), (.slice l l_n l_c), (.func (.func put) put_fs put_cs)] w Q :=
  calls_of_ev (fn := Tryz.f152) Tryz.func152 h152 (args := [(.slice b b_n b_c), (.slice l l_n l_c), (.func (.func put) put_fs put_cs)]) (by rw [F152_link]; exact hF_)
def h153 : Hint := (.s .d (.s .d (.s (.s .d (.l [(0, 22), (15, 3)] .d)) .d)))
set_option linter.unusedVariables false in
def F153 (b : Option Addr) (b_n b_c : Nat) (l : Option Addr) (l_n l_c : Nat) (put : Nat) (put_fs put_cs : Array Value) (w : World) (Q : Value → World → Prop) : Prop :=
(cl Tryz.prog 148 #[(.slice b b_n b_c), (.int .i64 (l_n : Int))] w fun v1 w2 => asS v1 fun p3 n4 c5 =>
(lp [(.slice p3 n4 c5), (.int .i64 (0 : Int))] w2 fun J8 s6 w7 => asS (s6.getD 0 undef) fun p9 n10 c11 => asI .i64 (s6.getD 1 undef) fun x12 =>
(cond (decide (x12 < (l_n : Int)))
(dr l fun a13 => (bnd x12 l_n (ld w7 (Addr.add a13 (Int.toNat x12 * 3)) fun v14 => asI .i64 v14 fun x15 => (ld w7 (Addr.add (Addr.add a13 (Int.toNat x12 * 3)) 1) fun v16 => asI .i64 v16 fun x17 => (ld w7 (Addr.add (Addr.add a13 (Int.toNat x12 * 3)) 2) fun v18 => asI .i64 v18 fun x19 => (nw w7 (.cells #[(.int .i64 (0 : Int)), (.int .i64 (0 : Int)), (.int .i64 (0 : Int))] 81) fun r20 w21 => (st w21 (⟨r20, 0, none⟩ : Addr) (.int .i64 x15) fun w22 => (st w22 (Addr.add (⟨r20, 0, none⟩ : Addr) 1) (.int .i64 x17) fun w23 => (st w23 (Addr.add (⟨r20, 0, none⟩ : Addr) 2) (.int .i64 x19) fun w24 =>
(ld w24 (⟨r20, 0, none⟩ : Addr) fun v25 => asI .i64 v25 fun x26 => (ld w24 (Addr.add (⟨r20, 0, none⟩ : Addr) 1) fun v27 => asI .i64 v27 fun x28 => (ld w24 (Addr.add (⟨r20, 0, none⟩ : Addr) 2) fun v29 => asI .i64 v29 fun x30 => (cond (callOk Tryz.prog put) (cl Tryz.prog put (put_fs ++ #[(.slice p9 n10 c11), (.agg #[(.int .i64 x26), (.int .i64 x28), (.int .i64 x30)])] ++ put_cs) w24 fun v31 w32 => asS v31 fun p33 n34 c35 =>
(J8 [(.slice p33 n34 c35), (.int .i64 (IntKind.wrap .i64 (x12 + (1 : Int))))] w32)) (xt Tryz.prog put (put_fs ++ #[(.slice p9 n10 c11), (.agg #[(.int .i64 x26), (.int .i64 x28), (.int .i64 x30)])] ++ put_cs) w24 fun v31 w32 => asS v31 fun p33 n34 c35 =>
(J8 [(.slice p33 n34 c35), (.int .i64 (IntKind.wrap .i64 (x12 + (1 : Int))))] w32)))))))))))))))
(Q (.slice p9 n10 c11) w7))))
theorem F153_link (b : Option Addr) (b_n b_c : Nat) (l : Option Addr) (l_n l_c : Nat) (put : Nat) (put_fs put_cs : Array Value) (w : World) (Q : Value → World → Prop) : fnEv Tryz.prog Tryz.f153 h153 [(.slice b b_n b_c), (.slice l l_n l_c), (.func (.func put) put_fs put_cs)] w Q = F153 b b_n b_c l l_n l_c put put_fs put_cs w Q := by kernel_rfl
theorem F153_calls {b : Option Addr} {b_n b_c : Nat} {l : Option Addr} {l_n l_c : Nat} {put : Nat} {put_fs put_cs : Array Value} {w : World} {Q : Value → World → Prop} (hF_ : F153 b b_n b_c l l_n l_c put put_fs put_cs w Q) : cl Tryz.prog 153 #[(.slice b b_n b_c), (.slice l l_n l_c), (.func (.func put) put_fs put_cs)] w Q :=
  calls_of_ev (fn := Tryz.f153) Tryz.func153 h153 (args := [(.slice b b_n b_c), (.slice l l_n l_c), (.func (.func put) put_fs put_cs)]) (by rw [F153_link]; exact hF_)
def h154 : Hint := (.s .d (.s (.o (ofL [0, 1, 2, 4, 5, 7, 8, 3, 6, 9, 10] .nil)) .d))
set_option linter.unusedVariables false in
def F154 (b : Option Addr) (b_n b_c : Nat) (i_0 : Int) (i_1 : Int) (i_2 : Int) (w : World) (Q : Value → World → Prop) : Prop :=
 (nw w (.cells #[(.int .i64 i_0), (.int .i64 i_1), (.int .i64 i_2)] 81) fun r1 w2 =>
(dw w2 fun w3 => (ld w3 (⟨r1, 0, none⟩ : Addr) fun v4 => asI .i64 v4 fun x5 => (ld w3 (Addr.add (⟨r1, 0, none⟩ : Addr) 1) fun v6 => asI .i64 v6 fun x7 => (ld w3 (Addr.add (⟨r1, 0, none⟩ : Addr) 2) fun v8 => asI .i64 v8 fun x9 => (cl Tryz.prog 148 #[(.slice b b_n b_c), (.int .i64 x5)] w3 fun v10 w11 => asS v10 fun p12 n13 c14 => (hd w11 (Addr.add (⟨r1, 0, none⟩ : Addr) 2) (.int .i64 x9) (hd w11 (Addr.add (⟨r1, 0, none⟩ : Addr) 1) (.int .i64 x7) (cl Tryz.prog 147 #[(.slice p12 n13 c14), (.int .i64 x7)] w11 fun v15 w16 => asS v15 fun p17 n18 c19 => (hd w16 (Addr.add (⟨r1, 0, none⟩ : Addr) 2) (.int .i64 x9) (cl Tryz.prog 148 #[(.slice p17 n18 c19), (.int .i64 x9)] w16 fun v20 w21 => asS v20 fun p22 n23 c24 =>
(Q (.slice p22 n23 c24) w21))))))))))))
theorem F154_link (b : Option Addr) (b_n b_c : Nat) (i_0 : Int) (i_1 : Int) (i_2 : Int) (w : World) (Q : Value → World → Prop) : fnEv Tryz.prog Tryz.f154 h154 [(.slice b b_n b_c), (.agg #[(.int .i64 i_0), (.int .i64 i_1), (.int .i64 i_2)])] w Q = F154 b b_n b_c i_0 i_1 i_2 w Q := by kernel_rfl
theorem F154_calls {b : Option Addr} {b_n b_c : Nat} {i_0 : Int} {i_1 : Int} {i_2 : Int} {w : World} {Q : Value → World → Prop} (hF_ : F154 b b_n b_c i_0 i_1 i_2 w Q) : cl Tryz.prog 154 #[(.slice b b_n b_c), (.agg #[(.int .i64 i_0), (.int .i64 i_1), (.int .i64 i_2)])] w Q :=
  calls_of_ev (fn := Tryz.f154) Tryz.func154 h154 (args := [(.slice b b_n b_c), (.agg #[(.int .i64 i_0), (.int .i64 i_1), (.int .i64 i_2)])]) (by rw [F154_link]; exact hF_)
def h155 : Hint := .d
set_option linter.unusedVariables false in
def F155 (l : Option Addr) (code : Int) (at' : Int) (w : World) (Q : Value → World → Prop) : Prop :=
(dr l fun a1 => (ld w (Addr.add a1 7) fun v2 => asI .i64 v2 fun x3 => (dr l fun a4 => (st w (Addr.add a4 11) (.int .i64 code) fun w5 => (st w5 (Addr.add (Addr.add a4 11) 1) (.int .i64 (IntKind.wrap .i64 ((IntKind.wrap .i64 (x3 * 2 ^ (min (Int.toNat (16 : Int)) 64))) + at'))) fun w6 =>
(Q (.bool false) w6))))))
theorem F155_link (l : Option Addr) (code : Int) (at' : Int) (w : World) (Q : Value → World → Prop) : fnEv Tryz.prog Tryz.f155 h155 [(.pointer l), (.int .i64 code), (.int .i64 at')] w Q = F155 l code at' w Q := by kernel_rfl
theorem F155_calls {l : Option Addr} {code : Int} {at' : Int} {w : World} {Q : Value → World → Prop} (hF_ : F155 l code at' w Q) : cl Tryz.prog 155 #[(.pointer l), (.int .i64 code), (.int .i64 at')] w Q :=
  calls_of_ev (fn := Tryz.f155) Tryz.func155 h155 (args := [(.pointer l), (.int .i64 code), (.int .i64 at')]) (by rw [F155_link]; exact hF_)
def h158 : Hint := (.s .d (.s .d (.s .d (.s .d (.s (.s .d (.s (.j [(4, 4)] (.o (ofL [0, 1, 2, 3, 4, 5, 6, 7, 8, 9, 10] .nil)) .d) (.s .d (.s (.j [(4, 4)] .d .d) .d)))) .d)))))
set_option linter.unusedVariables false in
def F158 (stack : ByteArray) (takes : ByteArray) (w : World) (Q : Value → World → Prop) : Prop :=
(lv (IntKind.wrap .i64 ((ByteArray.size stack : Int) - (ByteArray.size takes : Int))) fun n_1 =>
(cond (decide (n_1 < (0 : Int)))
(Q (.bool false) w)
(bn2 n_1 (ByteArray.size stack)
(cl Tryz.prog 211 #[(.string takes), (.string (⟨#[84]⟩ : ByteArray))] w fun v2 w3 => asB v2 fun b4 =>
(cond b4 (jn (fun s5 w6 => asB (s5.getD 0 undef) fun b9 => (Q (.bool b9) w6))
 (fun J7 => (dw w3 fun w8 => (cond ((ByteArray.size takes : Int) == (1 : Int)) (J7 [(.bool true)] w8) (bnd (0 : Int) (ByteArray.size (ByteArray.extract stack (Int.toNat n_1) (ByteArray.size stack))) (bnd (1 : Int) (ByteArray.size (ByteArray.extract stack (Int.toNat n_1) (ByteArray.size stack))) (J7 [(.bool ((byteAt (ByteArray.extract stack (Int.toNat n_1) (ByteArray.size stack)) (0 : Int)) == (byteAt (ByteArray.extract stack (Int.toNat n_1) (ByteArray.size stack)) (1 : Int))))] w8)))))))
(cond (ByteArray.toList takes == ByteArray.toList (⟨#[78, 78]⟩ : ByteArray)) (jn (fun s10 w11 => asB (s10.getD 0 undef) fun b13 => (Q (.bool b13) w11))
 (fun J12 => (cond (ByteArray.toList (ByteArray.extract stack (Int.toNat n_1) (ByteArray.size stack)) == ByteArray.toList (⟨#[105, 105]⟩ : ByteArray)) (J12 [(.bool true)] w3) (J12 [(.bool (ByteArray.toList (ByteArray.extract stack (Int.toNat n_1) (ByteArray.size stack)) == ByteArray.toList (⟨#[102, 102]⟩ : ByteArray)))] w3))))
(Q (.bool (ByteArray.toList (ByteArray.extract stack (Int.toNat n_1) (ByteArray.size stack)) == ByteArray.toList takes)) w3)))))))
theorem F158_link (stack : ByteArray) (takes : ByteArray) (w : World) (Q : Value → World → Prop) : fnEv Tryz.prog Tryz.f158 h158 [(.string stack), (.string takes)] w Q = F158 stack takes w Q := by kernel_rfl
theorem F158_calls {stack : ByteArray} {takes : ByteArray} {w : World} {Q : Value → World → Prop} (hF_ : F158 stack takes w Q) : cl Tryz.prog 158 #[(.string stack), (.string takes)] w Q :=
  calls_of_ev (fn := Tryz.f158) Tryz.func158 h158 (args := [(.string stack), (.string takes)]) (by rw [F158_link]; exact hF_)
def h160 : Hint := .d
set_option linter.unusedVariables false in
def F160 (v : Int) (w : World) (Q : Value → World → Prop) : Prop :=
(Q (.bool ((Go.bits .andNot .i64 v (1 : Int)) != (0 : Int))) w)
theorem F160_link (v : Int) (w : World) (Q : Value → World → Prop) : fnEv Tryz.prog Tryz.f160 h160 [(.int .i64 v)] w Q = F160 v w Q := by kernel_rfl
theorem F160_calls {v : Int} {w : World} {Q : Value → World → Prop} (hF_ : F160 v w Q) : cl Tryz.prog 160 #[(.int .i64 v)] w Q :=
  calls_of_ev (fn := Tryz.f160) Tryz.func160 h160 (args := [(.int .i64 v)]) (by rw [F160_link]; exact hF_)
def h161 : Hint := (.s .d (.s .d (.s (.j [(20, 4)] .d .d) .d)))
set_option linter.unusedVariables false in
def F161 (a : Int) (b : Int) (w : World) (Q : Value → World → Prop) : Prop :=
 (lv (0 : Int) fun y1 =>
(lv (IntKind.wrap .i64 (a - b)) fun s_2 =>
(jn (fun s3 w4 => asB (s3.getD 0 undef) fun b6 => (cond b6 (cl Tryz.prog 212 #[(.bool (decide (a < (0 : Int))))] w4 fun v7 w8 => asI .i64 v7 fun x9 => (lv x9 fun y10 =>
(Q (.int .i64 y10) w8)))
(lv s_2 fun y11 =>
(Q (.int .i64 y11) w4))))
 (fun J5 => (cond (!((decide (a < (0 : Int))) == (decide (b < (0 : Int))))) (J5 [(.bool (!((decide (s_2 < (0 : Int))) == (decide (a < (0 : Int))))))] w) (J5 [(.bool false)] w))))))
theorem F161_link (a : Int) (b : Int) (w : World) (Q : Value → World → Prop) : fnEv Tryz.prog Tryz.f161 h161 [(.int .i64 a), (.int .i64 b)] w Q = F161 a b w Q := by kernel_rfl
theorem F161_calls {a : Int} {b : Int} {w : World} {Q : Value → World → Prop} (hF_ : F161 a b w Q) : cl Tryz.prog 161 #[(.int .i64 a), (.int .i64 b)] w Q :=
  calls_of_ev (fn := Tryz.f161) Tryz.func161 h161 (args := [(.int .i64 a), (.int .i64 b)]) (by rw [F161_link]; exact hF_)
def h162 : Hint := .d
set_option linter.unusedVariables false in
def F162 (n : Int) (w : World) (Q : Value → World → Prop) : Prop :=
 (lv (0 : Int) fun y1 =>
(cl Tryz.prog 213 #[(.int .i64 n)] w fun v2 w3 => asI .u64 v2 fun x4 => (lv x4 fun u_5 =>
(cl Tryz.prog 214 #[(.int .u64 (Int.fdiv u_5 (2 ^ (min (Int.toNat (32 : Int)) 64)))), (.int .u64 (IntKind.wrap .u64 (u_5 * 2 ^ (min (Int.toNat (32 : Int)) 64)))), (.bool (decide (n < (0 : Int))))] w3 fun v6 w7 => asI .i64 v6 fun x8 => (lv x8 fun y9 =>
(Q (.int .i64 y9) w7))))))
theorem F162_link (n : Int) (w : World) (Q : Value → World → Prop) : fnEv Tryz.prog Tryz.f162 h162 [(.int .i64 n)] w Q = F162 n w Q := by kernel_rfl
theorem F162_calls {n : Int} {w : World} {Q : Value → World → Prop} (hF_ : F162 n w Q) : cl Tryz.prog 162 #[(.int .i64 n)] w Q :=
  calls_of_ev (fn := Tryz.f162) Tryz.func162 h162 (args := [(.int .i64 n)]) (by rw [F162_link]; exact hF_)
def h163 : Hint := .d
set_option linter.unusedVariables false in
def F163 (a : Int) (w : World) (Q : Value → World → Prop) : Prop :=
 (lv (0 : Int) fun y1 =>
(cl Tryz.prog 213 #[(.int .i64 a)] w fun v2 w3 => asI .u64 v2 fun x4 => (cl Tryz.prog 214 #[(.int .u64 (0 : Int)), (.int .u64 (Int.fdiv x4 (2 ^ (min (Int.toNat (32 : Int)) 64)))), (.bool (decide (a < (0 : Int))))] w3 fun v5 w6 => asI .i64 v5 fun x7 => (lv x7 fun y8 =>
(Q (.int .i64 y8) w6)))))
theorem F163_link (a : Int) (w : World) (Q : Value → World → Prop) : fnEv Tryz.prog Tryz.f163 h163 [(.int .i64 a)] w Q = F163 a w Q := by kernel_rfl
theorem F163_calls {a : Int} {w : World} {Q : Value → World → Prop} (hF_ : F163 a w Q) : cl Tryz.prog 163 #[(.int .i64 a)] w Q :=
  calls_of_ev (fn := Tryz.f163) Tryz.func163 h163 (args := [(.int .i64 a)]) (by rw [F163_link]; exact hF_)
def h164 : Hint := .d
set_option linter.unusedVariables false in
def F164 (a : Int) (b : Int) (w : World) (Q : Value → World → Prop) : Prop :=
 (lv (0 : Int) fun y1 =>
(lv (IntKind.wrap .i64 (a + b)) fun y2 =>
(Q (.int .i64 y2) w)))
theorem F164_link (a : Int) (b : Int) (w : World) (Q : Value → World → Prop) : fnEv Tryz.prog Tryz.f164 h164 [(.int .i64 a), (.int .i64 b)] w Q = F164 a b w Q := by kernel_rfl
theorem F164_calls {a : Int} {b : Int} {w : World} {Q : Value → World → Prop} (hF_ : F164 a b w Q) : cl Tryz.prog 164 #[(.int .i64 a), (.int .i64 b)] w Q :=
  calls_of_ev (fn := Tryz.f164) Tryz.func164 h164 (args := [(.int .i64 a), (.int .i64 b)]) (by rw [F164_link]; exact hF_)
def h165 : Hint := .d
set_option linter.unusedVariables false in
def F165 (a : Int) (b : Int) (w : World) (Q : Value → World → Prop) : Prop :=
 (lv (0 : Int) fun y1 =>
(lv (IntKind.wrap .i64 (a - b)) fun y2 =>
(Q (.int .i64 y2) w)))
theorem F165_link (a : Int) (b : Int) (w : World) (Q : Value → World → Prop) : fnEv Tryz.prog Tryz.f165 h165 [(.int .i64 a), (.int .i64 b)] w Q = F165 a b w Q := by kernel_rfl
theorem F165_calls {a : Int} {b : Int} {w : World} {Q : Value → World → Prop} (hF_ : F165 a b w Q) : cl Tryz.prog 165 #[(.int .i64 a), (.int .i64 b)] w Q :=
  calls_of_ev (fn := Tryz.f165) Tryz.func165 h165 (args := [(.int .i64 a), (.int .i64 b)]) (by rw [F165_link]; exact hF_)
def h166 : Hint := .d
set_option linter.unusedVariables false in
def F166 (a : Int) (b : Int) (w : World) (Q : Value → World → Prop) : Prop :=
 (lv (0 : Int) fun y1 =>
(lv (IntKind.wrap .i64 (a * b)) fun y2 =>
(Q (.int .i64 y2) w)))
theorem F166_link (a : Int) (b : Int) (w : World) (Q : Value → World → Prop) : fnEv Tryz.prog Tryz.f166 h166 [(.int .i64 a), (.int .i64 b)] w Q = F166 a b w Q := by kernel_rfl
theorem F166_calls {a : Int} {b : Int} {w : World} {Q : Value → World → Prop} (hF_ : F166 a b w Q) : cl Tryz.prog 166 #[(.int .i64 a), (.int .i64 b)] w Q :=
  calls_of_ev (fn := Tryz.f166) Tryz.func166 h166 (args := [(.int .i64 a), (.int .i64 b)]) (by rw [F166_link]; exact hF_)
def h167 : Hint := .d
set_option linter.unusedVariables false in
def F167 (a : Int) (b : Int) (w : World) (Q : Value → World → Prop) : Prop :=
 (lv (0 : Int) fun y1 =>
(nz b (lv (IntKind.wrap .i64 (Int.tdiv a b)) fun y2 =>
(Q (.int .i64 y2) w))))
theorem F167_link (a : Int) (b : Int) (w : World) (Q : Value → World → Prop) : fnEv Tryz.prog Tryz.f167 h167 [(.int .i64 a), (.int .i64 b)] w Q = F167 a b w Q := by kernel_rfl
theorem F167_calls {a : Int} {b : Int} {w : World} {Q : Value → World → Prop} (hF_ : F167 a b w Q) : cl Tryz.prog 167 #[(.int .i64 a), (.int .i64 b)] w Q :=
  calls_of_ev (fn := Tryz.f167) Tryz.func167 h167 (args := [(.int .i64 a), (.int .i64 b)]) (by rw [F167_link]; exact hF_)
def h168 : Hint := .d
set_option linter.unusedVariables false in
def F168 (a : Int) (b : Int) (w : World) (Q : Value → World → Prop) : Prop :=
 (lv (0 : Int) fun y1 =>
(nz b (lv (Int.tmod a b) fun y2 =>
(Q (.int .i64 y2) w))))
theorem F168_link (a : Int) (b : Int) (w : World) (Q : Value → World → Prop) : fnEv Tryz.prog Tryz.f168 h168 [(.int .i64 a), (.int .i64 b)] w Q = F168 a b w Q := by kernel_rfl
theorem F168_calls {a : Int} {b : Int} {w : World} {Q : Value → World → Prop} (hF_ : F168 a b w Q) : cl Tryz.prog 168 #[(.int .i64 a), (.int .i64 b)] w Q :=
  calls_of_ev (fn := Tryz.f168) Tryz.func168 h168 (args := [(.int .i64 a), (.int .i64 b)]) (by rw [F168_link]; exact hF_)
def h169 : Hint := (.s .d (.s .d (.s (.j [(20, 4)] .d .d) .d)))
set_option linter.unusedVariables false in
def F169 (a : Int) (b : Int) (w : World) (Q : Value → World → Prop) : Prop :=
 (lv (0 : Int) fun y1 =>
(lv (IntKind.wrap .i64 (a + b)) fun s_2 =>
(jn (fun s3 w4 => asB (s3.getD 0 undef) fun b6 => (cond b6 (cl Tryz.prog 212 #[(.bool (decide (a < (0 : Int))))] w4 fun v7 w8 => asI .i64 v7 fun x9 => (lv x9 fun y10 =>
(Q (.int .i64 y10) w8)))
(lv s_2 fun y11 =>
(Q (.int .i64 y11) w4))))
 (fun J5 => (cond ((decide (a < (0 : Int))) == (decide (b < (0 : Int)))) (J5 [(.bool (!((decide (s_2 < (0 : Int))) == (decide (a < (0 : Int))))))] w) (J5 [(.bool false)] w))))))
theorem F169_link (a : Int) (b : Int) (w : World) (Q : Value → World → Prop) : fnEv Tryz.prog Tryz.f169 h169 [(.int .i64 a), (.int .i64 b)] w Q = F169 a b w Q := by kernel_rfl
theorem F169_calls {a : Int} {b : Int} {w : World} {Q : Value → World → Prop} (hF_ : F169 a b w Q) : cl Tryz.prog 169 #[(.int .i64 a), (.int .i64 b)] w Q :=
  calls_of_ev (fn := Tryz.f169) Tryz.func169 h169 (args := [(.int .i64 a), (.int .i64 b)]) (by rw [F169_link]; exact hF_)
def h170 : Hint := .d
set_option linter.unusedVariables false in
def F170 (a : Int) (b : Int) (w : World) (Q : Value → World → Prop) : Prop :=
 (lv (0 : Int) fun y1 =>
(cl Tryz.prog 213 #[(.int .i64 a)] w fun v2 w3 => asI .u64 v2 fun x4 => (cl Tryz.prog 213 #[(.int .i64 b)] w3 fun v5 w6 => asI .u64 v5 fun x7 => (cl Tryz.prog 215 #[(.int .u64 x4), (.int .u64 x7)] w6 fun v8 w9 => asT 2 v8 fun t10 => asI .u64 (t10 0) fun x11 => asI .u64 (t10 1) fun x12 => (lv x11 fun hi_13 => (lv x12 fun lo_14 =>
(cl Tryz.prog 214 #[(.int .u64 (Int.fdiv hi_13 (2 ^ (min (Int.toNat (32 : Int)) 64)))), (.int .u64 (Go.bits .or .u64 (IntKind.wrap .u64 (hi_13 * 2 ^ (min (Int.toNat (32 : Int)) 64))) (Int.fdiv lo_14 (2 ^ (min (Int.toNat (32 : Int)) 64))))), (.bool (!((decide (a < (0 : Int))) == (decide (b < (0 : Int))))))] w9 fun v15 w16 => asI .i64 v15 fun x17 => (lv x17 fun y18 =>
(Q (.int .i64 y18) w16)))))))))
theorem F170_link (a : Int) (b : Int) (w : World) (Q : Value → World → Prop) : fnEv Tryz.prog Tryz.f170 h170 [(.int .i64 a), (.int .i64 b)] w Q = F170 a b w Q := by kernel_rfl
theorem F170_calls {a : Int} {b : Int} {w : World} {Q : Value → World → Prop} (hF_ : F170 a b w Q) : cl Tryz.prog 170 #[(.int .i64 a), (.int .i64 b)] w Q :=
  calls_of_ev (fn := Tryz.f170) Tryz.func170 h170 (args := [(.int .i64 a), (.int .i64 b)]) (by rw [F170_link]; exact hF_)
def h171 : Hint := .d
set_option linter.unusedVariables false in
def F171 (a : Int) (b : Int) (w : World) (Q : Value → World → Prop) : Prop :=
 (lv (0 : Int) fun y1 =>
(cl Tryz.prog 172 #[(.int .i64 a), (.int .i64 b)] w fun v2 w3 => asT 2 v2 fun t4 => asI .i64 (t4 0) fun x5 => asI .i64 (t4 1) fun x6 => (lv x5 fun q_7 => (lv x6 fun __8 =>
(lv q_7 fun y9 =>
(Q (.int .i64 y9) w3))))))
theorem F171_link (a : Int) (b : Int) (w : World) (Q : Value → World → Prop) : fnEv Tryz.prog Tryz.f171 h171 [(.int .i64 a), (.int .i64 b)] w Q = F171 a b w Q := by kernel_rfl
theorem F171_calls {a : Int} {b : Int} {w : World} {Q : Value → World → Prop} (hF_ : F171 a b w Q) : cl Tryz.prog 171 #[(.int .i64 a), (.int .i64 b)] w Q :=
  calls_of_ev (fn := Tryz.f171) Tryz.func171 h171 (args := [(.int .i64 a), (.int .i64 b)]) (by rw [F171_link]; exact hF_)
def h172 : Hint := .d
set_option linter.unusedVariables false in
def F172 (a : Int) (b : Int) (w : World) (Q : Value → World → Prop) : Prop :=
 (lv (0 : Int) fun y1 => (lv (0 : Int) fun y2 =>
(cond (b == (0 : Int)) (lv (0 : Int) fun y3 => (lv (30 : Int) fun y4 =>
(Q (.tuple #[(.int .i64 y3), (.int .i64 y4)]) w)))
(cl Tryz.prog 213 #[(.int .i64 a)] w fun v5 w6 => asI .u64 v5 fun x7 => (cl Tryz.prog 213 #[(.int .i64 b)] w6 fun v8 w9 => asI .u64 v8 fun x10 => (lv x7 fun x_11 => (lv x10 fun y_12 =>
(lv (Int.fdiv x_11 (2 ^ (min (Int.toNat (32 : Int)) 64))) fun hi_13 => (lv (IntKind.wrap .u64 (x_11 * 2 ^ (min (Int.toNat (32 : Int)) 64))) fun lo_14 =>
(nz y_12 (lv (IntKind.wrap .u64 (Int.tdiv hi_13 y_12)) fun q_15 =>
(nz y_12 (cl Tryz.prog 216 #[(.int .u64 (Int.tmod hi_13 y_12)), (.int .u64 lo_14), (.int .u64 y_12)] w9 fun v16 w17 => asT 2 v16 fun t18 => asI .u64 (t18 0) fun x19 => asI .u64 (t18 1) fun x20 => (lv x19 fun low_21 => (lv x20 fun __22 =>
(cl Tryz.prog 214 #[(.int .u64 q_15), (.int .u64 low_21), (.bool (!((decide (a < (0 : Int))) == (decide (b < (0 : Int))))))] w17 fun v23 w24 => asI .i64 v23 fun x25 => (lv x25 fun y26 => (lv (0 : Int) fun y27 =>
(Q (.tuple #[(.int .i64 y26), (.int .i64 y27)]) w24)))))))))))))))))))
theorem F172_link (a : Int) (b : Int) (w : World) (Q : Value → World → Prop) : fnEv Tryz.prog Tryz.f172 h172 [(.int .i64 a), (.int .i64 b)] w Q = F172 a b w Q := by kernel_rfl
theorem F172_calls {a : Int} {b : Int} {w : World} {Q : Value → World → Prop} (hF_ : F172 a b w Q) : cl Tryz.prog 172 #[(.int .i64 a), (.int .i64 b)] w Q :=
  calls_of_ev (fn := Tryz.f172) Tryz.func172 h172 (args := [(.int .i64 a), (.int .i64 b)]) (by rw [F172_link]; exact hF_)
def h173 : Hint := .d
set_option linter.unusedVariables false in
def F173 (a : Int) (b : Int) (w : World) (Q : Value → World → Prop) : Prop :=
 (lv (0 : Int) fun y1 =>
(cl Tryz.prog 63 #[(.bool (a == b))] w fun v2 w3 => asI .i64 v2 fun x4 => (lv x4 fun y5 =>
(Q (.int .i64 y5) w3))))
theorem F173_link (a : Int) (b : Int) (w : World) (Q : Value → World → Prop) : fnEv Tryz.prog Tryz.f173 h173 [(.int .i64 a), (.int .i64 b)] w Q = F173 a b w Q := by kernel_rfl
theorem F173_calls {a : Int} {b : Int} {w : World} {Q : Value → World → Prop} (hF_ : F173 a b w Q) : cl Tryz.prog 173 #[(.int .i64 a), (.int .i64 b)] w Q :=
  calls_of_ev (fn := Tryz.f173) Tryz.func173 h173 (args := [(.int .i64 a), (.int .i64 b)]) (by rw [F173_link]; exact hF_)
def h174 : Hint := .d
set_option linter.unusedVariables false in
def F174 (a : Int) (b : Int) (w : World) (Q : Value → World → Prop) : Prop :=
 (lv (0 : Int) fun y1 =>
(cl Tryz.prog 63 #[(.bool (a != b))] w fun v2 w3 => asI .i64 v2 fun x4 => (lv x4 fun y5 =>
(Q (.int .i64 y5) w3))))
theorem F174_link (a : Int) (b : Int) (w : World) (Q : Value → World → Prop) : fnEv Tryz.prog Tryz.f174 h174 [(.int .i64 a), (.int .i64 b)] w Q = F174 a b w Q := by kernel_rfl
theorem F174_calls {a : Int} {b : Int} {w : World} {Q : Value → World → Prop} (hF_ : F174 a b w Q) : cl Tryz.prog 174 #[(.int .i64 a), (.int .i64 b)] w Q :=
  calls_of_ev (fn := Tryz.f174) Tryz.func174 h174 (args := [(.int .i64 a), (.int .i64 b)]) (by rw [F174_link]; exact hF_)
def h175 : Hint := .d
set_option linter.unusedVariables false in
def F175 (a : Int) (b : Int) (w : World) (Q : Value → World → Prop) : Prop :=
 (lv (0 : Int) fun y1 =>
(cl Tryz.prog 63 #[(.bool (decide (a < b)))] w fun v2 w3 => asI .i64 v2 fun x4 => (lv x4 fun y5 =>
(Q (.int .i64 y5) w3))))
theorem F175_link (a : Int) (b : Int) (w : World) (Q : Value → World → Prop) : fnEv Tryz.prog Tryz.f175 h175 [(.int .i64 a), (.int .i64 b)] w Q = F175 a b w Q := by kernel_rfl
theorem F175_calls {a : Int} {b : Int} {w : World} {Q : Value → World → Prop} (hF_ : F175 a b w Q) : cl Tryz.prog 175 #[(.int .i64 a), (.int .i64 b)] w Q :=
  calls_of_ev (fn := Tryz.f175) Tryz.func175 h175 (args := [(.int .i64 a), (.int .i64 b)]) (by rw [F175_link]; exact hF_)
def h176 : Hint := .d
set_option linter.unusedVariables false in
def F176 (a : Int) (b : Int) (w : World) (Q : Value → World → Prop) : Prop :=
 (lv (0 : Int) fun y1 =>
(cl Tryz.prog 63 #[(.bool (decide (a ≤ b)))] w fun v2 w3 => asI .i64 v2 fun x4 => (lv x4 fun y5 =>
(Q (.int .i64 y5) w3))))
theorem F176_link (a : Int) (b : Int) (w : World) (Q : Value → World → Prop) : fnEv Tryz.prog Tryz.f176 h176 [(.int .i64 a), (.int .i64 b)] w Q = F176 a b w Q := by kernel_rfl
theorem F176_calls {a : Int} {b : Int} {w : World} {Q : Value → World → Prop} (hF_ : F176 a b w Q) : cl Tryz.prog 176 #[(.int .i64 a), (.int .i64 b)] w Q :=
  calls_of_ev (fn := Tryz.f176) Tryz.func176 h176 (args := [(.int .i64 a), (.int .i64 b)]) (by rw [F176_link]; exact hF_)
def h177 : Hint := .d
set_option linter.unusedVariables false in
def F177 (a : Int) (b : Int) (w : World) (Q : Value → World → Prop) : Prop :=
 (lv (0 : Int) fun y1 =>
(cl Tryz.prog 63 #[(.bool (decide (a > b)))] w fun v2 w3 => asI .i64 v2 fun x4 => (lv x4 fun y5 =>
(Q (.int .i64 y5) w3))))
theorem F177_link (a : Int) (b : Int) (w : World) (Q : Value → World → Prop) : fnEv Tryz.prog Tryz.f177 h177 [(.int .i64 a), (.int .i64 b)] w Q = F177 a b w Q := by kernel_rfl
theorem F177_calls {a : Int} {b : Int} {w : World} {Q : Value → World → Prop} (hF_ : F177 a b w Q) : cl Tryz.prog 177 #[(.int .i64 a), (.int .i64 b)] w Q :=
  calls_of_ev (fn := Tryz.f177) Tryz.func177 h177 (args := [(.int .i64 a), (.int .i64 b)]) (by rw [F177_link]; exact hF_)
def h178 : Hint := .d
set_option linter.unusedVariables false in
def F178 (a : Int) (b : Int) (w : World) (Q : Value → World → Prop) : Prop :=
 (lv (0 : Int) fun y1 =>
(cl Tryz.prog 63 #[(.bool (decide (a ≥ b)))] w fun v2 w3 => asI .i64 v2 fun x4 => (lv x4 fun y5 =>
(Q (.int .i64 y5) w3))))
theorem F178_link (a : Int) (b : Int) (w : World) (Q : Value → World → Prop) : fnEv Tryz.prog Tryz.f178 h178 [(.int .i64 a), (.int .i64 b)] w Q = F178 a b w Q := by kernel_rfl
theorem F178_calls {a : Int} {b : Int} {w : World} {Q : Value → World → Prop} (hF_ : F178 a b w Q) : cl Tryz.prog 178 #[(.int .i64 a), (.int .i64 b)] w Q :=
  calls_of_ev (fn := Tryz.f178) Tryz.func178 h178 (args := [(.int .i64 a), (.int .i64 b)]) (by rw [F178_link]; exact hF_)
def h202 : Hint := (.s .d (.s (.s .d (.l [(8, 3)] .d)) .d))
set_option linter.unusedVariables false in
def F202 (s : Option Addr) (s_n s_c : Nat) (f : Nat) (f_fs f_cs : Array Value) (w : World) (Q : Value → World → Prop) : Prop :=
 (lv (0 : Int) fun y1 =>
(lp [(.int .i64 (0 : Int))] w fun J4 s2 w3 => asI .i64 (s2.getD 0 undef) fun x5 =>
(cond (decide (x5 < (s_n : Int)))
(lv x5 fun i_6 =>
(dr s fun a7 => (bnd i_6 s_n (ld w3 (Addr.add a7 (Int.toNat i_6 * 1)) fun v8 => asI .i64 v8 fun x9 => (cond (callOk Tryz.prog f) (cl Tryz.prog f (f_fs ++ #[(.int .i64 x9)] ++ f_cs) w3 fun v10 w11 => asB v10 fun b12 =>
(cond b12 (lv i_6 fun y13 =>
(Q (.int .i64 y13) w11))
(J4 [(.int .i64 (IntKind.wrap .i64 (x5 + (1 : Int))))] w11))) (xt Tryz.prog f (f_fs ++ #[(.int .i64 x9)] ++ f_cs) w3 fun v10 w11 => asB v10 fun b12 =>
(cond b12 (lv i_6 fun y13 =>
(Q (.int .i64 y13) w11))
(J4 [(.int .i64 (IntKind.wrap .i64 (x5 + (1 : Int))))] w11))))))))
(lv (-1 : Int) fun y14 =>
(Q (.int .i64 y14) w3)))))
theorem F202_link (s : Option Addr) (s_n s_c : Nat) (f : Nat) (f_fs f_cs : Array Value) (w : World) (Q : Value → World → Prop) : fnEv Tryz.prog Tryz.f202 h202 [(.slice s s_n s_c), (.func (.func f) f_fs f_cs)] w Q = F202 s s_n s_c f f_fs f_cs w Q := by kernel_rfl
theorem F202_calls {s : Option Addr} {s_n s_c : Nat} {f : Nat} {f_fs f_cs : Array Value} {w : World} {Q : Value → World → Prop} (hF_ : F202 s s_n s_c f f_fs f_cs w Q) : cl Tryz.prog 202 #[(.slice s s_n s_c), (.func (.func f) f_fs f_cs)] w Q :=
  calls_of_ev (fn := Tryz.f202) Tryz.func202 h202 (args := [(.slice s s_n s_c), (.func (.func f) f_fs f_cs)]) (by rw [F202_link]; exact hF_)
def h203 : Hint := .d
set_option linter.unusedVariables false in
def F203 (b : Option Addr) (b_n b_c : Nat) (n : Int) (w : World) (Q : Value → World → Prop) : Prop :=
(cl Tryz.prog 205 #[(.slice b b_n b_c), (.int .u64 (Go.bits .xor .u64 (IntKind.wrap .u64 ((IntKind.wrap .u64 n) * 2 ^ (min (Int.toNat (1 : Int)) 64))) (IntKind.wrap .u64 (Int.fdiv n (2 ^ (min (Int.toNat (63 : Int)) 64))))))] w fun v1 w2 => asS v1 fun p3 n4 c5 =>
(Q (.slice p3 n4 c5) w2))
theorem F203_link (b : Option Addr) (b_n b_c : Nat) (n : Int) (w : World) (Q : Value → World → Prop) : fnEv Tryz.prog Tryz.f203 h203 [(.slice b b_n b_c), (.int .i64 n)] w Q = F203 b b_n b_c n w Q := by kernel_rfl
theorem F203_calls {b : Option Addr} {b_n b_c : Nat} {n : Int} {w : World} {Q : Value → World → Prop} (hF_ : F203 b b_n b_c n w Q) : cl Tryz.prog 203 #[(.slice b b_n b_c), (.int .i64 n)] w Q :=
  calls_of_ev (fn := Tryz.f203) Tryz.func203 h203 (args := [(.slice b b_n b_c), (.int .i64 n)]) (by rw [F203_link]; exact hF_)
def h204 : Hint := .d
set_option linter.unusedVariables false in
def F204 (b : Option Addr) (b_n b_c : Nat) (n : Int) (w : World) (Q : Value → World → Prop) : Prop :=
 (lv (0 : Int) fun y1 =>
(cond (decide (n < (0 : Int))) (lv (1 : Int) fun y2 =>
(Q (.tuple #[(.slice none 0 0), (.int .i64 y2)]) w))
(cl Tryz.prog 205 #[(.slice b b_n b_c), (.int .u64 (IntKind.wrap .u64 n))] w fun v3 w4 => asS v3 fun p5 n6 c7 => (lv (0 : Int) fun y8 =>
(Q (.tuple #[(.slice p5 n6 c7), (.int .i64 y8)]) w4)))))
theorem F204_link (b : Option Addr) (b_n b_c : Nat) (n : Int) (w : World) (Q : Value → World → Prop) : fnEv Tryz.prog Tryz.f204 h204 [(.slice b b_n b_c), (.int .i64 n)] w Q = F204 b b_n b_c n w Q := by kernel_rfl
theorem F204_calls {b : Option Addr} {b_n b_c : Nat} {n : Int} {w : World} {Q : Value → World → Prop} (hF_ : F204 b b_n b_c n w Q) : cl Tryz.prog 204 #[(.slice b b_n b_c), (.int .i64 n)] w Q :=
  calls_of_ev (fn := Tryz.f204) Tryz.func204 h204 (args := [(.slice b b_n b_c), (.int .i64 n)]) (by rw [F204_link]; exact hF_)
def h207 : Hint := (.s .d (.s .d (.s (.s .d (.l [(8, 3)] .d)) .d)))
set_option linter.unusedVariables false in
def F207 (l : Option Addr) (l_n l_c : Nat) (w : World) (Q : Value → World → Prop) : Prop :=
(nw w (.cells #[(.pointer none), (.slice none 0 0)] 331) fun r1 w2 =>
(lp [(.int .i64 (0 : Int))] w2 fun J5 s3 w4 => asI .i64 (s3.getD 0 undef) fun x6 =>
(cond (decide (x6 < (l_n : Int)))
(dr l fun a7 => (bnd x6 l_n (ld w4 (Addr.add a7 (Int.toNat x6 * 1)) fun v8 => asI .i64 v8 fun x9 => (lv x9 fun t_10 =>
(bnd t_10 (ByteArray.size (⟨#[46, 105, 102, 98, 101]⟩ : ByteArray)) (cl Tryz.prog 249 #[(.pointer (some (⟨r1, 0, none⟩ : Addr))), (.int .u8 (byteAt (⟨#[46, 105, 102, 98, 101]⟩ : ByteArray) t_10))] w4 fun v11 w12 =>
(J5 [(.int .i64 (IntKind.wrap .i64 (x6 + (1 : Int))))] w12)))))))
(cl Tryz.prog 246 #[(.pointer (some (⟨r1, 0, none⟩ : Addr)))] w4 fun v13 w14 => asY v13 fun s15 =>
(Q (.string s15) w14)))))
theorem F207_link (l : Option Addr) (l_n l_c : Nat) (w : World) (Q : Value → World → Prop) : fnEv Tryz.prog Tryz.f207 h207 [(.slice l l_n l_c)] w Q = F207 l l_n l_c w Q := by kernel_rfl
theorem F207_calls {l : Option Addr} {l_n l_c : Nat} {w : World} {Q : Value → World → Prop} (hF_ : F207 l l_n l_c w Q) : cl Tryz.prog 207 #[(.slice l l_n l_c)] w Q :=
  calls_of_ev (fn := Tryz.f207) Tryz.func207 h207 (args := [(.slice l l_n l_c)]) (by rw [F207_link]; exact hF_)
def h208 : Hint := (.s .d (.s (.j [(32, 4)] .d .d) .d))
set_option linter.unusedVariables false in
def F208 (l : Option Addr) (n : Int) (elements : Bool) (w : World) (Q : Value → World → Prop) : Prop :=
(jn (fun s1 w2 => asB (s1.getD 0 undef) fun b17 => (cond b17
(Q (.string (⟨#[]⟩ : ByteArray)) w2)
(dr l fun a18 => (ld w2 a18 fun v19 => asS v19 fun p20 n21 c22 => (dr p20 fun a23 => (bnd n n21 (ld w2 (Addr.add a23 (Int.toNat n * 3)) fun v24 => asI .i64 v24 fun x25 => (nw w2 (.cells #[(.int .i64 x25)] 3) fun r26 w27 => (cl Tryz.prog 207 #[(.slice (some (⟨r26, 0, none⟩ : Addr)) 1 1)] w27 fun v28 w29 => asY v28 fun s30 =>
(Q (.string s30) w29))))))))))
 (fun J3 => (cond (decide (n < (0 : Int))) (J3 [(.bool true)] w) (dr l fun a4 => (ld w a4 fun v5 => asS v5 fun p6 n7 c8 => (cond (decide (n ≥ (n7 : Int))) (J3 [(.bool true)] w) (dr l fun a9 => (ld w a9 fun v10 => asS v10 fun p11 n12 c13 => (dr p11 fun a14 => (bnd n n12 (ld w (Addr.add (Addr.add a14 (Int.toNat n * 3)) 1) fun v15 => asI .i64 v15 fun x16 => (J3 [(.bool (!((decide (x16 > (0 : Int))) == elements)))] w))))))))))))
theorem F208_link (l : Option Addr) (n : Int) (elements : Bool) (w : World) (Q : Value → World → Prop) : fnEv Tryz.prog Tryz.f208 h208 [(.pointer l), (.int .i64 n), (.bool elements)] w Q = F208 l n elements w Q := by kernel_rfl
theorem F208_calls {l : Option Addr} {n : Int} {elements : Bool} {w : World} {Q : Value → World → Prop} (hF_ : F208 l n elements w Q) : cl Tryz.prog 208 #[(.pointer l), (.int .i64 n), (.bool elements)] w Q :=
  calls_of_ev (fn := Tryz.f208) Tryz.func208 h208 (args := [(.pointer l), (.int .i64 n), (.bool elements)]) (by rw [F208_link]; exact hF_)
def h210 : Hint := .d
set_option linter.unusedVariables false in
def F210 (t : Int) (w : World) (Q : Value → World → Prop) : Prop :=
(nw w (.cells #[(.int .i64 t)] 3) fun r1 w2 => (cl Tryz.prog 207 #[(.slice (some (⟨r1, 0, none⟩ : Addr)) 1 1)] w2 fun v3 w4 => asY v3 fun s5 => (cl Tryz.prog 254 #[(.string s5), (.string (⟨#[46]⟩ : ByteArray))] w4 fun v6 w7 => asY v6 fun s8 =>
(Q (.string s8) w7))))
theorem F210_link (t : Int) (w : World) (Q : Value → World → Prop) : fnEv Tryz.prog Tryz.f210 h210 [(.int .i64 t)] w Q = F210 t w Q := by kernel_rfl
theorem F210_calls {t : Int} {w : World} {Q : Value → World → Prop} (hF_ : F210 t w Q) : cl Tryz.prog 210 #[(.int .i64 t)] w Q :=
  calls_of_ev (fn := Tryz.f210) Tryz.func210 h210 (args := [(.int .i64 t)]) (by rw [F210_link]; exact hF_)
def h211 : Hint := .d
set_option linter.unusedVariables false in
def F211 (s : ByteArray) (prefi_ : ByteArray) (w : World) (Q : Value → World → Prop) : Prop :=
(cl Tryz.prog 255 #[(.string s), (.string prefi_)] w fun v1 w2 => asB v1 fun b3 =>
(Q (.bool b3) w2))
theorem F211_link (s : ByteArray) (prefi_ : ByteArray) (w : World) (Q : Value → World → Prop) : fnEv Tryz.prog Tryz.f211 h211 [(.string s), (.string prefi_)] w Q = F211 s prefi_ w Q := by kernel_rfl
theorem F211_calls {s : ByteArray} {prefi_ : ByteArray} {w : World} {Q : Value → World → Prop} (hF_ : F211 s prefi_ w Q) : cl Tryz.prog 211 #[(.string s), (.string prefi_)] w Q :=
  calls_of_ev (fn := Tryz.f211) Tryz.func211 h211 (args := [(.string s), (.string prefi_)]) (by rw [F211_link]; exact hF_)
def h212 : Hint := .d
set_option linter.unusedVariables false in
def F212 (minus : Bool) (w : World) (Q : Value → World → Prop) : Prop :=
 (lv (0 : Int) fun y1 =>
(cond minus (lv (-9223372036854775808 : Int) fun y2 =>
(Q (.int .i64 y2) w))
(lv (9223372036854775807 : Int) fun y3 =>
(Q (.int .i64 y3) w))))
theorem F212_link (minus : Bool) (w : World) (Q : Value → World → Prop) : fnEv Tryz.prog Tryz.f212 h212 [(.bool minus)] w Q = F212 minus w Q := by kernel_rfl
theorem F212_calls {minus : Bool} {w : World} {Q : Value → World → Prop} (hF_ : F212 minus w Q) : cl Tryz.prog 212 #[(.bool minus)] w Q :=
  calls_of_ev (fn := Tryz.f212) Tryz.func212 h212 (args := [(.bool minus)]) (by rw [F212_link]; exact hF_)
def h213 : Hint := .d
set_option linter.unusedVariables false in
def F213 (a : Int) (w : World) (Q : Value → World → Prop) : Prop :=
 (lv (0 : Int) fun y1 =>
(cond (decide (a < (0 : Int))) (lv (IntKind.wrap .u64 ((0 : Int) - (IntKind.wrap .u64 a))) fun y2 =>
(Q (.int .u64 y2) w))
(lv (IntKind.wrap .u64 a) fun y3 =>
(Q (.int .u64 y3) w))))
theorem F213_link (a : Int) (w : World) (Q : Value → World → Prop) : fnEv Tryz.prog Tryz.f213 h213 [(.int .i64 a)] w Q = F213 a w Q := by kernel_rfl
theorem F213_calls {a : Int} {w : World} {Q : Value → World → Prop} (hF_ : F213 a w Q) : cl Tryz.prog 213 #[(.int .i64 a)] w Q :=
  calls_of_ev (fn := Tryz.f213) Tryz.func213 h213 (args := [(.int .i64 a)]) (by rw [F213_link]; exact hF_)
def h214 : Hint := (.s .d (.s (.j [(7, 4)] .d .d) .d))
set_option linter.unusedVariables false in
def F214 (hi : Int) (lo : Int) (minus : Bool) (w : World) (Q : Value → World → Prop) : Prop :=
 (lv (0 : Int) fun y1 =>
(jn (fun s2 w3 => asB (s2.getD 0 undef) fun b5 => (cond b5
(cond minus (lv (-9223372036854775808 : Int) fun y6 =>
(Q (.int .i64 y6) w3))
(lv (9223372036854775807 : Int) fun y7 =>
(Q (.int .i64 y7) w3)))
(cond minus (lv (IntKind.wrap .i64 ((0 : Int) - (IntKind.wrap .i64 lo))) fun y8 =>
(Q (.int .i64 y8) w3))
(lv (IntKind.wrap .i64 lo) fun y9 =>
(Q (.int .i64 y9) w3)))))
 (fun J4 => (cond (decide (hi > (0 : Int))) (J4 [(.bool true)] w) (J4 [(.bool (decide (lo > (9223372036854775807 : Int))))] w)))))
theorem F214_link (hi : Int) (lo : Int) (minus : Bool) (w : World) (Q : Value → World → Prop) : fnEv Tryz.prog Tryz.f214 h214 [(.int .u64 hi), (.int .u64 lo), (.bool minus)] w Q = F214 hi lo minus w Q := by kernel_rfl
theorem F214_calls {hi : Int} {lo : Int} {minus : Bool} {w : World} {Q : Value → World → Prop} (hF_ : F214 hi lo minus w Q) : cl Tryz.prog 214 #[(.int .u64 hi), (.int .u64 lo), (.bool minus)] w Q :=
  calls_of_ev (fn := Tryz.f214) Tryz.func214 h214 (args := [(.int .u64 hi), (.int .u64 lo), (.bool minus)]) (by rw [F214_link]; exact hF_)
def h215 : Hint := .d
set_option linter.unusedVariables false in
def F215 (x : Int) (y : Int) (w : World) (Q : Value → World → Prop) : Prop :=
 (lv (0 : Int) fun hi_1 => (lv (0 : Int) fun lo_2 =>
(lv (Go.bits .and .u64 x (4294967295 : Int)) fun x0_3 =>
(lv (Int.fdiv x (2 ^ (min (Int.toNat (32 : Int)) 64))) fun x1_4 =>
(lv (Go.bits .and .u64 y (4294967295 : Int)) fun y0_5 =>
(lv (Int.fdiv y (2 ^ (min (Int.toNat (32 : Int)) 64))) fun y1_6 =>
(lv (IntKind.wrap .u64 (x0_3 * y0_5)) fun w0_7 =>
(lv (IntKind.wrap .u64 ((IntKind.wrap .u64 (x1_4 * y0_5)) + (Int.fdiv w0_7 (2 ^ (min (Int.toNat (32 : Int)) 64))))) fun t_8 =>
(lv (Go.bits .and .u64 t_8 (4294967295 : Int)) fun w1_9 =>
(lv (Int.fdiv t_8 (2 ^ (min (Int.toNat (32 : Int)) 64))) fun w2_10 =>
(lv (IntKind.wrap .u64 (w1_9 + (IntKind.wrap .u64 (x0_3 * y1_6)))) fun w1_11 =>
(lv (IntKind.wrap .u64 ((IntKind.wrap .u64 ((IntKind.wrap .u64 (x1_4 * y1_6)) + w2_10)) + (Int.fdiv w1_11 (2 ^ (min (Int.toNat (32 : Int)) 64))))) fun hi_12 =>
(lv (IntKind.wrap .u64 (x * y)) fun lo_13 =>
(Q (.tuple #[(.int .u64 hi_12), (.int .u64 lo_13)]) w))))))))))))))
theorem F215_link (x : Int) (y : Int) (w : World) (Q : Value → World → Prop) : fnEv Tryz.prog Tryz.f215 h215 [(.int .u64 x), (.int .u64 y)] w Q = F215 x y w Q := by kernel_rfl
theorem F215_calls {x : Int} {y : Int} {w : World} {Q : Value → World → Prop} (hF_ : F215 x y w Q) : cl Tryz.prog 215 #[(.int .u64 x), (.int .u64 y)] w Q :=
  calls_of_ev (fn := Tryz.f215) Tryz.func215 h215 (args := [(.int .u64 x), (.int .u64 y)]) (by rw [F215_link]; exact hF_)
def h246 : Hint := (.s .d (.s (.o (ofL [0, 1, 2, 3, 5, 6, 7, 8, 9, 4, 10, 11] .nil)) .d))
set_option linter.unusedVariables false in
def F246 (b : Option Addr) (w : World) (Q : Value → World → Prop) : Prop :=
(dw w fun w1 => (dr b fun a2 => (ld w1 (Addr.add a2 1) fun v3 => asS v3 fun p4 n5 c6 => (dr b fun a7 => (ld w1 (Addr.add a7 1) fun v8 => asS v8 fun p9 n10 c11 => (rn Tryz.prog (Builtin.unsafeSliceData_ #[22] 279 #[(.slice p4 n5 c6)]) w1 fun v12 w13 => asP v12 fun p14 => (hd w13 (Addr.add a7 1) (.slice p9 n10 c11) (rn Tryz.prog (Builtin.unsafeString_ #[279, 3] 9 #[(.pointer p14), (.int .i64 (n10 : Int))]) w13 fun v15 w16 => asY v15 fun s17 => (hd w16 (Addr.add a7 1) (.slice p9 n10 c11)
(Q (.string s17) w16))))))))))
theorem F246_link (b : Option Addr) (w : World) (Q : Value → World → Prop) : fnEv Tryz.prog Tryz.f246 h246 [(.pointer b)] w Q = F246 b w Q := by kernel_rfl
theorem F246_calls {b : Option Addr} {w : World} {Q : Value → World → Prop} (hF_ : F246 b w Q) : cl Tryz.prog 246 #[(.pointer b)] w Q :=
  calls_of_ev (fn := Tryz.f246) Tryz.func246 h246 (args := [(.pointer b)]) (by rw [F246_link]; exact hF_)
def h249 : Hint := .d
set_option linter.unusedVariables false in
def F249 (b : Option Addr) (c : Int) (w : World) (Q : Value → World → Prop) : Prop :=
 (lvv Value.nilIface fun y1 =>
(cl Tryz.prog 278 #[(.pointer b)] w fun v2 w3 =>
(dr b fun a4 => (ld w3 (Addr.add a4 1) fun v5 => asS v5 fun p6 n7 c8 => (nw w3 (.cells #[(.int .u8 c)] 5) fun r9 w10 => (rn Tryz.prog (Builtin.append_ #[22, 22] 22 #[(.slice p6 n7 c8), (.slice (some (⟨r9, 0, none⟩ : Addr)) 1 1)]) w10 fun v11 w12 => asS v11 fun p13 n14 c15 => (dr b fun a16 => (st w12 (Addr.add a16 1) (.slice p13 n14 c15) fun w17 =>
(lvv Value.nilIface fun y18 =>
(Q y18 w17))))))))))
theorem F249_link (b : Option Addr) (c : Int) (w : World) (Q : Value → World → Prop) : fnEv Tryz.prog Tryz.f249 h249 [(.pointer b), (.int .u8 c)] w Q = F249 b c w Q := by kernel_rfl
theorem F249_calls {b : Option Addr} {c : Int} {w : World} {Q : Value → World → Prop} (hF_ : F249 b c w Q) : cl Tryz.prog 249 #[(.pointer b), (.int .u8 c)] w Q :=
  calls_of_ev (fn := Tryz.f249) Tryz.func249 h249 (args := [(.pointer b), (.int .u8 c)]) (by rw [F249_link]; exact hF_)
def h254 : Hint := .d
set_option linter.unusedVariables false in
def F254 (s : ByteArray) (prefi_ : ByteArray) (w : World) (Q : Value → World → Prop) : Prop :=
(cl Tryz.prog 281 #[(.string s), (.string prefi_)] w fun v1 w2 => asY v1 fun s3 =>
(Q (.string s3) w2))
theorem F254_link (s : ByteArray) (prefi_ : ByteArray) (w : World) (Q : Value → World → Prop) : fnEv Tryz.prog Tryz.f254 h254 [(.string s), (.string prefi_)] w Q = F254 s prefi_ w Q := by kernel_rfl
theorem F254_calls {s : ByteArray} {prefi_ : ByteArray} {w : World} {Q : Value → World → Prop} (hF_ : F254 s prefi_ w Q) : cl Tryz.prog 254 #[(.string s), (.string prefi_)] w Q :=
  calls_of_ev (fn := Tryz.f254) Tryz.func254 h254 (args := [(.string s), (.string prefi_)]) (by rw [F254_link]; exact hF_)
def h255 : Hint := (.s .d (.j [(4, 4)] .d .d))
set_option linter.unusedVariables false in
def F255 (s : ByteArray) (prefi_ : ByteArray) (w : World) (Q : Value → World → Prop) : Prop :=
(jn (fun s1 w2 => asB (s1.getD 0 undef) fun b4 => (Q (.bool b4) w2))
 (fun J3 => (cond (decide ((ByteArray.size s : Int) ≥ (ByteArray.size prefi_ : Int))) (bn2 (ByteArray.size prefi_ : Int) (ByteArray.size s) (J3 [(.bool (ByteArray.toList (ByteArray.extract s 0 (Int.toNat (ByteArray.size prefi_ : Int))) == ByteArray.toList prefi_))] w)) (J3 [(.bool false)] w))))
theorem F255_link (s : ByteArray) (prefi_ : ByteArray) (w : World) (Q : Value → World → Prop) : fnEv Tryz.prog Tryz.f255 h255 [(.string s), (.string prefi_)] w Q = F255 s prefi_ w Q := by kernel_rfl
theorem F255_calls {s : ByteArray} {prefi_ : ByteArray} {w : World} {Q : Value → World → Prop} (hF_ : F255 s prefi_ w Q) : cl Tryz.prog 255 #[(.string s), (.string prefi_)] w Q :=
  calls_of_ev (fn := Tryz.f255) Tryz.func255 h255 (args := [(.string s), (.string prefi_)]) (by rw [F255_link]; exact hF_)
def h256 : Hint := .d
set_option linter.unusedVariables false in
def F256 (x : Int) (w : World) (Q : Value → World → Prop) : Prop :=
 (lv (0 : Int) fun y1 =>
(cl Tryz.prog 282 #[(.int .u64 x)] w fun v2 w3 => asI .i64 v2 fun x4 => (lv (IntKind.wrap .i64 ((64 : Int) - x4)) fun y5 =>
(Q (.int .i64 y5) w3))))
theorem F256_link (x : Int) (w : World) (Q : Value → World → Prop) : fnEv Tryz.prog Tryz.f256 h256 [(.int .u64 x)] w Q = F256 x w Q := by kernel_rfl
theorem F256_calls {x : Int} {w : World} {Q : Value → World → Prop} (hF_ : F256 x w Q) : cl Tryz.prog 256 #[(.int .u64 x)] w Q :=
  calls_of_ev (fn := Tryz.f256) Tryz.func256 h256 (args := [(.int .u64 x)]) (by rw [F256_link]; exact hF_)
def h281 : Hint := .d
set_option linter.unusedVariables false in
def F281 (s : ByteArray) (prefi_ : ByteArray) (w : World) (Q : Value → World → Prop) : Prop :=
(cl Tryz.prog 255 #[(.string s), (.string prefi_)] w fun v1 w2 => asB v1 fun b3 =>
(cond b3 (bn2 (ByteArray.size prefi_ : Int) (ByteArray.size s)
(Q (.string (ByteArray.extract s (Int.toNat (ByteArray.size prefi_ : Int)) (ByteArray.size s))) w2))
(Q (.string s) w2)))
theorem F281_link (s : ByteArray) (prefi_ : ByteArray) (w : World) (Q : Value → World → Prop) : fnEv Tryz.prog Tryz.f281 h281 [(.string s), (.string prefi_)] w Q = F281 s prefi_ w Q := by kernel_rfl
theorem F281_calls {s : ByteArray} {prefi_ : ByteArray} {w : World} {Q : Value → World → Prop} (hF_ : F281 s prefi_ w Q) : cl Tryz.prog 281 #[(.string s), (.string prefi_)] w Q :=
  calls_of_ev (fn := Tryz.f281) Tryz.func281 h281 (args := [(.string s), (.string prefi_)]) (by rw [F281_link]; exact hF_)
def h282 : Hint := (.s .d (.j [(0, 252), (2, 3)] .d (.j [(0, 252), (2, 3)] .d (.j [(0, 252), (2, 3)] .d .d))))
set_option linter.unusedVariables false in
def F282 (x : Int) (w : World) (Q : Value → World → Prop) : Prop :=
 (lv (0 : Int) fun n_1 =>
(jn (fun s2 w3 => asI .u64 (s2.getD 0 undef) fun x7 => asI .i64 (s2.getD 1 undef) fun x8 => (jn (fun s9 w10 => asI .u64 (s9.getD 0 undef) fun x14 => asI .i64 (s9.getD 1 undef) fun x15 => (jn (fun s16 w17 => asI .u64 (s16.getD 0 undef) fun x21 => asI .i64 (s16.getD 1 undef) fun x22 => (bnd (IntKind.wrap .u8 x21) (ByteArray.size (⟨#[0, 1, 2, 2, 3, 3, 3, 3, 4, 4, 4, 4, 4, 4, 4, 4, 5, 5, 5, 5, 5, 5, 5, 5, 5, 5, 5, 5, 5, 5, 5, 5, 6, 6, 6, 6, 6, 6, 6, 6, 6, 6, 6, 6, 6, 6, 6, 6, 6, 6, 6, 6, 6, 6, 6, 6, 6, 6, 6, 6, 6, 6, 6, 6, 7, 7, 7, 7, 7, 7, 7, 7, 7, 7, 7, 7, 7, 7, 7, 7, 7, 7, 7, 7, 7, 7, 7, 7, 7, 7, 7, 7, 7, 7, 7, 7, 7, 7, 7, 7, 7, 7, 7, 7, 7, 7, 7, 7, 7, 7, 7, 7, 7, 7, 7, 7, 7, 7, 7, 7, 7, 7, 7, 7, 7, 7, 7, 7, 8, 8, 8, 8, 8, 8, 8, 8, 8, 8, 8, 8, 8, 8, 8, 8, 8, 8, 8, 8, 8, 8, 8, 8, 8, 8, 8, 8, 8, 8, 8, 8, 8, 8, 8, 8, 8, 8, 8, 8, 8, 8, 8, 8, 8, 8, 8, 8, 8, 8, 8, 8, 8, 8, 8, 8, 8, 8, 8, 8, 8, 8, 8, 8, 8, 8, 8, 8, 8, 8, 8, 8, 8, 8, 8, 8, 8, 8, 8, 8, 8, 8, 8, 8, 8, 8, 8, 8, 8, 8, 8, 8, 8, 8, 8, 8, 8, 8, 8, 8, 8, 8, 8, 8, 8, 8, 8, 8, 8, 8, 8, 8, 8, 8, 8, 8, 8, 8, 8, 8, 8, 8, 8, 8, 8, 8, 8, 8]⟩ : ByteArray)) (lv (IntKind.wrap .i64 (x22 + (IntKind.wrap .i64 (byteAt (⟨#[0, 1, 2, 2, 3, 3, 3, 3, 4, 4, 4, 4, 4, 4, 4, 4, 5, 5, 5, 5, 5, 5, 5, 5, 5, 5, 5, 5, 5, 5, 5, 5, 6, 6, 6, 6, 6, 6, 6, 6, 6, 6, 6, 6, 6, 6, 6, 6, 6, 6, 6, 6, 6, 6, 6, 6, 6, 6, 6, 6, 6, 6, 6, 6, 7, 7, 7, 7, 7, 7, 7, 7, 7, 7, 7, 7, 7, 7, 7, 7, 7, 7, 7, 7, 7, 7, 7, 7, 7, 7, 7, 7, 7, 7, 7, 7, 7, 7, 7, 7, 7, 7, 7, 7, 7, 7, 7, 7, 7, 7, 7, 7, 7, 7, 7, 7, 7, 7, 7, 7, 7, 7, 7, 7, 7, 7, 7, 7, 8, 8, 8, 8, 8, 8, 8, 8, 8, 8, 8, 8, 8, 8, 8, 8, 8, 8, 8, 8, 8, 8, 8, 8, 8, 8, 8, 8, 8, 8, 8, 8, 8, 8, 8, 8, 8, 8, 8, 8, 8, 8, 8, 8, 8, 8, 8, 8, 8, 8, 8, 8, 8, 8, 8, 8, 8, 8, 8, 8, 8, 8, 8, 8, 8, 8, 8, 8, 8, 8, 8, 8, 8, 8, 8, 8, 8, 8, 8, 8, 8, 8, 8, 8, 8, 8, 8, 8, 8, 8, 8, 8, 8, 8, 8, 8, 8, 8, 8, 8, 8, 8, 8, 8, 8, 8, 8, 8, 8, 8, 8, 8, 8, 8, 8, 8, 8, 8, 8, 8, 8, 8, 8, 8, 8, 8, 8, 8]⟩ : ByteArray) (IntKind.wrap .u8 x21))))) fun n_23 =>
(Q (.int .i64 n_23) w17))))
 (fun J18 =>
(cond (decide (x14 ≥ (256 : Int))) (lv (Int.fdiv x14 (2 ^ (min (Int.toNat (8 : Int)) 64))) fun x_19 =>
(lv (IntKind.wrap .i64 (x15 + (8 : Int))) fun n_20 => (J18 [(.int .u64 x_19), (.int .i64 n_20)] w10))) (J18 [(.int .u64 x14), (.int .i64 x15)] w10)))))
 (fun J11 =>
(cond (decide (x7 ≥ (65536 : Int))) (lv (Int.fdiv x7 (2 ^ (min (Int.toNat (16 : Int)) 64))) fun x_12 =>
(lv (IntKind.wrap .i64 (x8 + (16 : Int))) fun n_13 => (J11 [(.int .u64 x_12), (.int .i64 n_13)] w3))) (J11 [(.int .u64 x7), (.int .i64 x8)] w3)))))
 (fun J4 =>
(cond (decide (x ≥ (4294967296 : Int))) (lv (Int.fdiv x (2 ^ (min (Int.toNat (32 : Int)) 64))) fun x_5 =>
(lv (32 : Int) fun n_6 => (J4 [(.int .u64 x_5), (.int .i64 n_6)] w))) (J4 [(.int .u64 x), (.int .i64 n_1)] w)))))
theorem F282_link (x : Int) (w : World) (Q : Value → World → Prop) : fnEv Tryz.prog Tryz.f282 h282 [(.int .u64 x)] w Q = F282 x w Q := by kernel_rfl
theorem F282_calls {x : Int} {w : World} {Q : Value → World → Prop} (hF_ : F282 x w Q) : cl Tryz.prog 282 #[(.int .u64 x)] w Q :=
  calls_of_ev (fn := Tryz.f282) Tryz.func282 h282 (args := [(.int .u64 x)]) (by rw [F282_link]; exact hF_)
def h346 : Hint := (.s .d (.s (.o (ofL [0, 1, 2, 3, 4, 5, 6, 7, 8, 9] .nil)) .d))
set_option linter.unusedVariables false in
def F346 (s : Option Addr) (s_n s_c : Nat) (i : Int) (j : Int) (w : World) (Q : Value → World → Prop) : Prop :=
(dw w fun w1 => (dr s fun a2 => (bnd i s_n (ld w1 (Addr.add a2 (Int.toNat i * 1)) fun v3 => asI .i64 v3 fun x4 => (dr s fun a5 => (bnd j s_n (ld w1 (Addr.add a5 (Int.toNat j * 1)) fun v6 => asI .i64 v6 fun x7 =>
(Q (.bool (decide (x4 < x7))) w1))))))))
theorem F346_link (s : Option Addr) (s_n s_c : Nat) (i : Int) (j : Int) (w : World) (Q : Value → World → Prop) : fnEv Tryz.prog Tryz.f346 h346 [(.slice s s_n s_c), (.int .i64 i), (.int .i64 j)] w Q = F346 s s_n s_c i j w Q := by kernel_rfl
theorem F346_calls {s : Option Addr} {s_n s_c : Nat} {i : Int} {j : Int} {w : World} {Q : Value → World → Prop} (hF_ : F346 s s_n s_c i j w Q) : cl Tryz.prog 346 #[(.slice s s_n s_c), (.int .i64 i), (.int .i64 j)] w Q :=
  calls_of_ev (fn := Tryz.f346) Tryz.func346 h346 (args := [(.slice s s_n s_c), (.int .i64 i), (.int .i64 j)]) (by rw [F346_link]; exact hF_)
def h347 : Hint := (.o (ofL [0, 1, 2, 3, 4, 5, 6, 7, 8, 9, 10, 11, 12, 13, 14, 15] .nil))
set_option linter.unusedVariables false in
def F347 (s : Option Addr) (s_n s_c : Nat) (i : Int) (j : Int) (w : World) (Q : Value → World → Prop) : Prop :=
 (dw w fun w1 => (dr s fun a2 => (bnd j s_n (ld w1 (Addr.add a2 (Int.toNat j * 1)) fun v3 => asI .i64 v3 fun x4 => (dr s fun a5 => (bnd i s_n (ld w1 (Addr.add a5 (Int.toNat i * 1)) fun v6 => asI .i64 v6 fun x7 => (dr s fun a8 => (bnd i s_n (st w1 (Addr.add a8 (Int.toNat i * 1)) (.int .i64 x4) fun w9 => (dr s fun a10 => (bnd j s_n (st w9 (Addr.add a10 (Int.toNat j * 1)) (.int .i64 x7) fun w11 => (Q (.tuple #[]) w11))))))))))))))
theorem F347_link (s : Option Addr) (s_n s_c : Nat) (i : Int) (j : Int) (w : World) (Q : Value → World → Prop) : fnEv Tryz.prog Tryz.f347 h347 [(.slice s s_n s_c), (.int .i64 i), (.int .i64 j)] w Q = F347 s s_n s_c i j w Q := by kernel_rfl
theorem F347_calls {s : Option Addr} {s_n s_c : Nat} {i : Int} {j : Int} {w : World} {Q : Value → World → Prop} (hF_ : F347 s s_n s_c i j w Q) : cl Tryz.prog 347 #[(.slice s s_n s_c), (.int .i64 i), (.int .i64 j)] w Q :=
  calls_of_ev (fn := Tryz.f347) Tryz.func347 h347 (args := [(.slice s s_n s_c), (.int .i64 i), (.int .i64 j)]) (by rw [F347_link]; exact hF_)
def h348 : Hint := .d
set_option linter.unusedVariables false in
def F348 (p : Option Addr) (w : World) (Q : Value → World → Prop) : Prop :=
 (lvv Value.nilIface fun y1 =>
(dr p fun a2 => (ld w a2 fun v3 => asS v3 fun p4 n5 c6 => (lv (IntKind.wrap .i64 ((n5 : Int) - (1 : Int))) fun n_7 =>
(dr p fun a8 => (ld w a8 fun v9 => asS v9 fun p10 n11 c12 => (dr p10 fun a13 => (bnd n_7 n11 (ld w (Addr.add a13 (Int.toNat n_7 * 1)) fun v14 => asI .i64 v14 fun x15 => (lv x15 fun x_16 =>
(dr p fun a17 => (ld w a17 fun v18 => asS v18 fun p19 n20 c21 => (bn2 n_7 c21 (dr p fun a22 => (st w a22 (.slice p19 (Int.toNat n_7) c21) fun w23 =>
(rn Tryz.prog (Instr.makeInterface 3 (.int .i64 x_16)) w23 fun v24 w25 => (lvv v24 fun y26 =>
(Q y26 w25))))))))))))))))))
theorem F348_link (p : Option Addr) (w : World) (Q : Value → World → Prop) : fnEv Tryz.prog Tryz.f348 h348 [(.pointer p)] w Q = F348 p w Q := by kernel_rfl
theorem F348_calls {p : Option Addr} {w : World} {Q : Value → World → Prop} (hF_ : F348 p w Q) : cl Tryz.prog 348 #[(.pointer p)] w Q :=
  calls_of_ev (fn := Tryz.f348) Tryz.func348 h348 (args := [(.pointer p)]) (by rw [F348_link]; exact hF_)
def h349 : Hint := (.o (ofL [0, 1, 2, 3, 4, 5, 6, 7, 8, 9, 10, 11] .nil))
set_option linter.unusedVariables false in
def F349 (p : Option Addr) (x : Value) (w : World) (Q : Value → World → Prop) : Prop :=
 (dw w fun w1 => (dr p fun a2 => (ld w1 a2 fun v3 => asS v3 fun p4 n5 c6 => (asIf 3 x fun v7 => asI .i64 v7 fun x8 => (nw w1 (.cells #[(.int .i64 x8)] 3) fun r9 w10 => (hd w10 a2 (.slice p4 n5 c6) (rn Tryz.prog (Builtin.append_ #[207, 207] 207 #[(.slice p4 n5 c6), (.slice (some (⟨r9, 0, none⟩ : Addr)) 1 1)]) w10 fun v11 w12 => asS v11 fun p13 n14 c15 => (dr p fun a16 => (st w12 a16 (.slice p13 n14 c15) fun w17 => (Q (.tuple #[]) w17))))))))))
theorem F349_link (p : Option Addr) (x : Value) (w : World) (Q : Value → World → Prop) : fnEv Tryz.prog Tryz.f349 h349 [(.pointer p), x] w Q = F349 p x w Q := by kernel_rfl
theorem F349_calls {p : Option Addr} {x : Value} {w : World} {Q : Value → World → Prop} (hF_ : F349 p x w Q) : cl Tryz.prog 349 #[(.pointer p), x] w Q :=
  calls_of_ev (fn := Tryz.f349) Tryz.func349 h349 (args := [(.pointer p), x]) (by rw [F349_link]; exact hF_)
set_option linter.unusedVariables false in
def F61 (r : Option Addr) (w : World) (Q : Value → World → Prop) : Prop :=
 (jn (fun s1 w2 => asI .i64 (s1.getD 0 undef) fun x4 => (dr r fun a5 => (st w2 (Addr.add a5 7) (.bool true) fun w6 => (dr r fun a7 => (st w6 (Addr.add a7 8) (.int .i64 x4) fun w8 => (Q (.tuple #[]) w8))))))
 (fun J3 => (lv (0 : Int) fun trap_10 => (lp [] w fun J9 s11 w12 => (dr r fun a13 => (ld w12 (Addr.add a13 2) fun v14 => asI .i64 v14 fun x15 =>
(cond (x15 == (0 : Int)) (lv (1 : Int) fun trap_16 =>
(J3 [(.int .i64 trap_16)] w12)) (dr r fun a17 => (ld w12 (Addr.add a17 2) fun v18 => asI .i64 v18 fun x19 => (dr r fun a20 => (st w12 (Addr.add a20 2) (.int .i64 (IntKind.wrap .i64 (x19 - (1 : Int)))) fun w21 => (dw w21 fun w22 => (dr r fun a23 => (ld w22 (Addr.add a23 3) fun v24 => asS v24 fun p25 n26 c27 => (dr r fun a28 => (ld w22 (Addr.add a28 3) fun v29 => asS v29 fun p30 n31 c32 => (dr p25 fun a33 => (bnd (IntKind.wrap .i64 ((n31 : Int) - (1 : Int))) n26
(dw w22 fun w34 => (ld w34 (Addr.add a33 (Int.toNat (IntKind.wrap .i64 ((n31 : Int) - (1 : Int))) * 4)) fun v35 => asP v35 fun p36 => (dr p36 fun a37 => (ld w34 (Addr.add a37 4) fun v38 => asS v38 fun p39 n40 c41 => (ld w34 (Addr.add (Addr.add a33 (Int.toNat (IntKind.wrap .i64 ((n31 : Int) - (1 : Int))) * 4)) 1) fun v42 => asI .i64 v42 fun x43 => (dr p39 fun a44 => (bnd x43 n40 (ld w34 (Addr.add a44 (Int.toNat x43 * 3)) fun v45 => asI .i64 v45 fun x46 => (ld w34 (Addr.add (Addr.add a44 (Int.toNat x43 * 3)) 1) fun v47 => asI .i64 v47 fun x48 => (ld w34 (Addr.add (Addr.add a44 (Int.toNat x43 * 3)) 2) fun v49 => asI .i64 v49 fun x50 => (nw w34 (.cells #[(.int .i64 (0 : Int)), (.int .i64 (0 : Int)), (.int .i64 (0 : Int))] 81) fun r51 w52 => (hd w52 (Addr.add a44 (Int.toNat x43 * 3)) (.int .i64 x46) (hd w52 (Addr.add (Addr.add a44 (Int.toNat x43 * 3)) 1) (.int .i64 x48) (hd w52 (Addr.add (Addr.add a44 (Int.toNat x43 * 3)) 2) (.int .i64 x50) (hd w52 (Addr.add (Addr.add a33 (Int.toNat (IntKind.wrap .i64 ((n31 : Int) - (1 : Int))) * 4)) 1) (.int .i64 x43) (hd w52 (Addr.add a37 4) (.slice p39 n40 c41) (hd w52 (Addr.add a33 (Int.toNat (IntKind.wrap .i64 ((n31 : Int) - (1 : Int))) * 4)) (.pointer p36) (st w52 (⟨r51, 0, none⟩ : Addr) (.int .i64 x46) fun w53 => (st w53 (Addr.add (⟨r51, 0, none⟩ : Addr) 1) (.int .i64 x48) fun w54 => (st w54 (Addr.add (⟨r51, 0, none⟩ : Addr) 2) (.int .i64 x50) fun w55 =>
(ld w55 (Addr.add (Addr.add a33 (Int.toNat (IntKind.wrap .i64 ((n31 : Int) - (1 : Int))) * 4)) 1) fun v56 => asI .i64 v56 fun x57 => (st w55 (Addr.add (Addr.add a33 (Int.toNat (IntKind.wrap .i64 ((n31 : Int) - (1 : Int))) * 4)) 1) (.int .i64 (IntKind.wrap .i64 (x57 + (1 : Int)))) fun w58 =>
(ld w58 (⟨r51, 0, none⟩ : Addr) fun v59 => asI .i64 v59 fun x60 =>
(jn (fun s61 w62 => asB (s61.getD 0 undef) fun b64 => (cond b64 (ld w62 (⟨r51, 0, none⟩ : Addr) fun v65 => asI .i64 v65 fun x66 => (ld w62 (Addr.add (⟨r51, 0, none⟩ : Addr) 1) fun v67 => asI .i64 v67 fun x68 => (ld w62 (Addr.add (⟨r51, 0, none⟩ : Addr) 2) fun v69 => asI .i64 v69 fun x70 => (cl Tryz.prog 110 #[(.pointer r), (.pointer (some (Addr.add a33 (Int.toNat (IntKind.wrap .i64 ((n31 : Int) - (1 : Int))) * 4)))), (.agg #[(.int .i64 x66), (.int .i64 x68), (.int .i64 x70)])] w62 fun v71 w72 => (J9 [] w72))))) (jn (fun s73 w74 => asB (s73.getD 0 undef) fun b76 => (cond b76 (ld w74 (⟨r51, 0, none⟩ : Addr) fun v77 => asI .i64 v77 fun x78 => (cl Tryz.prog 111 #[(.pointer r), (.int .i64 x78)] w74 fun v79 w80 => (J9 [] w80))) (jn (fun s81 w82 => asB (s81.getD 0 undef) fun b84 => (cond b84 (ld w82 (⟨r51, 0, none⟩ : Addr) fun v85 => asI .i64 v85 fun x86 => (ld w82 (Addr.add (⟨r51, 0, none⟩ : Addr) 1) fun v87 => asI .i64 v87 fun x88 => (ld w82 (Addr.add (⟨r51, 0, none⟩ : Addr) 2) fun v89 => asI .i64 v89 fun x90 => (cl Tryz.prog 112 #[(.pointer r), (.agg #[(.int .i64 x86), (.int .i64 x88), (.int .i64 x90)])] w82 fun v91 w92 => asB v91 fun b93 =>
(cond (!b93) (lv (3 : Int) fun trap_94 =>
(J3 [(.int .i64 trap_94)] w92)) (J9 [] w92))))))
(cond (x60 == (30 : Int)) (dw w82 fun w95 => (dr r fun a96 => (ld w95 a96 fun v97 => asP v97 fun p98 => (dr p98 fun a99 => (ld w95 (Addr.add a99 1) fun v100 => asS v100 fun p101 n102 c103 => (ld w95 (Addr.add (⟨r51, 0, none⟩ : Addr) 1) fun v104 => asI .i64 v104 fun x105 => (dr p101 fun a106 => (bnd x105 n102 (ld w95 (Addr.add (Addr.add a106 (Int.toNat x105 * 5)) 1) fun v107 => asS v107 fun p108 n109 c110 => (cl Tryz.prog 113 #[(.pointer r), (.int .i64 (n109 : Int))] w95 fun v111 w112 => asS v111 fun p113 n114 c115 => (hd w112 (Addr.add (Addr.add a106 (Int.toNat x105 * 5)) 1) (.slice p108 n109 c110) (hd w112 (Addr.add (⟨r51, 0, none⟩ : Addr) 1) (.int .i64 x105) (hd w112 (Addr.add a99 1) (.slice p101 n102 c103) (hd w112 a96 (.pointer p98)
(dr r fun a116 => (ld w112 (Addr.add a116 3) fun v117 => asS v117 fun p118 n119 c120 =>
(cond ((n119 : Int) == (64 : Int)) (lv (4 : Int) fun trap_121 =>
(J3 [(.int .i64 trap_121)] w112))
(ld w112 (Addr.add (⟨r51, 0, none⟩ : Addr) 1) fun v122 => asI .i64 v122 fun x123 => (cl Tryz.prog 60 #[(.pointer r), (.int .i64 x123), (.slice p113 n114 c115)] w112 fun v124 w125 => (J9 [] w125))))))))))))))))))))
(cond (x60 == (31 : Int)) (dw w82 fun w126 => (dr r fun a127 => (ld w126 (Addr.add a127 5) fun v128 => asS v128 fun p129 n130 c131 => (ld w126 (Addr.add (⟨r51, 0, none⟩ : Addr) 1) fun v132 => asI .i64 v132 fun x133 => (dr r fun a134 => (ld w126 a134 fun v135 => asP v135 fun p136 => (dr p136 fun a137 => (ld w126 (Addr.add a137 2) fun v138 => asS v138 fun p139 n140 c141 => (ld w126 (Addr.add (⟨r51, 0, none⟩ : Addr) 1) fun v142 => asI .i64 v142 fun x143 => (dr p139 fun a144 => (bnd x143 n140 (ld w126 (Addr.add (Addr.add a144 (Int.toNat x143 * 3)) 1) fun v145 => asS v145 fun p146 n147 c148 => (cl Tryz.prog 113 #[(.pointer r), (.int .i64 (n147 : Int))] w126 fun v149 w150 => asS v149 fun p151 n152 c153 => (hd w150 (Addr.add (Addr.add a144 (Int.toNat x143 * 3)) 1) (.slice p146 n147 c148) (hd w150 (Addr.add (⟨r51, 0, none⟩ : Addr) 1) (.int .i64 x143) (hd w150 (Addr.add a137 2) (.slice p139 n140 c141) (hd w150 a134 (.pointer p136) (hd w150 (Addr.add (⟨r51, 0, none⟩ : Addr) 1) (.int .i64 x133) (hd w150 (Addr.add a127 5) (.slice p129 n130 c131) (nw w150 (.cells #[(.int .i64 x133), (.slice p151 n152 c153)] 87) fun r154 w155 => (hd w155 (Addr.add (Addr.add a144 (Int.toNat x143 * 3)) 1) (.slice p146 n147 c148) (hd w155 (Addr.add (⟨r51, 0, none⟩ : Addr) 1) (.int .i64 x143) (hd w155 (Addr.add a137 2) (.slice p139 n140 c141) (hd w155 a134 (.pointer p136) (hd w155 (Addr.add (⟨r51, 0, none⟩ : Addr) 1) (.int .i64 x133) (hd w155 (Addr.add a127 5) (.slice p129 n130 c131) (rn Tryz.prog (Builtin.append_ #[43, 43] 43 #[(.slice p129 n130 c131), (.slice (some (⟨r154, 0, none⟩ : Addr)) 1 1)]) w155 fun v156 w157 => asS v156 fun p158 n159 c160 => (hd w157 (Addr.add (Addr.add a144 (Int.toNat x143 * 3)) 1) (.slice p146 n147 c148) (hd w157 (Addr.add (⟨r51, 0, none⟩ : Addr) 1) (.int .i64 x143) (hd w157 (Addr.add a137 2) (.slice p139 n140 c141) (hd w157 a134 (.pointer p136) (hd w157 (Addr.add (⟨r51, 0, none⟩ : Addr) 1) (.int .i64 x133) (dr r fun a161 => (st w157 (Addr.add a161 5) (.slice p158 n159 c160) fun w162 =>
(dr r fun a163 => (st w162 (Addr.add a163 6) (.bool true) fun w164 =>
(Q (.tuple #[]) w164)))))))))))))))))))))))))))))))))))))
(cond (x60 == (32 : Int)) (cl Tryz.prog 114 #[(.pointer r), (.pointer (some (Addr.add a33 (Int.toNat (IntKind.wrap .i64 ((n31 : Int) - (1 : Int))) * 4))))] w82 fun v165 w166 => asB v165 fun b167 =>
(cond b167 (dr r fun a168 => (st w166 (Addr.add a168 7) (.bool true) fun w169 =>
(Q (.tuple #[]) w169))) (J9 [] w166))) (cl Tryz.prog 115 #[(.pointer r)] w82 fun v170 w171 => asI .i64 v170 fun x172 => (lv x172 fun b_173 =>
(cl Tryz.prog 115 #[(.pointer r)] w171 fun v174 w175 => asI .i64 v174 fun x176 => (lv x176 fun a_177 =>
(jn (fun s178 w179 => asB (s178.getD 0 undef) fun b187 => (cond b187 (lv (2 : Int) fun trap_188 =>
(J3 [(.int .i64 trap_188)] w179))
(ld w179 (⟨r51, 0, none⟩ : Addr) fun v189 => asI .i64 v189 fun x190 => (cl Tryz.prog 116 #[(.int .i64 x190)] w179 fun v191 w192 => asN v191 fun k193 fs194 cs195 =>
(cond (callOk Tryz.prog k193) (cl Tryz.prog k193 (fs194 ++ #[(.int .i64 a_177), (.int .i64 b_173)] ++ cs195) w192 fun v196 w197 => asI .i64 v196 fun x198 => (cl Tryz.prog 62 #[(.pointer r), (.int .i64 x198)] w197 fun v199 w200 => (J9 [] w200))) (xt Tryz.prog k193 (fs194 ++ #[(.int .i64 a_177), (.int .i64 b_173)] ++ cs195) w192 fun v196 w197 => asI .i64 v196 fun x198 => (cl Tryz.prog 62 #[(.pointer r), (.int .i64 x198)] w197 fun v199 w200 => (J9 [] w200))))))))
 (fun J180 => (cond (b_173 == (0 : Int)) (ld w175 (⟨r51, 0, none⟩ : Addr) fun v181 => asI .i64 v181 fun x182 => (cond (x182 == (11 : Int)) (J180 [(.bool true)] w175) (ld w175 (⟨r51, 0, none⟩ : Addr) fun v183 => asI .i64 v183 fun x184 => (cond (x184 == (12 : Int)) (J180 [(.bool true)] w175) (ld w175 (⟨r51, 0, none⟩ : Addr) fun v185 => asI .i64 v185 fun x186 => (J180 [(.bool (x186 == (17 : Int)))] w175)))))) (J180 [(.bool false)] w175)))))))))))))
 (fun J83 =>
(cond (x60 == (6 : Int)) (J83 [(.bool (x60 == (6 : Int)))] w74) (J83 [(.bool (x60 == (7 : Int)))] w74))))))
 (fun J75 =>
(cond (x60 == (13 : Int)) (J75 [(.bool (x60 == (13 : Int)))] w62)
(cond (x60 == (18 : Int)) (J75 [(.bool (x60 == (18 : Int)))] w62)
(cond (x60 == (25 : Int)) (J75 [(.bool (x60 == (25 : Int)))] w62)
(cond (x60 == (26 : Int)) (J75 [(.bool (x60 == (26 : Int)))] w62) (J75 [(.bool (x60 == (27 : Int)))] w62)))))))))
 (fun J63 =>
(cond (x60 == (1 : Int)) (J63 [(.bool (x60 == (1 : Int)))] w58)
(cond (x60 == (2 : Int)) (J63 [(.bool (x60 == (2 : Int)))] w58)
(cond (x60 == (3 : Int)) (J63 [(.bool (x60 == (3 : Int)))] w58)
(cond (x60 == (4 : Int)) (J63 [(.bool (x60 == (4 : Int)))] w58)
(cond (x60 == (5 : Int)) (J63 [(.bool (x60 == (5 : Int)))] w58)
(cond (x60 == (28 : Int)) (J63 [(.bool (x60 == (28 : Int)))] w58)
(cond (x60 == (29 : Int)) (J63 [(.bool (x60 == (29 : Int)))] w58) (J63 [(.bool (x60 == (33 : Int)))] w58)))))))))))))))))))))))))))))))))))))))))))))))))))
theorem F61_link (r : Option Addr) (w : World) (Q : Value → World → Prop) : fnEvT Tryz.prog Tryz.f61 1 4 [] [(2, 3)] [.d] [.d, .d, (.s (.o (ofL [0, 1, 2, 3, 4, 5, 6, 7, 8, 9, 10, 11] .nil)) (.s (.o (ofL [0, 1, 2, 3, 4, 5, 6, 7, 8, 9, 10, 11, 12, 13, 14] .nil)) (.s .d (.s .d (.j [(84, 4)] .d (.s .d (.j [(97, 4)] .d (.s .d (.j [(107, 4)] .d (.s .d (.s .d (.s (.s (.o (ofL [0, 1, 2, 3, 4, 5, 6, 7, 8, 9, 10, 11, 12, 13, 14, 15, 16] .nil)) .d) (.s .d (.s (.s (.o (ofL [0, 1, 2, 3, 4, 5, 6, 7, 8, 9, 10, 11, 12, 13, 14, 15, 16, 17, 18, 19, 20, 21, 22, 23, 24, 25, 26, 27] .nil)) .d) (.s .d (.s .d (.s .d (.s .d (.s (.j [(74, 4)] .d .d) .d))))))))))))))))))), .d] .d [(.pointer r)] w Q = F61 r w Q := by kernel_rfl
theorem F61_calls {r : Option Addr} {w : World} {Q : Value → World → Prop} (hF_ : F61 r w Q) : cl Tryz.prog 61 #[(.pointer r)] w Q :=
  calls_of_evT (fn := Tryz.f61) Tryz.func61 1 4 [] [(2, 3)] [.d] [.d, .d, (.s (.o (ofL [0, 1, 2, 3, 4, 5, 6, 7, 8, 9, 10, 11] .nil)) (.s (.o (ofL [0, 1, 2, 3, 4, 5, 6, 7, 8, 9, 10, 11, 12, 13, 14] .nil)) (.s .d (.s .d (.j [(84, 4)] .d (.s .d (.j [(97, 4)] .d (.s .d (.j [(107, 4)] .d (.s .d (.s .d (.s (.s (.o (ofL [0, 1, 2, 3, 4, 5, 6, 7, 8, 9, 10, 11, 12, 13, 14, 15, 16] .nil)) .d) (.s .d (.s (.s (.o (ofL [0, 1, 2, 3, 4, 5, 6, 7, 8, 9, 10, 11, 12, 13, 14, 15, 16, 17, 18, 19, 20, 21, 22, 23, 24, 25, 26, 27] .nil)) .d) (.s .d (.s .d (.s .d (.s .d (.s (.j [(74, 4)] .d .d) .d))))))))))))))))))), .d] .d (args := [(.pointer r)]) (by rw [F61_link]; exact hF_)
end Go.Proofs.YtndbhmmejjhcfaaGreatDoor
namespace Go.Sx
open Go
theorem pow_le_of {a b : Nat} (h : a ≤ b) : 2 ^ a ≤ 2 ^ b := Nat.pow_le_pow_right (by decide) h
theorem wr64 {n : Int} (h : -9223372036854775808 ≤ n) (h' : n ≤ 9223372036854775807) : IntKind.wrap .i64 n = n := by rw [IntKind.wrap_i64]; omega
theorem wr8 {n : Int} (h : 0 ≤ n) (h' : n ≤ 255) : IntKind.wrap .u8 n = n := by
  have : IntKind.wrap .u8 n = n % 256 := by simp [IntKind.wrap, IntKind.bits, IntKind.signed]
  rw [this]; omega
theorem ofInt_nat (n a : Nat) (h : a < 2 ^ n) : (BitVec.ofInt n (a : Int)).toNat = a := by
  simp
  exact Nat.mod_eq_of_lt h
theorem bits_or_nat {k : IntKind} {a b : Nat} (ha : a < 2 ^ k.bits) (hb : b < 2 ^ k.bits) : Go.bits .or k a b = k.wrap ((a ||| b : Nat) : Int) := by
  simp only [Go.bits, BitVec.toNat_or, ofInt_nat _ _ ha, ofInt_nat _ _ hb]
theorem fdiv_pow (v m : Nat) : Int.fdiv (v : Int) (2 ^ m) = ((v >>> m : Nat) : Int) := by
  have h : ((2 : Int) ^ m) = ((2 ^ m : Nat) : Int) := by simp
  rw [h, Int.fdiv_eq_ediv_of_nonneg _ (Int.natCast_nonneg _), Nat.shiftRight_eq_div_pow]
  simp
theorem tdiv_nat (a b : Nat) : Int.tdiv (a : Int) (b : Int) = ((a / b : Nat) : Int) := rfl
theorem tmod_nat (a b : Nat) : Int.tmod (a : Int) (b : Int) = ((a % b : Nat) : Int) := rfl
end Go.Sx
namespace Go.Proofs.YtndbhmmejjhcfaaGreatDoor
open Go Go.Sx Go.Vp
attribute [local irreducible] jn lv ld st nw asI asB asP asS asY asM asF asA asT lp rn ru rq cl dw dr bnd bn2 nz nn hd hr so eqW
set_option maxRecDepth 100000
theorem sl_int : SlN Tryz.prog 23 3 1 8 := ⟨rfl, ⟨_, _, rfl, rfl, rfl, rfl, rfl⟩, by decide⟩
theorem slt_int : SlT Tryz.prog 23 3 (.int .i64 0) 8 := ⟨rfl, ⟨_, rfl, rfl, rfl, rfl⟩, rfl⟩
theorem sl_gl : SlN Tryz.prog 28 65 3 24 := ⟨rfl, ⟨_, _, rfl, rfl, rfl, rfl, rfl⟩, by decide⟩
theorem sl_fn : SlN Tryz.prog 29 42 5 96 := ⟨rfl, ⟨_, _, rfl, rfl, rfl, rfl, rfl⟩, by decide⟩
theorem sl_in : SlN Tryz.prog 40 81 3 24 := ⟨rfl, ⟨_, _, rfl, rfl, rfl, rfl, rfl⟩, by decide⟩
theorem sl_sv : SlN Tryz.prog 38 23 1 24 := ⟨rfl, ⟨_, _, rfl, rfl, rfl, rfl, rfl⟩, by decide⟩
theorem sl_as : SlN Tryz.prog 43 87 2 32 := ⟨rfl, ⟨_, _, rfl, rfl, rfl, rfl, rfl⟩, by decide⟩
theorem sl_fr : SlN Tryz.prog 148 217 4 48 := ⟨rfl, ⟨_, _, rfl, rfl, rfl, rfl, rfl⟩, by decide⟩
set_option maxRecDepth 512
abbrev i6 (n : Int) : Value := .int .i64 n
abbrev iw (l : List Int) : List Value := iv .i64 l
theorem iv_one {k : IntKind} {l : List Int} : ∀ u ∈ iv k l, one u = true := by
  intro u hu
  obtain ⟨x, _, rfl⟩ := List.mem_map.1 hu
  rfl
theorem iv_take {k : IntKind} {l : List Int} {n : Nat} : (iv k l).take n = iv k (l.take n) := by simp [iv]
theorem iv_drop {k : IntKind} {l : List Int} {n : Nat} : (iv k l).drop n = iv k (l.drop n) := by simp [iv]
theorem iw_at {l : List Int} {i : Nat} (h : i < l.length) : (iw l)[i]? = some (i6 (l.getD i 0)) := iv_get h
theorem flat_one {α : Type} {f : α → List Value} (hf : ∀ x, ∀ u ∈ f x, one u = true) {l : List α} : ∀ u ∈ l.flatMap f, one u = true := by
  intro u hu
  obtain ⟨x, _, hx⟩ := List.mem_flatMap.1 hu
  exact hf x u hx
structure Fs where
  nm : ByteArray
  pp : Option Addr
  pc : Nat
  lp : Option Addr
  lc : Nat
  cp : Option Addr
  cc : Nat
  f : Fi
structure Is where
  gp : Option Addr
  gc : Nat
  gl : List Gl
  fp : Option Addr
  fc : Nat
  fs : List Fs
def glC (g : Gl) : List Value := [i6 g.t, i6 g.z, i6 g.v]
def inC (i : Ins) : List Value := [i6 i.op, i6 i.a, i6 i.b]
def fsC (x : Fs) : List Value := [.string x.nm, .slice x.pp x.f.par.length x.pc, i6 x.f.res, .slice x.lp x.f.loc.length x.lc, .slice x.cp x.f.code.length x.cc]
theorem glC_len (g : Gl) : (glC g).length = 3 := rfl
theorem inC_len (i : Ins) : (inC i).length = 3 := rfl
theorem fsC_len (x : Fs) : (fsC x).length = 5 := rfl
structure FsAt (w : World) (x : Fs) : Prop where
  par : Reads w x.pp (iw x.f.par)
  loc : Reads w x.lp (iw x.f.loc)
  code : Reads w x.cp (x.f.code.flatMap inC)
  pl : x.f.par.length ≤ x.pc
  ll : x.f.loc.length ≤ x.lc
structure IsAt (w : World) (I : Is) : Prop where
  gl : Reads w I.gp (I.gl.flatMap glC)
  fn : Reads w I.fp (I.fs.flatMap fsC)
  each : ∀ x ∈ I.fs, FsAt w x
def Is.im (I : Is) : Im := ⟨I.gl, I.fs.map Fs.f⟩
abbrev Is.val (I : Is) : Value := .agg #[.slice I.gp I.gl.length I.gc, .slice I.fp I.fs.length I.fc]
theorem _root_.Go.Sx.Reads.no {w w' : World} (h : Ext no w w') {p : Option Addr} {xs : List Value} (hr : Reads w p xs) : Reads w' p xs := hr.ext h fun _ _ h => h
theorem FsAt.ext {w w' : World} (h : Ext no w w') {x : Fs} (k : FsAt w x) : FsAt w' x := ⟨k.par.no h, k.loc.no h, k.code.no h, k.pl, k.ll⟩
theorem IsAt.ext {w w' : World} (h : Ext no w w') {I : Is} (k : IsAt w I) : IsAt w' I := ⟨k.gl.no h, k.fn.no h, fun x hx => (k.each x hx).ext h⟩
theorem clone_of {t e : TypeId} {s b : Nat} (ht : SlN Tryz.prog t e s b) {w : World} {p : Option Addr} {n c : Nat} {xs : List Value} (hr : Reads w p xs) (hl : xs.length = n * s) (h1 : ∀ u ∈ xs, one u = true) (hb : n * b ≤ 140737488355328) (hm : n ≤ maxLen)
    {Q : Value → World → Prop} (hQ : ∀ p' c' w', Ext no w w' → Rw.ok ⟨e, s, p', c', n, xs⟩ w' w.heap.size → Q (.slice p' n c') w') :
    cond (Option.isNone p) (Q (.slice none 0 0) w) (nw w (.cells #[] e) fun r1 w2 => (rn Tryz.prog (Builtin.append_ #[t, t] t #[(.slice (some (⟨r1, 0, none⟩ : Addr)) 0 0), (.slice p n c)]) w2 fun v3 w4 => asS v3 fun p5 n6 c7 => (Q (.slice p5 n6 c7) w4))) := by
  refine cond_split (fun hp => ?_) (fun hp => ?_)
  · have hp' : p = none := by simpa using hp
    subst hp'
    have hx : xs = [] := by
      rcases hr with h | ⟨_, _, h, _⟩
      · exact h
      · cases h
    subst hx
    have hn : n = 0 := by
      rcases Nat.mul_eq_zero.1 hl.symm with h | h
      · exact h
      · have := ht.pos; omega
    subst hn
    exact hQ none 0 w (Ext.refl _ _) (RowN.nil _ _ _ _)
  · refine (Hs.start w).nwN (cs := []) 0 s (by simp) (by decide) fun q w2 h => ?_
    refine Hs.app ht h (hr.no h.ext) hl (fun hq => by simp [hq] at hp) h1 (by rw [Nat.zero_add]; exact hb) (by rw [Nat.zero_add]; exact hm) fun p' c' w' h' _ => sp ?_
    have := h'.row _ List.mem_cons_self
    rw [Nat.zero_add] at *
    exact hQ p' c' w' h'.ext this
theorem clone_k {w : World} {p : Option Addr} {l : List Int} {c : Nat} (hr : Reads w p (iw l)) (hm : l.length ≤ 1000000) {Q : Value → World → Prop}
    (hQ : ∀ p' c' w', Ext no w w' → Rw.ok ⟨3, 1, p', c', l.length, iw l⟩ w' w.heap.size → Q (.slice p' l.length c') w') : cl Tryz.prog 22 #[.slice p l.length c] w Q := by
  apply F22_calls
  exact clone_of sl_int hr (by simp [iv]) iv_one (by omega) (by simp only [maxLen]; omega) hQ
structure Cs where
  nm : ByteArray
  p : Option Addr
  c : Nat
  par : List Int
  res : Int
def csC (x : Cs) : List Value := [.string x.nm, .slice x.p x.par.length x.c, i6 x.res]
theorem csC_len (x : Cs) : (csC x).length = 3 := rfl
structure CsAt (w : World) (p : Option Addr) (l : List Cs) : Prop where
  rd : Reads w p (l.flatMap csC)
  each : ∀ x ∈ l, Reads w x.p (iw x.par)
theorem CsAt.ext {w w' : World} (h : Ext no w w') {p : Option Addr} {l : List Cs} (k : CsAt w p l) : CsAt w' p l := ⟨k.rd.no h, fun x hx => (k.each x hx).no h⟩
structure Ms where
  mb : Nat
  I : Is
  cp : Option Addr
  cc : Nat
  cs : List Cs
structure MsAt (w : World) (M : Ms) : Prop where
  g : w.cell? ⟨M.mb, 0, none⟩ = some (.slice M.I.gp M.I.gl.length M.I.gc)
  f : w.cell? (Addr.add ⟨M.mb, 0, none⟩ 1) = some (.slice M.I.fp M.I.fs.length M.I.fc)
  c : w.cell? (Addr.add ⟨M.mb, 0, none⟩ 2) = some (.slice M.cp M.cs.length M.cc)
  I : IsAt w M.I
  cs : CsAt w M.cp M.cs
  sys : M.cs.map (fun x => (x.par, x.res)) = sysL
theorem MsAt.ext {w w' : World} (h : Ext no w w') {M : Ms} (k : MsAt w M) : MsAt w' M :=
  ⟨h.cell k.g fun h => h, h.cell k.f fun h => h, h.cell k.c fun h => h, k.I.ext h, k.cs.ext h, k.sys⟩
structure Fr where
  fn : Nat
  at' : Nat
  lp : Option Addr
  lc : Nat
  l : List Int
  base : Nat
structure Sv where
  p : Option Addr
  c : Nat
  l : List Int
structure As where
  call : Int
  p : Option Addr
  c : Nat
  l : List Int
structure Rg where
  q : Nat
  M : Ms
  fb : Nat
  fo : Nat
  op : Option Addr
  oc : Nat
  st : List Sv
  fu : Int
  fp : Nat
  fc : Nat
  f : Fr
  fs : List Fr
  sp : Option Addr
  sc : Nat
  sk : List Int
  ap : Option Addr
  ac : Nat
  aq : List As
  wa : Bool
  en : Bool
  tr : Int
  va : Int
  ex : List Rw
def frC (b o : Nat) (x : Fr) : List Value := [.pointer (some ⟨b, o + x.fn * 5, none⟩), i6 (x.at' : Int), .slice x.lp x.l.length x.lc, i6 (x.base : Int)]
def asC (x : As) : List Value := [i6 x.call, .slice x.p x.l.length x.c]
def svC (x : Sv) : Value := .slice x.p x.l.length x.c
theorem frC_len (b o : Nat) (x : Fr) : (frC b o x).length = 4 := rfl
theorem asC_len (x : As) : (asC x).length = 2 := rfl
def Fr.row (x : Fr) : Rw := ⟨3, 1, x.lp, x.lc, x.l.length, iw x.l⟩
def Sv.row (x : Sv) : Rw := ⟨3, 1, x.p, x.c, x.l.length, iw x.l⟩
def As.row (x : As) : Rw := ⟨3, 1, x.p, x.c, x.l.length, iw x.l⟩
abbrev Rg.sr (R : Rg) : Rw := ⟨3, 1, R.sp, R.sc, R.sk.length, iw R.sk⟩
abbrev Rg.ff (R : Rg) : Rw := ⟨217, 4, some ⟨R.fp, 0, none⟩, R.fc, R.fs.length + 1, (R.f :: R.fs).reverse.flatMap (frC R.fb R.fo)⟩
abbrev Rg.ar (R : Rg) : Rw := ⟨87, 2, R.ap, R.ac, R.aq.length, R.aq.flatMap asC⟩
abbrev Rg.or (R : Rg) : Rw := ⟨23, 1, R.op, R.oc, R.st.length, R.st.map svC⟩
abbrev Rg.tl (R : Rg) : List Rw := R.fs.map Fr.row ++ (R.st.map Sv.row ++ (R.aq.map As.row ++ R.ex))
abbrev Rg.lr (R : Rg) : Rw := ⟨3, 1, R.f.lp, R.f.lc, R.f.l.length, iw R.f.l⟩
abbrev Rg.rows (R : Rg) : List Rw :=
  ⟨150, 10, some ⟨R.q, 0, none⟩, 1, 1, [.pointer (some ⟨R.M.mb, 0, none⟩), .slice R.op R.st.length R.oc, i6 R.fu, .slice (some ⟨R.fp, 0, none⟩) (R.fs.length + 1) R.fc, .slice R.sp R.sk.length R.sc, .slice R.ap R.aq.length R.ac, .bool R.wa, .bool R.en, i6 R.tr, i6 R.va]⟩ ::
  R.sr :: R.ff :: R.ar :: R.or :: R.lr :: R.tl
theorem IsAt.fc {w : World} {I : Is} (h : IsAt w I) {b o : Nat} (hp : I.fp = some ⟨b, o, none⟩) {k : Nat} {x : Fs} (hx : I.fs[k]? = some x) {j : Nat} {v : Value} (hv : (fsC x)[j]? = some v) : w.cell? (Addr.add ⟨b, o + k * 5, none⟩ j) = some v := by
  have hj : j < 5 := (List.getElem?_eq_some_iff.1 hv).1
  have h1 := fl_getN fsC_len hx j hj
  rcases h.fn with h0 | ⟨b', o', e, hc⟩
  · rw [h0, hv] at h1; simp at h1
  · rw [hp] at e
    cases e
    rw [add_mk, Nat.add_assoc]
    exact hc _ _ (by rw [h1, hv])
abbrev run (q : Nat) (c0 c1 c2 c3 : Value) (sa : Option Addr) (sk : List Int) (sc : Nat) (c5 c6 c7 c8 c9 : Value) (Rs : List Rw) : List Rw :=
  ⟨150, 10, some ⟨q, 0, none⟩, 1, 1, [c0, c1, c2, c3, .slice sa sk.length sc, c5, c6, c7, c8, c9]⟩ :: ⟨3, 1, sa, sc, sk.length, iw sk⟩ :: Rs
section
variable {w0 w : World} {q : Nat} {c0 c1 c2 c3 c5 c6 c7 c8 c9 : Value} {sa : Option Addr} {sk l : List Int} {sc : Nat} {Rs : List Rw} {K : Value → World → Prop}
theorem pop_k (h : Hs w0 w (run q c0 c1 c2 c3 sa sk sc c5 c6 c7 c8 c9 Rs)) {v : Int} (hs : sk = l ++ [v]) (hb : sk.length ≤ 1000000) (hK : ∀ w', Hs w0 w' (run q c0 c1 c2 c3 sa l sc c5 c6 c7 c8 c9 Rs) → K (i6 v) w') :
    cl Tryz.prog 115 #[.pointer (some ⟨q, 0, none⟩)] w K := by
  have hl : sk.length = l.length + 1 := by simp [hs]
  have e1 : IntKind.wrap .i64 ((sk.length : Int) - 1) = (l.length : Nat) := by rw [wr64 (by omega) (by omega)]; omega
  apply F115_calls
  unfold F115
  repeat first|refine sp ?_|refine cond_t rfl ?_|refine cond_f rfl ?_|refine asT_i rfl rfl ?_|refine asA_i rfl rfl ?_|refine h.l rfl ?_|refine h.hd rfl ?_|(refine h.sb rfl rfl ?_;clear h;intro _ h)|(refine h.dw ?_;clear h;intro _ h)
  rw [e1]
  refine h.ix sa rfl (show _ < sk.length by omega) rfl fun b hp hc => ?_
  have hv : (iw sk)[l.length]? = some (i6 v) := by simp [iv, hs]
  rw [Int.toNat_natCast, Nat.mul_one, add_mk, Nat.zero_add]
  refine ld_mk (hc _ _ hv) ?_
  repeat first|refine sp ?_|refine cond_t rfl ?_|refine cond_f rfl ?_|refine asT_i rfl rfl ?_|refine asA_i rfl rfl ?_|refine h.l rfl ?_|refine h.hd rfl ?_|(refine h.sb rfl rfl ?_;clear h;intro _ h)|(refine h.dw ?_;clear h;intro _ h)
  have hsc : sk.length ≤ sc := RowN.le_max (h.row ⟨3, 1, sa, sc, sk.length, iw sk⟩ (by simp))
  refine bn2_mk (by omega) (by omega) ?_
  repeat first|refine sp ?_|refine cond_t rfl ?_|refine cond_f rfl ?_|refine asT_i rfl rfl ?_|refine asA_i rfl rfl ?_|refine h.l rfl ?_|refine h.hd rfl ?_|(refine h.sb rfl rfl ?_;clear h;intro _ h)|(refine h.dw ?_;clear h;intro _ h)
  refine hK _ ?_
  have := h.cut sa l.length (by omega)
  simp only [List.set, Nat.mul_one, iv_take, hs, List.take_left'] at this
  exact this
theorem push_k (h : Hs w0 w (run q c0 c1 c2 c3 sa sk sc c5 c6 c7 c8 c9 Rs)) {v : Int} (hb : sk.length ≤ 1000000) (hK : ∀ p c w', Hs w0 w' (run q c0 c1 c2 c3 p (sk ++ [v]) c c5 c6 c7 c8 c9 Rs) → K (.tuple #[]) w') :
    cl Tryz.prog 62 #[.pointer (some ⟨q, 0, none⟩), i6 v] w K := by
  apply F62_calls
  unfold F62
  repeat first|refine sp ?_|refine cond_t rfl ?_|refine cond_f rfl ?_|refine asT_i rfl rfl ?_|refine asA_i rfl rfl ?_|refine h.l rfl ?_|refine h.hd rfl ?_|(refine h.sb rfl rfl ?_;clear h;intro _ h)|(refine h.dw ?_;clear h;intro _ h)
  refine Hs.app1 sl_int h rfl (by simp [one]) (by omega) (by simp only [maxLen]; omega) ?_
  clear h
  intro p c w' h
  repeat first|refine sp ?_|refine cond_t rfl ?_|refine cond_f rfl ?_|refine asT_i rfl rfl ?_|refine asA_i rfl rfl ?_|refine h.l rfl ?_|refine h.hd rfl ?_|(refine h.sb rfl rfl ?_;clear h;intro _ h)|(refine h.dw ?_;clear h;intro _ h)
  refine hK (some ⟨p, 0, none⟩) c _ ?_
  have e : iw sk ++ [i6 v] = iw (sk ++ [v]) := by simp [iv]
  have e2 : sk.length + 1 = (sk ++ [v]).length := by simp
  simp only [List.set, e] at h
  rw [e2] at h
  exact h
theorem pops_k (h : Hs w0 w (run q c0 c1 c2 c3 sa sk sc c5 c6 c7 c8 c9 Rs)) {r : List Int} (hs : sk = l ++ r) (hb : sk.length ≤ 1000000)
    (hK : ∀ p c w', Hs w0 w' (⟨3, 1, p, c, r.length, iw r⟩ :: run q c0 c1 c2 c3 sa l sc c5 c6 c7 c8 c9 Rs) → K (.slice p r.length c) w') :
    cl Tryz.prog 113 #[.pointer (some ⟨q, 0, none⟩), i6 (r.length : Int)] w K := by
  have hl : sk.length = l.length + r.length := by simp [hs]
  have e1 : IntKind.wrap .i64 ((sk.length : Int) - (r.length : Int)) = (l.length : Nat) := by rw [wr64 (by omega) (by omega)]; omega
  have hsc : sk.length ≤ sc := RowN.le_max (h.row ⟨3, 1, sa, sc, sk.length, iw sk⟩ (by simp))
  have hd : sk.length - l.length = r.length := by omega
  apply F113_calls
  unfold F113
  repeat first|refine sp ?_|refine cond_t rfl ?_|refine cond_f rfl ?_|refine asT_i rfl rfl ?_|refine asA_i rfl rfl ?_|refine h.l rfl ?_|refine h.hd rfl ?_|(refine h.sb rfl rfl ?_;clear h;intro _ h)|(refine h.dw ?_;clear h;intro _ h)
  rw [e1]
  repeat first|refine sp ?_|refine cond_t rfl ?_|refine cond_f rfl ?_|refine asT_i rfl rfl ?_|refine asA_i rfl rfl ?_|refine h.l rfl ?_|refine h.hd rfl ?_|(refine h.sb rfl rfl ?_;clear h;intro _ h)|(refine h.dw ?_;clear h;intro _ h)
  refine bn2_mk (by omega) (by omega) ?_
  rw [Int.toNat_natCast, hd]
  have hr : Reads w sa (iw sk) := h.rd (r := ⟨3, 1, sa, sc, sk.length, iw sk⟩) (by simp)
  have hr2 := Reads.drop (n := l.length) hr (c := sc) (by simpa [iv] using hsc)
  rw [iv_drop, hs, List.drop_left] at hr2
  refine clone_k hr2 (by omega) fun p c w2 hx hrow => ?_
  replace h := h.push hx hrow
  repeat first|refine sp ?_|refine cond_t rfl ?_|refine cond_f rfl ?_|refine asT_i rfl rfl ?_|refine asA_i rfl rfl ?_|refine h.l rfl ?_|refine h.hd rfl ?_|(refine h.sb rfl rfl ?_;clear h;intro _ h)|(refine h.dw ?_;clear h;intro _ h)
  refine bn2_mk (by omega) (by omega) ?_
  repeat first|refine sp ?_|refine cond_t rfl ?_|refine cond_f rfl ?_|refine asT_i rfl rfl ?_|refine asA_i rfl rfl ?_|refine h.l rfl ?_|refine h.hd rfl ?_|(refine h.sb rfl rfl ?_;clear h;intro _ h)|(refine h.dw ?_;clear h;intro _ h)
  refine hK p c _ ?_
  have := h.cut sa l.length (by omega)
  simp only [List.set, Nat.mul_one, iv_take, hs, List.take_left'] at this
  exact this
end
end Go.Proofs.YtndbhmmejjhcfaaGreatDoor
