/- The formulas that the evaluator Sx.ev comes to for functions of this seat, each with its linking theorem (by the kernel). Printed by this session's own program (wip/tool/sxgen.py). -/
import Derived.Test.YtamobmjfdiecbaaProg
import Derived.Test.YtamobmjfdiecbaaMgWorldPlays1
import Derived.KernelRfl
namespace Go.Proofs.Ytamobmjfdiecbaa
open Go Go.Sx
set_option maxRecDepth 100000

/-! tiltyard/tiltyardlaw19.WorldFull -/
def h3 : Hint := (.s .d (.s .d (.s .d (.s .d (.s (.j [(32, 4)] .d (.s (.j [(4, 4)] .d .d) .d)) (.s .d (.s (.s .d (.l [(8, 3), (9, 3)] (.s .d (.j [(8, 3)] .d .d)))) (.s .d (.s .d (.s .d (.s .d (.j [(4, 4)] .d .d))))))))))))
set_option linter.unusedVariables false in
def F3 (e_0 : Int) (e_1 : Int) (e_2 : Int) (e_3 : Int) (e_4 : Int) (e_5 : Int) (e_6 : Int) (e_7 : Int) (k : Int) (w : World) (Q : Value → World → Prop) : Prop :=
 (nw w (.cells #[(.int .i64 e_0), (.int .i64 e_1), (.int .i64 e_2), (.int .i64 e_3), (.int .i64 e_4), (.int .i64 e_5), (.int .i64 e_6), (.int .i64 e_7)] 27) fun r1 w2 => 
(cl Try.prog 13 #[] w2 fun v3 w4 => asB v3 fun b5 => 
(cl Try.prog 14 #[] w4 fun v6 w7 => asP v6 fun p8 => 
(ld w7 (⟨r1, 0, none⟩ : Addr) fun v9 => asI .i64 v9 fun x10 => (ld w7 (Addr.add (⟨r1, 0, none⟩ : Addr) 1) fun v11 => asI .i64 v11 fun x12 => (ld w7 (Addr.add (⟨r1, 0, none⟩ : Addr) 2) fun v13 => asI .i64 v13 fun x14 => (ld w7 (Addr.add (⟨r1, 0, none⟩ : Addr) 3) fun v15 => asI .i64 v15 fun x16 => (ld w7 (Addr.add (⟨r1, 0, none⟩ : Addr) 4) fun v17 => asI .i64 v17 fun x18 => (ld w7 (Addr.add (⟨r1, 0, none⟩ : Addr) 5) fun v19 => asI .i64 v19 fun x20 => (ld w7 (Addr.add (⟨r1, 0, none⟩ : Addr) 6) fun v21 => asI .i64 v21 fun x22 => (ld w7 (Addr.add (⟨r1, 0, none⟩ : Addr) 7) fun v23 => asI .i64 v23 fun x24 => (cl Try.prog 15 #[(.agg #[(.int .i64 x10), (.int .i64 x12), (.int .i64 x14), (.int .i64 x16), (.int .i64 x18), (.int .i64 x20), (.int .i64 x22), (.int .i64 x24)])] w7 fun v25 w26 => asI .i64 v25 fun x27 => (lv x27 fun right_28 => 
(jn (fun s29 w30 => asB (s29.getD 0 undef) fun b32 => (cond b32 (jn (fun s33 w34 => asB (s33.getD 0 undef) fun b36 => (Q (.bool b36) w34))
 (fun J35 => (cond b5 (J35 [(.bool (!(Option.isNone p8)))] w30) (J35 [(.bool false)] w30)))) 
(lv (0 : Int) fun first_37 => 
(lv (0 : Int) fun i_38 => 
(lp [(.int .i64 first_37), (.int .i64 i_38)] w30 fun J41 s39 w40 => asI .i64 (s39.getD 0 undef) fun x42 => asI .i64 (s39.getD 1 undef) fun x43 => 
(cond (decide (x43 < (64 : Int))) 
(jn (fun s44 w45 => asI .i64 (s44.getD 0 undef) fun x71 => (lv (IntKind.wrap .i64 (x43 + (1 : Int))) fun i_72 => (J41 [(.int .i64 x71), (.int .i64 i_72)] w45)))
 (fun J46 => (ld w40 (⟨r1, 0, none⟩ : Addr) fun v47 => asI .i64 v47 fun x48 => (ld w40 (Addr.add (⟨r1, 0, none⟩ : Addr) 1) fun v49 => asI .i64 v49 fun x50 => (ld w40 (Addr.add (⟨r1, 0, none⟩ : Addr) 2) fun v51 => asI .i64 v51 fun x52 => (ld w40 (Addr.add (⟨r1, 0, none⟩ : Addr) 3) fun v53 => asI .i64 v53 fun x54 => (ld w40 (Addr.add (⟨r1, 0, none⟩ : Addr) 4) fun v55 => asI .i64 v55 fun x56 => (ld w40 (Addr.add (⟨r1, 0, none⟩ : Addr) 5) fun v57 => asI .i64 v57 fun x58 => (ld w40 (Addr.add (⟨r1, 0, none⟩ : Addr) 6) fun v59 => asI .i64 v59 fun x60 => (ld w40 (Addr.add (⟨r1, 0, none⟩ : Addr) 7) fun v61 => asI .i64 v61 fun x62 => (cl Try.prog 16 #[(.pointer p8), (.agg #[(.int .i64 x48), (.int .i64 x50), (.int .i64 x52), (.int .i64 x54), (.int .i64 x56), (.int .i64 x58), (.int .i64 x60), (.int .i64 x62)])] w40 fun v63 w64 => asT 2 v63 fun t65 => asI .i64 (t65 0) fun x66 => asI .i64 (t65 1) fun x67 => (lv x66 fun h_68 => (lv x67 fun f_69 => 

(cond (f_69 != (0 : Int)) 
(Q (.bool false) w64) 

(cond (x43 == (Go.bits .and .i64 k (63 : Int))) (lv h_68 fun first_70 => (J46 [(.int .i64 first_70)] w64)) (J46 [(.int .i64 x42)] w64)))))))))))))))) 
(ld w40 (⟨r1, 0, none⟩ : Addr) fun v73 => asI .i64 v73 fun x74 => (ld w40 (Addr.add (⟨r1, 0, none⟩ : Addr) 1) fun v75 => asI .i64 v75 fun x76 => (ld w40 (Addr.add (⟨r1, 0, none⟩ : Addr) 2) fun v77 => asI .i64 v77 fun x78 => (ld w40 (Addr.add (⟨r1, 0, none⟩ : Addr) 3) fun v79 => asI .i64 v79 fun x80 => (ld w40 (Addr.add (⟨r1, 0, none⟩ : Addr) 4) fun v81 => asI .i64 v81 fun x82 => (ld w40 (Addr.add (⟨r1, 0, none⟩ : Addr) 5) fun v83 => asI .i64 v83 fun x84 => (ld w40 (Addr.add (⟨r1, 0, none⟩ : Addr) 6) fun v85 => asI .i64 v85 fun x86 => (ld w40 (Addr.add (⟨r1, 0, none⟩ : Addr) 7) fun v87 => asI .i64 v87 fun x88 => (cl Try.prog 16 #[(.pointer p8), (.agg #[(.int .i64 x74), (.int .i64 x76), (.int .i64 x78), (.int .i64 x80), (.int .i64 x82), (.int .i64 x84), (.int .i64 x86), (.int .i64 x88)])] w40 fun v89 w90 => asT 2 v89 fun t91 => asI .i64 (t91 0) fun x92 => asI .i64 (t91 1) fun x93 => (lv x92 fun __94 => (lv x93 fun full_95 => 
(cl Try.prog 17 #[(.pointer p8), (.int .i64 x42)] w90 fun v96 w97 => asI .i64 v96 fun x98 => (lv x98 fun dead_99 => 
(ld w97 (⟨r1, 0, none⟩ : Addr) fun v100 => asI .i64 v100 fun x101 => (ld w97 (Addr.add (⟨r1, 0, none⟩ : Addr) 1) fun v102 => asI .i64 v102 fun x103 => (ld w97 (Addr.add (⟨r1, 0, none⟩ : Addr) 2) fun v104 => asI .i64 v104 fun x105 => (ld w97 (Addr.add (⟨r1, 0, none⟩ : Addr) 3) fun v106 => asI .i64 v106 fun x107 => (ld w97 (Addr.add (⟨r1, 0, none⟩ : Addr) 4) fun v108 => asI .i64 v108 fun x109 => (ld w97 (Addr.add (⟨r1, 0, none⟩ : Addr) 5) fun v110 => asI .i64 v110 fun x111 => (ld w97 (Addr.add (⟨r1, 0, none⟩ : Addr) 6) fun v112 => asI .i64 v112 fun x113 => (ld w97 (Addr.add (⟨r1, 0, none⟩ : Addr) 7) fun v114 => asI .i64 v114 fun x115 => (cl Try.prog 16 #[(.pointer p8), (.agg #[(.int .i64 x101), (.int .i64 x103), (.int .i64 x105), (.int .i64 x107), (.int .i64 x109), (.int .i64 x111), (.int .i64 x113), (.int .i64 x115)])] w97 fun v116 w117 => asT 2 v116 fun t118 => asI .i64 (t118 0) fun x119 => asI .i64 (t118 1) fun x120 => (lv x119 fun h_121 => (lv x120 fun f_122 => 
(ld w117 (⟨r1, 0, none⟩ : Addr) fun v123 => asI .i64 v123 fun x124 => (ld w117 (Addr.add (⟨r1, 0, none⟩ : Addr) 1) fun v125 => asI .i64 v125 fun x126 => (ld w117 (Addr.add (⟨r1, 0, none⟩ : Addr) 2) fun v127 => asI .i64 v127 fun x128 => (ld w117 (Addr.add (⟨r1, 0, none⟩ : Addr) 3) fun v129 => asI .i64 v129 fun x130 => (ld w117 (Addr.add (⟨r1, 0, none⟩ : Addr) 4) fun v131 => asI .i64 v131 fun x132 => (ld w117 (Addr.add (⟨r1, 0, none⟩ : Addr) 5) fun v133 => asI .i64 v133 fun x134 => (ld w117 (Addr.add (⟨r1, 0, none⟩ : Addr) 6) fun v135 => asI .i64 v135 fun x136 => (ld w117 (Addr.add (⟨r1, 0, none⟩ : Addr) 7) fun v137 => asI .i64 v137 fun x138 => (cl Try.prog 16 #[(.pointer p8), (.agg #[(.int .i64 x124), (.int .i64 x126), (.int .i64 x128), (.int .i64 x130), (.int .i64 x132), (.int .i64 x134), (.int .i64 x136), (.int .i64 x138)])] w117 fun v139 w140 => asT 2 v139 fun t141 => asI .i64 (t141 0) fun x142 => asI .i64 (t141 1) fun x143 => (lv x142 fun __144 => (lv x143 fun again_145 => 
(jn (fun s146 w147 => asB (s146.getD 0 undef) fun b149 => (Q (.bool b149) w147))
 (fun J148 => (cond (full_95 == (2 : Int)) (cond (dead_99 == (0 : Int)) (cond (f_122 == (0 : Int)) (cond (h_121 != x42) (cond ((Int.tmod h_121 (64 : Int)) == (Int.tmod x42 (64 : Int))) (J148 [(.bool (again_145 == (2 : Int)))] w140) (J148 [(.bool false)] w140)) (J148 [(.bool false)] w140)) (J148 [(.bool false)] w140)) (J148 [(.bool false)] w140)) (J148 [(.bool false)] w140)))))))))))))))))))))))))))))))))))))))))))))
 (fun J31 => (cond (!b5) (J31 [(.bool true)] w26) (cond (Option.isNone p8) (J31 [(.bool true)] w26) (J31 [(.bool (right_28 != (0 : Int)))] w26))))))))))))))))))
theorem F3_link (e_0 : Int) (e_1 : Int) (e_2 : Int) (e_3 : Int) (e_4 : Int) (e_5 : Int) (e_6 : Int) (e_7 : Int) (k : Int) (w : World) (Q : Value → World → Prop) : fnEv Try.prog Try.f3 h3 [(.agg #[(.int .i64 e_0), (.int .i64 e_1), (.int .i64 e_2), (.int .i64 e_3), (.int .i64 e_4), (.int .i64 e_5), (.int .i64 e_6), (.int .i64 e_7)]), (.int .i64 k)] w Q = F3 e_0 e_1 e_2 e_3 e_4 e_5 e_6 e_7 k w Q := by kernel_rfl
theorem F3_calls {e_0 : Int} {e_1 : Int} {e_2 : Int} {e_3 : Int} {e_4 : Int} {e_5 : Int} {e_6 : Int} {e_7 : Int} {k : Int} {w : World} {Q : Value → World → Prop} (hF_ : F3 e_0 e_1 e_2 e_3 e_4 e_5 e_6 e_7 k w Q) : cl Try.prog 3 #[(.agg #[(.int .i64 e_0), (.int .i64 e_1), (.int .i64 e_2), (.int .i64 e_3), (.int .i64 e_4), (.int .i64 e_5), (.int .i64 e_6), (.int .i64 e_7)]), (.int .i64 k)] w Q :=
  calls_of_ev (fn := Try.f3) Try.func3 h3 (args := [(.agg #[(.int .i64 e_0), (.int .i64 e_1), (.int .i64 e_2), (.int .i64 e_3), (.int .i64 e_4), (.int .i64 e_5), (.int .i64 e_6), (.int .i64 e_7)]), (.int .i64 k)]) (by rw [F3_link]; exact hF_)

/-! tiltyard/tiltyardlaw19.WorldHandles -/
def h4 : Hint := (.s .d (.s .d (.s .d (.s (.j [(23, 4)] .d .d) (.s .d (.s .d (.s (.s .d (.l [(5, 38), (6, 38), (7, 3)] (.s (.j [(31, 4)] .d .d) (.s (.s .d (.j [(5, 38)] (.s .d (.s (.s .d (.s (.j [(56, 4)] .d .d) (.s (.s .d (.l [(11, 3)] (.s (.j [(64, 4)] .d .d) .d))) .d))) .d)) (.j [(6, 38)] .d (.s (.s .d (.l [(13, 3)] (.s .d (.s (.s .d (.j [(118, 4)] .d .d)) .d)))) (.j [(133, 4)] .d .d))))) .d)))) .d)))))))
set_option linter.unusedVariables false in
def F4 (acts : Option Addr) (acts_n acts_c : Nat) (w : World) (Q : Value → World → Prop) : Prop :=
 
(cl Try.prog 13 #[] w fun v1 w2 => asB v1 fun b3 => 
(cl Try.prog 14 #[] w2 fun v4 w5 => asP v4 fun p6 => 
(jn (fun s7 w8 => asB (s7.getD 0 undef) fun b10 => (cond b10 
(Q (.bool false) w8) 


(lv (0 : Int) fun i_11 => 
(lp [(.slice none 0 0), (.slice none 0 0), (.int .i64 i_11)] w8 fun J14 s12 w13 => asS (s12.getD 0 undef) fun p15 n16 c17 => asS (s12.getD 1 undef) fun p18 n19 c20 => asI .i64 (s12.getD 2 undef) fun x21 => (jn (fun s22 w23 => asB (s22.getD 0 undef) fun b25 => (cond b25 
(dr acts fun a26 => (bnd x21 acts_n (ld w23 (Addr.add a26 (Int.toNat x21 * 10)) fun v27 => asI .i64 v27 fun x28 => (ld w23 (Addr.add (Addr.add a26 (Int.toNat x21 * 10)) 1) fun v29 => asI .i64 v29 fun x30 => (ld w23 (Addr.add (Addr.add a26 (Int.toNat x21 * 10)) 2) fun v31 => asI .i64 v31 fun x32 => (ld w23 (Addr.add (Addr.add a26 (Int.toNat x21 * 10)) 3) fun v33 => asI .i64 v33 fun x34 => (ld w23 (Addr.add (Addr.add a26 (Int.toNat x21 * 10)) 4) fun v35 => asI .i64 v35 fun x36 => (ld w23 (Addr.add (Addr.add a26 (Int.toNat x21 * 10)) 5) fun v37 => asI .i64 v37 fun x38 => (ld w23 (Addr.add (Addr.add a26 (Int.toNat x21 * 10)) 6) fun v39 => asI .i64 v39 fun x40 => (ld w23 (Addr.add (Addr.add a26 (Int.toNat x21 * 10)) 7) fun v41 => asI .i64 v41 fun x42 => (ld w23 (Addr.add (Addr.add a26 (Int.toNat x21 * 10)) 8) fun v43 => asI .i64 v43 fun x44 => (ld w23 (Addr.add (Addr.add a26 (Int.toNat x21 * 10)) 9) fun v45 => asI .i64 v45 fun x46 => (nw w23 (.cells #[(.int .i64 (0 : Int)), (.int .i64 (0 : Int)), (.int .i64 (0 : Int)), (.int .i64 (0 : Int)), (.int .i64 (0 : Int)), (.int .i64 (0 : Int)), (.int .i64 (0 : Int)), (.int .i64 (0 : Int)), (.int .i64 (0 : Int)), (.int .i64 (0 : Int))] 40) fun r47 w48 => (st w48 (⟨r47, 0, none⟩ : Addr) (.int .i64 x28) fun w49 => (st w49 (Addr.add (⟨r47, 0, none⟩ : Addr) 1) (.int .i64 x30) fun w50 => (st w50 (Addr.add (⟨r47, 0, none⟩ : Addr) 2) (.int .i64 x32) fun w51 => (st w51 (Addr.add (⟨r47, 0, none⟩ : Addr) 3) (.int .i64 x34) fun w52 => (st w52 (Addr.add (⟨r47, 0, none⟩ : Addr) 4) (.int .i64 x36) fun w53 => (st w53 (Addr.add (⟨r47, 0, none⟩ : Addr) 5) (.int .i64 x38) fun w54 => (st w54 (Addr.add (⟨r47, 0, none⟩ : Addr) 6) (.int .i64 x40) fun w55 => (st w55 (Addr.add (⟨r47, 0, none⟩ : Addr) 7) (.int .i64 x42) fun w56 => (st w56 (Addr.add (⟨r47, 0, none⟩ : Addr) 8) (.int .i64 x44) fun w57 => (st w57 (Addr.add (⟨r47, 0, none⟩ : Addr) 9) (.int .i64 x46) fun w58 => 
(jn (fun s59 w60 => asS (s59.getD 0 undef) fun p111 n112 c113 => (jn (fun s114 w115 => asS (s114.getD 0 undef) fun p134 n135 c136 => (lv (0 : Int) fun k_137 => 
(lp [(.int .i64 k_137)] w115 fun J140 s138 w139 => asI .i64 (s138.getD 0 undef) fun x141 => 
(cond (decide (x141 < (n135 : Int))) 
(dr p134 fun a142 => (bnd x141 n135 (ld w139 (Addr.add a142 (Int.toNat x141 * 1)) fun v143 => asI .i64 v143 fun x144 => (cl Try.prog 18 #[(.pointer p6), (.int .i64 x144)] w139 fun v145 w146 => asT 2 v145 fun t147 => asA 8 (t147 0) fun a148 => asI .i64 (a148 0) fun x149 => asI .i64 (a148 1) fun x150 => asI .i64 (a148 2) fun x151 => asI .i64 (a148 3) fun x152 => asI .i64 (a148 4) fun x153 => asI .i64 (a148 5) fun x154 => asI .i64 (a148 6) fun x155 => asI .i64 (a148 7) fun x156 => asI .i64 (t147 1) fun x157 => (nw w146 (.cells #[(.int .i64 (0 : Int)), (.int .i64 (0 : Int)), (.int .i64 (0 : Int)), (.int .i64 (0 : Int)), (.int .i64 (0 : Int)), (.int .i64 (0 : Int)), (.int .i64 (0 : Int)), (.int .i64 (0 : Int))] 27) fun r158 w159 => (st w159 (⟨r158, 0, none⟩ : Addr) (.int .i64 x149) fun w160 => (st w160 (Addr.add (⟨r158, 0, none⟩ : Addr) 1) (.int .i64 x150) fun w161 => (st w161 (Addr.add (⟨r158, 0, none⟩ : Addr) 2) (.int .i64 x151) fun w162 => (st w162 (Addr.add (⟨r158, 0, none⟩ : Addr) 3) (.int .i64 x152) fun w163 => (st w163 (Addr.add (⟨r158, 0, none⟩ : Addr) 4) (.int .i64 x153) fun w164 => (st w164 (Addr.add (⟨r158, 0, none⟩ : Addr) 5) (.int .i64 x154) fun w165 => (st w165 (Addr.add (⟨r158, 0, none⟩ : Addr) 6) (.int .i64 x155) fun w166 => (st w166 (Addr.add (⟨r158, 0, none⟩ : Addr) 7) (.int .i64 x156) fun w167 => (lv x157 fun e_168 => 
(jn (fun s169 w170 => asB (s169.getD 0 undef) fun b178 => (cond b178 
(Q (.bool false) w170) 
(lv (IntKind.wrap .i64 (x141 + (1 : Int))) fun k_179 => (J140 [(.int .i64 k_179)] w170))))
 (fun J171 => (cond (e_168 != (190 : Int)) (J171 [(.bool true)] w167) (dr p134 fun a172 => (bnd x141 n135 (ld w167 (Addr.add a172 (Int.toNat x141 * 1)) fun v173 => asI .i64 v173 fun x174 => (cl Try.prog 17 #[(.pointer p6), (.int .i64 x174)] w167 fun v175 w176 => asI .i64 v175 fun x177 => (J171 [(.bool (x177 != (190 : Int)))] w176)))))))))))))))))))))) 
(jn (fun s180 w181 => asB (s180.getD 0 undef) fun b193 => (cond b193 
(Q (.bool false) w181) 
(lv (IntKind.wrap .i64 (x21 + (1 : Int))) fun i_194 => (J14 [(.slice p111 n112 c113), (.slice p134 n135 c136), (.int .i64 i_194)] w181))))
 (fun J182 => (cl Try.prog 19 #[(.pointer p6)] w139 fun v183 w184 => asS v183 fun p185 n186 c187 => (cond ((n186 : Int) != (IntKind.wrap .i64 ((n112 : Int) - (n135 : Int)))) (J182 [(.bool true)] w184) (cl Try.prog 19 #[(.pointer p6)] w184 fun v188 w189 => asS v188 fun p190 n191 c192 => (J182 [(.bool (decide ((n191 : Int) > (64 : Int))))] w189))))))))))
 (fun J116 => (ld w60 (⟨r47, 0, none⟩ : Addr) fun v117 => asI .i64 v117 fun x118 => 
(cond (x118 == (1 : Int)) (ld w60 (Addr.add (⟨r47, 0, none⟩ : Addr) 1) fun v119 => asI .i64 v119 fun x120 => (cl Try.prog 17 #[(.pointer p6), (.int .i64 x120)] w60 fun v121 w122 => asI .i64 v121 fun x123 => (lv x123 fun e_124 => 

(cond (e_124 == (0 : Int)) (ld w122 (Addr.add (⟨r47, 0, none⟩ : Addr) 1) fun v125 => asI .i64 v125 fun x126 => (nw w122 (.cells #[(.int .i64 x126)] 3) fun r127 w128 => (rn Try.prog (Builtin.append_ #[38, 38] 38 #[(.slice p18 n19 c20), (.slice (some (⟨r127, 0, none⟩ : Addr)) 1 1)]) w128 fun v129 w130 => asS v129 fun p131 n132 c133 => (J116 [(.slice p131 n132 c133)] w130)))) (J116 [(.slice p18 n19 c20)] w122))))) (J116 [(.slice p18 n19 c20)] w60))))))
 (fun J61 => (ld w58 (⟨r47, 0, none⟩ : Addr) fun v62 => asI .i64 v62 fun x63 => 
(cond (x63 == (0 : Int)) (ld w58 (Addr.add (⟨r47, 0, none⟩ : Addr) 2) fun v64 => asI .i64 v64 fun x65 => (ld w58 (Addr.add (Addr.add (⟨r47, 0, none⟩ : Addr) 2) 1) fun v66 => asI .i64 v66 fun x67 => (ld w58 (Addr.add (Addr.add (⟨r47, 0, none⟩ : Addr) 2) 2) fun v68 => asI .i64 v68 fun x69 => (ld w58 (Addr.add (Addr.add (⟨r47, 0, none⟩ : Addr) 2) 3) fun v70 => asI .i64 v70 fun x71 => (ld w58 (Addr.add (Addr.add (⟨r47, 0, none⟩ : Addr) 2) 4) fun v72 => asI .i64 v72 fun x73 => (ld w58 (Addr.add (Addr.add (⟨r47, 0, none⟩ : Addr) 2) 5) fun v74 => asI .i64 v74 fun x75 => (ld w58 (Addr.add (Addr.add (⟨r47, 0, none⟩ : Addr) 2) 6) fun v76 => asI .i64 v76 fun x77 => (ld w58 (Addr.add (Addr.add (⟨r47, 0, none⟩ : Addr) 2) 7) fun v78 => asI .i64 v78 fun x79 => (cl Try.prog 16 #[(.pointer p6), (.agg #[(.int .i64 x65), (.int .i64 x67), (.int .i64 x69), (.int .i64 x71), (.int .i64 x73), (.int .i64 x75), (.int .i64 x77), (.int .i64 x79)])] w58 fun v80 w81 => asT 2 v80 fun t82 => asI .i64 (t82 0) fun x83 => asI .i64 (t82 1) fun x84 => (lv x83 fun h_85 => (lv x84 fun e_86 => 
(jn (fun s87 w88 => asB (s87.getD 0 undef) fun b90 => (cond b90 
(Q (.bool false) w88) 
(lv (0 : Int) fun k_91 => 
(lp [(.int .i64 k_91)] w88 fun J94 s92 w93 => asI .i64 (s92.getD 0 undef) fun x95 => (jn (fun s96 w97 => asB (s96.getD 0 undef) fun b99 => (cond b99 
(dr p15 fun a100 => (bnd x95 n16 (ld w97 (Addr.add a100 (Int.toNat x95 * 1)) fun v101 => asI .i64 v101 fun x102 => 
(cond (x102 == h_85) 
(Q (.bool false) w97) 
(lv (IntKind.wrap .i64 (x95 + (1 : Int))) fun k_103 => (J94 [(.int .i64 k_103)] w97)))))) 

(cond (h_85 != (0 : Int)) (nw w97 (.cells #[(.int .i64 h_85)] 3) fun r104 w105 => (rn Try.prog (Builtin.append_ #[38, 38] 38 #[(.slice p15 n16 c17), (.slice (some (⟨r104, 0, none⟩ : Addr)) 1 1)]) w105 fun v106 w107 => asS v106 fun p108 n109 c110 => (J61 [(.slice p108 n109 c110)] w107))) (J61 [(.slice p15 n16 c17)] w97))))
 (fun J98 => (cond (decide (x95 < (n16 : Int))) (J98 [(.bool (h_85 != (0 : Int)))] w93) (J98 [(.bool false)] w93))))))))
 (fun J89 => (cond (!((e_86 == (0 : Int)) == (h_85 != (0 : Int)))) (J89 [(.bool true)] w81) (J89 [(.bool (decide (h_85 < (0 : Int))))] w81))))))))))))))) (J61 [(.slice p15 n16 c17)] w58)))))))))))))))))))))))))))) 

(Q (.bool true) w23)))
 (fun J24 => (cond (decide (x21 < (acts_n : Int))) (J24 [(.bool (decide (x21 < (300 : Int))))] w13) (J24 [(.bool false)] w13))))))))
 (fun J9 => (cond (!b3) (J9 [(.bool true)] w5) (J9 [(.bool (Option.isNone p6))] w5))))))
theorem F4_link (acts : Option Addr) (acts_n acts_c : Nat) (w : World) (Q : Value → World → Prop) : fnEv Try.prog Try.f4 h4 [(.slice acts acts_n acts_c)] w Q = F4 acts acts_n acts_c w Q := by kernel_rfl
theorem F4_calls {acts : Option Addr} {acts_n acts_c : Nat} {w : World} {Q : Value → World → Prop} (hF_ : F4 acts acts_n acts_c w Q) : cl Try.prog 4 #[(.slice acts acts_n acts_c)] w Q :=
  calls_of_ev (fn := Try.f4) Try.func4 h4 (args := [(.slice acts acts_n acts_c)]) (by rw [F4_link]; exact hF_)

/-! tiltyard/tiltyardlaw19.WorldSame -/
def h5 : Hint := (.s .d (.s .d (.s .d (.s (.j [(17, 4)] .d .d) (.s (.s .d (.l [(5, 3)] (.s (.j [(25, 4)] .d .d) .d))) (.s .d (.s (.s .d (.l [(7, 3)] (.s .d (.s (.s .d (.j [(69, 4)] (.o (ofL [0, 1, 2, 3, 4, 5, 6, 7, 8, 9, 10, 11, 12, 13, 14, 15, 16, 17] .nil)) .d)) .d)))) .d)))))))
set_option linter.unusedVariables false in
def F5 (l : Option Addr) (l_n l_c : Nat) (w : World) (Q : Value → World → Prop) : Prop :=
 
(cl Try.prog 13 #[] w fun v1 w2 => asB v1 fun b3 => 
(cl Try.prog 14 #[] w2 fun v4 w5 => asP v4 fun p6 => 
(jn (fun s7 w8 => asB (s7.getD 0 undef) fun b10 => (cond b10 
(Q (.bool false) w8) 
(lv (0 : Int) fun i_11 => 
(lp [(.int .i64 i_11)] w8 fun J14 s12 w13 => asI .i64 (s12.getD 0 undef) fun x15 => (jn (fun s16 w17 => asB (s16.getD 0 undef) fun b19 => (cond b19 
(dr l fun a20 => (bnd x15 l_n (ld w17 (Addr.add a20 (Int.toNat x15 * 8)) fun v21 => asI .i64 v21 fun x22 => (ld w17 (Addr.add (Addr.add a20 (Int.toNat x15 * 8)) 1) fun v23 => asI .i64 v23 fun x24 => (ld w17 (Addr.add (Addr.add a20 (Int.toNat x15 * 8)) 2) fun v25 => asI .i64 v25 fun x26 => (ld w17 (Addr.add (Addr.add a20 (Int.toNat x15 * 8)) 3) fun v27 => asI .i64 v27 fun x28 => (ld w17 (Addr.add (Addr.add a20 (Int.toNat x15 * 8)) 4) fun v29 => asI .i64 v29 fun x30 => (ld w17 (Addr.add (Addr.add a20 (Int.toNat x15 * 8)) 5) fun v31 => asI .i64 v31 fun x32 => (ld w17 (Addr.add (Addr.add a20 (Int.toNat x15 * 8)) 6) fun v33 => asI .i64 v33 fun x34 => (ld w17 (Addr.add (Addr.add a20 (Int.toNat x15 * 8)) 7) fun v35 => asI .i64 v35 fun x36 => (cl Try.prog 16 #[(.pointer p6), (.agg #[(.int .i64 x22), (.int .i64 x24), (.int .i64 x26), (.int .i64 x28), (.int .i64 x30), (.int .i64 x32), (.int .i64 x34), (.int .i64 x36)])] w17 fun v37 w38 => asT 2 v37 fun t39 => asI .i64 (t39 0) fun x40 => asI .i64 (t39 1) fun x41 => 
(lv (IntKind.wrap .i64 (x15 + (1 : Int))) fun i_42 => (J14 [(.int .i64 i_42)] w38))))))))))))) 
(cl Try.prog 19 #[(.pointer p6)] w17 fun v43 w44 => asS v43 fun p45 n46 c47 => 
(lv (0 : Int) fun i_48 => 
(lp [(.int .i64 i_48)] w44 fun J51 s49 w50 => asI .i64 (s49.getD 0 undef) fun x52 => 
(cond (decide (x52 < (n46 : Int))) 
(dr p45 fun a53 => (bnd x52 n46 (ld w50 (Addr.add a53 (Int.toNat x52 * 8)) fun v54 => asI .i64 v54 fun x55 => (cl Try.prog 18 #[(.pointer p6), (.int .i64 x55)] w50 fun v56 w57 => asT 2 v56 fun t58 => asA 8 (t58 0) fun a59 => asI .i64 (a59 0) fun x60 => asI .i64 (a59 1) fun x61 => asI .i64 (a59 2) fun x62 => asI .i64 (a59 3) fun x63 => asI .i64 (a59 4) fun x64 => asI .i64 (a59 5) fun x65 => asI .i64 (a59 6) fun x66 => asI .i64 (a59 7) fun x67 => asI .i64 (t58 1) fun x68 => (nw w57 (.cells #[(.int .i64 (0 : Int)), (.int .i64 (0 : Int)), (.int .i64 (0 : Int)), (.int .i64 (0 : Int)), (.int .i64 (0 : Int)), (.int .i64 (0 : Int)), (.int .i64 (0 : Int)), (.int .i64 (0 : Int))] 27) fun r69 w70 => (st w70 (⟨r69, 0, none⟩ : Addr) (.int .i64 x60) fun w71 => (st w71 (Addr.add (⟨r69, 0, none⟩ : Addr) 1) (.int .i64 x61) fun w72 => (st w72 (Addr.add (⟨r69, 0, none⟩ : Addr) 2) (.int .i64 x62) fun w73 => (st w73 (Addr.add (⟨r69, 0, none⟩ : Addr) 3) (.int .i64 x63) fun w74 => (st w74 (Addr.add (⟨r69, 0, none⟩ : Addr) 4) (.int .i64 x64) fun w75 => (st w75 (Addr.add (⟨r69, 0, none⟩ : Addr) 5) (.int .i64 x65) fun w76 => (st w76 (Addr.add (⟨r69, 0, none⟩ : Addr) 6) (.int .i64 x66) fun w77 => (st w77 (Addr.add (⟨r69, 0, none⟩ : Addr) 7) (.int .i64 x67) fun w78 => (lv x68 fun f_79 => 
(jn (fun s80 w81 => asB (s80.getD 0 undef) fun b139 => (cond b139 
(Q (.bool false) w81) 
(lv (IntKind.wrap .i64 (x52 + (1 : Int))) fun i_140 => (J51 [(.int .i64 i_140)] w81))))
 (fun J82 => (dw w78 fun w83 => (cond (f_79 != (0 : Int)) (J82 [(.bool true)] w83) (ld w83 (⟨r69, 0, none⟩ : Addr) fun v84 => asI .i64 v84 fun x85 => (ld w83 (Addr.add (⟨r69, 0, none⟩ : Addr) 1) fun v86 => asI .i64 v86 fun x87 => (ld w83 (Addr.add (⟨r69, 0, none⟩ : Addr) 2) fun v88 => asI .i64 v88 fun x89 => (ld w83 (Addr.add (⟨r69, 0, none⟩ : Addr) 3) fun v90 => asI .i64 v90 fun x91 => (ld w83 (Addr.add (⟨r69, 0, none⟩ : Addr) 4) fun v92 => asI .i64 v92 fun x93 => (ld w83 (Addr.add (⟨r69, 0, none⟩ : Addr) 5) fun v94 => asI .i64 v94 fun x95 => (ld w83 (Addr.add (⟨r69, 0, none⟩ : Addr) 6) fun v96 => asI .i64 v96 fun x97 => (ld w83 (Addr.add (⟨r69, 0, none⟩ : Addr) 7) fun v98 => asI .i64 v98 fun x99 => (dr p45 fun a100 => (bnd x52 n46 (ld w83 (Addr.add a100 (Int.toNat x52 * 8)) fun v101 => asI .i64 v101 fun x102 => (ld w83 (Addr.add (Addr.add a100 (Int.toNat x52 * 8)) 1) fun v103 => asI .i64 v103 fun x104 => (ld w83 (Addr.add (Addr.add a100 (Int.toNat x52 * 8)) 2) fun v105 => asI .i64 v105 fun x106 => (ld w83 (Addr.add (Addr.add a100 (Int.toNat x52 * 8)) 3) fun v107 => asI .i64 v107 fun x108 => (ld w83 (Addr.add (Addr.add a100 (Int.toNat x52 * 8)) 4) fun v109 => asI .i64 v109 fun x110 => (ld w83 (Addr.add (Addr.add a100 (Int.toNat x52 * 8)) 5) fun v111 => asI .i64 v111 fun x112 => (ld w83 (Addr.add (Addr.add a100 (Int.toNat x52 * 8)) 6) fun v113 => asI .i64 v113 fun x114 => (ld w83 (Addr.add (Addr.add a100 (Int.toNat x52 * 8)) 7) fun v115 => asI .i64 v115 fun x116 => (eqW Try.prog 27 (.agg #[(.int .i64 x85), (.int .i64 x87), (.int .i64 x89), (.int .i64 x91), (.int .i64 x93), (.int .i64 x95), (.int .i64 x97), (.int .i64 x99)]) (.agg #[(.int .i64 x102), (.int .i64 x104), (.int .i64 x106), (.int .i64 x108), (.int .i64 x110), (.int .i64 x112), (.int .i64 x114), (.int .i64 x116)]) fun b117 => (cond (!b117) (J82 [(.bool true)] w83) (ld w83 (⟨r69, 0, none⟩ : Addr) fun v118 => asI .i64 v118 fun x119 => (ld w83 (⟨r69, 0, none⟩ : Addr) fun v120 => asI .i64 v120 fun x121 => (ld w83 (Addr.add (⟨r69, 0, none⟩ : Addr) 1) fun v122 => asI .i64 v122 fun x123 => (ld w83 (Addr.add (⟨r69, 0, none⟩ : Addr) 2) fun v124 => asI .i64 v124 fun x125 => (ld w83 (Addr.add (⟨r69, 0, none⟩ : Addr) 3) fun v126 => asI .i64 v126 fun x127 => (ld w83 (Addr.add (⟨r69, 0, none⟩ : Addr) 4) fun v128 => asI .i64 v128 fun x129 => (ld w83 (Addr.add (⟨r69, 0, none⟩ : Addr) 5) fun v130 => asI .i64 v130 fun x131 => (ld w83 (Addr.add (⟨r69, 0, none⟩ : Addr) 6) fun v132 => asI .i64 v132 fun x133 => (ld w83 (Addr.add (⟨r69, 0, none⟩ : Addr) 7) fun v134 => asI .i64 v134 fun x135 => (cl Try.prog 20 #[(.pointer p6), (.int .i64 x119), (.agg #[(.int .i64 x121), (.int .i64 x123), (.int .i64 x125), (.int .i64 x127), (.int .i64 x129), (.int .i64 x131), (.int .i64 x133), (.int .i64 x135)])] w83 fun v136 w137 => asI .i64 v136 fun x138 => (hd w137 (Addr.add a100 (Int.toNat x52 * 8)) (.int .i64 x102) (hd w137 (Addr.add (Addr.add a100 (Int.toNat x52 * 8)) 1) (.int .i64 x104) (hd w137 (Addr.add (Addr.add a100 (Int.toNat x52 * 8)) 2) (.int .i64 x106) (hd w137 (Addr.add (Addr.add a100 (Int.toNat x52 * 8)) 3) (.int .i64 x108) (hd w137 (Addr.add (Addr.add a100 (Int.toNat x52 * 8)) 4) (.int .i64 x110) (hd w137 (Addr.add (Addr.add a100 (Int.toNat x52 * 8)) 5) (.int .i64 x112) (hd w137 (Addr.add (Addr.add a100 (Int.toNat x52 * 8)) 6) (.int .i64 x114) (hd w137 (Addr.add (Addr.add a100 (Int.toNat x52 * 8)) 7) (.int .i64 x116) (hd w137 (⟨r69, 0, none⟩ : Addr) (.int .i64 x85) (hd w137 (Addr.add (⟨r69, 0, none⟩ : Addr) 1) (.int .i64 x87) (hd w137 (Addr.add (⟨r69, 0, none⟩ : Addr) 2) (.int .i64 x89) (hd w137 (Addr.add (⟨r69, 0, none⟩ : Addr) 3) (.int .i64 x91) (hd w137 (Addr.add (⟨r69, 0, none⟩ : Addr) 4) (.int .i64 x93) (hd w137 (Addr.add (⟨r69, 0, none⟩ : Addr) 5) (.int .i64 x95) (hd w137 (Addr.add (⟨r69, 0, none⟩ : Addr) 6) (.int .i64 x97) (hd w137 (Addr.add (⟨r69, 0, none⟩ : Addr) 7) (.int .i64 x99) (J82 [(.bool (x138 != (0 : Int)))] w137))))))))))))))))))))))))))))))))))))))))))))))))))))))))))))))))) 
(cl Try.prog 19 #[(.pointer p6)] w50 fun v141 w142 => asS v141 fun p143 n144 c145 => (cl Try.prog 21 #[(.slice p45 n46 c47), (.slice p143 n144 c145)] w142 fun v146 w147 => asB v146 fun b148 => 
(Q (.bool b148) w147)))))))))
 (fun J18 => (cond (decide (x15 < (l_n : Int))) (J18 [(.bool (decide (x15 < (80 : Int))))] w13) (J18 [(.bool false)] w13))))))))
 (fun J9 => (cond (!b3) (J9 [(.bool true)] w5) (J9 [(.bool (Option.isNone p6))] w5))))))
theorem F5_link (l : Option Addr) (l_n l_c : Nat) (w : World) (Q : Value → World → Prop) : fnEv Try.prog Try.f5 h5 [(.slice l l_n l_c)] w Q = F5 l l_n l_c w Q := by kernel_rfl
theorem F5_calls {l : Option Addr} {l_n l_c : Nat} {w : World} {Q : Value → World → Prop} (hF_ : F5 l l_n l_c w Q) : cl Try.prog 5 #[(.slice l l_n l_c)] w Q :=
  calls_of_ev (fn := Try.f5) Try.func5 h5 (args := [(.slice l l_n l_c)]) (by rw [F5_link]; exact hF_)

/-! tiltyard/tiltyardlaw19.awake -/
def h13 : Hint := (.s .d (.s .d (.s .d (.s .d (.s .d (.s .d (.s .d (.s .d (.s .d (.s .d (.s .d (.j [(0, 4)] .d .d))))))))))))
set_option linter.unusedVariables false in
def F13  (w : World) (Q : Value → World → Prop) : Prop :=
 
(cl Try.prog 14 #[] w fun v1 w2 => asP v1 fun p3 => 

(cond (Option.isNone p3) 
(Q (.bool false) w2) 
(nw w2 (.cells #[(.int .i64 (0 : Int)), (.int .i64 (0 : Int)), (.int .i64 (0 : Int)), (.int .i64 (0 : Int)), (.int .i64 (0 : Int)), (.int .i64 (0 : Int)), (.int .i64 (0 : Int)), (.int .i64 (0 : Int))] 27) fun r4 w5 => (st w5 (⟨r4, 0, none⟩ : Addr) (.int .i64 (0 : Int)) fun w6 => (st w6 (Addr.add (⟨r4, 0, none⟩ : Addr) 1) (.int .i64 (0 : Int)) fun w7 => (st w7 (Addr.add (⟨r4, 0, none⟩ : Addr) 2) (.int .i64 (0 : Int)) fun w8 => (st w8 (Addr.add (⟨r4, 0, none⟩ : Addr) 3) (.int .i64 (1 : Int)) fun w9 => (st w9 (Addr.add (⟨r4, 0, none⟩ : Addr) 4) (.int .i64 (0 : Int)) fun w10 => (st w10 (Addr.add (⟨r4, 0, none⟩ : Addr) 5) (.int .i64 (0 : Int)) fun w11 => (st w11 (Addr.add (⟨r4, 0, none⟩ : Addr) 6) (.int .i64 (0 : Int)) fun w12 => (st w12 (Addr.add (⟨r4, 0, none⟩ : Addr) 7) (.int .i64 (0 : Int)) fun w13 => 
(ld w13 (⟨r4, 0, none⟩ : Addr) fun v14 => asI .i64 v14 fun x15 => (ld w13 (Addr.add (⟨r4, 0, none⟩ : Addr) 1) fun v16 => asI .i64 v16 fun x17 => (ld w13 (Addr.add (⟨r4, 0, none⟩ : Addr) 2) fun v18 => asI .i64 v18 fun x19 => (ld w13 (Addr.add (⟨r4, 0, none⟩ : Addr) 3) fun v20 => asI .i64 v20 fun x21 => (ld w13 (Addr.add (⟨r4, 0, none⟩ : Addr) 4) fun v22 => asI .i64 v22 fun x23 => (ld w13 (Addr.add (⟨r4, 0, none⟩ : Addr) 5) fun v24 => asI .i64 v24 fun x25 => (ld w13 (Addr.add (⟨r4, 0, none⟩ : Addr) 6) fun v26 => asI .i64 v26 fun x27 => (ld w13 (Addr.add (⟨r4, 0, none⟩ : Addr) 7) fun v28 => asI .i64 v28 fun x29 => (cl Try.prog 16 #[(.pointer p3), (.agg #[(.int .i64 x15), (.int .i64 x17), (.int .i64 x19), (.int .i64 x21), (.int .i64 x23), (.int .i64 x25), (.int .i64 x27), (.int .i64 x29)])] w13 fun v30 w31 => asT 2 v30 fun t32 => asI .i64 (t32 0) fun x33 => asI .i64 (t32 1) fun x34 => (lv x33 fun a_35 => (lv x34 fun e_36 => 
(ld w31 (⟨r4, 0, none⟩ : Addr) fun v37 => asI .i64 v37 fun x38 => (ld w31 (Addr.add (⟨r4, 0, none⟩ : Addr) 1) fun v39 => asI .i64 v39 fun x40 => (ld w31 (Addr.add (⟨r4, 0, none⟩ : Addr) 2) fun v41 => asI .i64 v41 fun x42 => (ld w31 (Addr.add (⟨r4, 0, none⟩ : Addr) 3) fun v43 => asI .i64 v43 fun x44 => (ld w31 (Addr.add (⟨r4, 0, none⟩ : Addr) 4) fun v45 => asI .i64 v45 fun x46 => (ld w31 (Addr.add (⟨r4, 0, none⟩ : Addr) 5) fun v47 => asI .i64 v47 fun x48 => (ld w31 (Addr.add (⟨r4, 0, none⟩ : Addr) 6) fun v49 => asI .i64 v49 fun x50 => (ld w31 (Addr.add (⟨r4, 0, none⟩ : Addr) 7) fun v51 => asI .i64 v51 fun x52 => (cl Try.prog 16 #[(.pointer p3), (.agg #[(.int .i64 x38), (.int .i64 x40), (.int .i64 x42), (.int .i64 x44), (.int .i64 x46), (.int .i64 x48), (.int .i64 x50), (.int .i64 x52)])] w31 fun v53 w54 => asT 2 v53 fun t55 => asI .i64 (t55 0) fun x56 => asI .i64 (t55 1) fun x57 => (lv x56 fun b_58 => (lv x57 fun f_59 => 
(cl Try.prog 17 #[(.pointer p3), (.int .i64 (64 : Int))] w54 fun v60 w61 => asI .i64 v60 fun x62 => (lv x62 fun g_63 => 
(ld w61 (⟨r4, 0, none⟩ : Addr) fun v64 => asI .i64 v64 fun x65 => (ld w61 (Addr.add (⟨r4, 0, none⟩ : Addr) 1) fun v66 => asI .i64 v66 fun x67 => (ld w61 (Addr.add (⟨r4, 0, none⟩ : Addr) 2) fun v68 => asI .i64 v68 fun x69 => (ld w61 (Addr.add (⟨r4, 0, none⟩ : Addr) 3) fun v70 => asI .i64 v70 fun x71 => (ld w61 (Addr.add (⟨r4, 0, none⟩ : Addr) 4) fun v72 => asI .i64 v72 fun x73 => (ld w61 (Addr.add (⟨r4, 0, none⟩ : Addr) 5) fun v74 => asI .i64 v74 fun x75 => (ld w61 (Addr.add (⟨r4, 0, none⟩ : Addr) 6) fun v76 => asI .i64 v76 fun x77 => (ld w61 (Addr.add (⟨r4, 0, none⟩ : Addr) 7) fun v78 => asI .i64 v78 fun x79 => (cl Try.prog 16 #[(.pointer p3), (.agg #[(.int .i64 x65), (.int .i64 x67), (.int .i64 x69), (.int .i64 x71), (.int .i64 x73), (.int .i64 x75), (.int .i64 x77), (.int .i64 x79)])] w61 fun v80 w81 => asT 2 v80 fun t82 => asI .i64 (t82 0) fun x83 => asI .i64 (t82 1) fun x84 => (lv x83 fun c_85 => (lv x84 fun h_86 => 
(cl Try.prog 18 #[(.pointer p3), (.int .i64 (64 : Int))] w81 fun v87 w88 => asT 2 v87 fun t89 => asA 8 (t89 0) fun a90 => asI .i64 (a90 0) fun x91 => asI .i64 (a90 1) fun x92 => asI .i64 (a90 2) fun x93 => asI .i64 (a90 3) fun x94 => asI .i64 (a90 4) fun x95 => asI .i64 (a90 5) fun x96 => asI .i64 (a90 6) fun x97 => asI .i64 (a90 7) fun x98 => asI .i64 (t89 1) fun x99 => (nw w88 (.cells #[(.int .i64 (0 : Int)), (.int .i64 (0 : Int)), (.int .i64 (0 : Int)), (.int .i64 (0 : Int)), (.int .i64 (0 : Int)), (.int .i64 (0 : Int)), (.int .i64 (0 : Int)), (.int .i64 (0 : Int))] 27) fun r100 w101 => (st w101 (⟨r100, 0, none⟩ : Addr) (.int .i64 x91) fun w102 => (st w102 (Addr.add (⟨r100, 0, none⟩ : Addr) 1) (.int .i64 x92) fun w103 => (st w103 (Addr.add (⟨r100, 0, none⟩ : Addr) 2) (.int .i64 x93) fun w104 => (st w104 (Addr.add (⟨r100, 0, none⟩ : Addr) 3) (.int .i64 x94) fun w105 => (st w105 (Addr.add (⟨r100, 0, none⟩ : Addr) 4) (.int .i64 x95) fun w106 => (st w106 (Addr.add (⟨r100, 0, none⟩ : Addr) 5) (.int .i64 x96) fun w107 => (st w107 (Addr.add (⟨r100, 0, none⟩ : Addr) 6) (.int .i64 x97) fun w108 => (st w108 (Addr.add (⟨r100, 0, none⟩ : Addr) 7) (.int .i64 x98) fun w109 => (lv x99 fun i_110 => 
(cl Try.prog 16 #[(.pointer p3), (.agg #[(.int .i64 (0 : Int)), (.int .i64 (0 : Int)), (.int .i64 (0 : Int)), (.int .i64 (0 : Int)), (.int .i64 (0 : Int)), (.int .i64 (0 : Int)), (.int .i64 (0 : Int)), (.int .i64 (0 : Int))])] w109 fun v111 w112 => asT 2 v111 fun t113 => asI .i64 (t113 0) fun x114 => asI .i64 (t113 1) fun x115 => (lv x114 fun __116 => (lv x115 fun k_117 => 
(cl Try.prog 16 #[(.pointer p3), (.agg #[(.int .i64 (0 : Int)), (.int .i64 (0 : Int)), (.int .i64 (0 : Int)), (.int .i64 (1 : Int)), (.int .i64 (0 : Int)), (.int .i64 (0 : Int)), (.int .i64 (9 : Int)), (.int .i64 (0 : Int))])] w112 fun v118 w119 => asT 2 v118 fun t120 => asI .i64 (t120 0) fun x121 => asI .i64 (t120 1) fun x122 => (lv x121 fun __123 => (lv x122 fun l_124 => 
(jn (fun s125 w126 => asB (s125.getD 0 undef) fun b147 => (Q (.bool b147) w126))
 (fun J127 => (cond (a_35 == (64 : Int)) (cond (e_36 == (0 : Int)) (cond (b_58 == (65 : Int)) (cond (f_59 == (0 : Int)) (cond (g_63 == (0 : Int)) (cond (c_85 == (128 : Int)) (cond (h_86 == (0 : Int)) (cond (i_110 == (190 : Int)) (cond (k_117 == (60 : Int)) (cond (l_124 == (1 : Int)) (ld w119 (⟨r4, 0, none⟩ : Addr) fun v128 => asI .i64 v128 fun x129 => (ld w119 (Addr.add (⟨r4, 0, none⟩ : Addr) 1) fun v130 => asI .i64 v130 fun x131 => (ld w119 (Addr.add (⟨r4, 0, none⟩ : Addr) 2) fun v132 => asI .i64 v132 fun x133 => (ld w119 (Addr.add (⟨r4, 0, none⟩ : Addr) 3) fun v134 => asI .i64 v134 fun x135 => (ld w119 (Addr.add (⟨r4, 0, none⟩ : Addr) 4) fun v136 => asI .i64 v136 fun x137 => (ld w119 (Addr.add (⟨r4, 0, none⟩ : Addr) 5) fun v138 => asI .i64 v138 fun x139 => (ld w119 (Addr.add (⟨r4, 0, none⟩ : Addr) 6) fun v140 => asI .i64 v140 fun x141 => (ld w119 (Addr.add (⟨r4, 0, none⟩ : Addr) 7) fun v142 => asI .i64 v142 fun x143 => (cl Try.prog 15 #[(.agg #[(.int .i64 x129), (.int .i64 x131), (.int .i64 x133), (.int .i64 x135), (.int .i64 x137), (.int .i64 x139), (.int .i64 x141), (.int .i64 x143)])] w119 fun v144 w145 => asI .i64 v144 fun x146 => (J127 [(.bool (x146 == (0 : Int)))] w145)))))))))) (J127 [(.bool false)] w119)) (J127 [(.bool false)] w119)) (J127 [(.bool false)] w119)) (J127 [(.bool false)] w119)) (J127 [(.bool false)] w119)) (J127 [(.bool false)] w119)) (J127 [(.bool false)] w119)) (J127 [(.bool false)] w119)) (J127 [(.bool false)] w119)) (J127 [(.bool false)] w119)))))))))))))))))))))))))))))))))))))))))))))))))))))))))))))))))))
theorem F13_link  (w : World) (Q : Value → World → Prop) : fnEv Try.prog Try.f13 h13 [] w Q = F13  w Q := by kernel_rfl
theorem F13_calls  {w : World} {Q : Value → World → Prop} (hF_ : F13  w Q) : cl Try.prog 13 #[] w Q :=
  calls_of_ev (fn := Try.f13) Try.func13 h13 (args := []) (by rw [F13_link]; exact hF_)

/-! tiltyard/world.New -/
def h14 : Hint := .d
set_option linter.unusedVariables false in
def F14  (w : World) (Q : Value → World → Prop) : Prop :=
 
(cl Try.prog 29 #[(.int .i64 (34359738368 : Int))] w fun v1 w2 => asT 2 v1 fun t3 => asP (t3 0) fun p4 => asI .i64 (t3 1) fun x5 => (lv x5 fun __6 => 
(nw w2 (.cells #[(.pointer p4), (.int .i64 (0 : Int)), (.bool false), (.int .i64 (0 : Int)), (.int .i64 (0 : Int)), (.int .i64 (0 : Int)), (.int .i64 (0 : Int)), (.int .i64 (0 : Int)), (.int .i64 (0 : Int)), (.int .i64 (0 : Int)), (.int .i64 (0 : Int)), (.int .i64 (0 : Int)), (.bool false), (.int .i64 (0 : Int)), (.int .i64 (0 : Int)), (.int .i64 (0 : Int)), (.int .i64 (0 : Int)), (.int .i64 (0 : Int)), (.int .i64 (0 : Int)), (.int .i64 (0 : Int)), (.int .i64 (0 : Int)), (.int .i64 (0 : Int)), (.bool false), (.int .i64 (0 : Int)), (.int .i64 (0 : Int)), (.int .i64 (0 : Int)), (.int .i64 (0 : Int)), (.int .i64 (0 : Int)), (.int .i64 (0 : Int)), (.int .i64 (0 : Int)), (.int .i64 (0 : Int)), (.int .i64 (0 : Int)), (.bool false), (.int .i64 (0 : Int)), (.int .i64 (0 : Int)), (.int .i64 (0 : Int)), (.int .i64 (0 : Int)), (.int .i64 (0 : Int)), (.int .i64 (0 : Int)), (.int .i64 (0 : Int)), (.int .i64 (0 : Int)), (.int .i64 (0 : Int)), (.bool false), (.int .i64 (0 : Int)), (.int .i64 (0 : Int)), (.int .i64 (0 : Int)), (.int .i64 (0 : Int)), (.int .i64 (0 : Int)), (.int .i64 (0 : Int)), (.int .i64 (0 : Int)), (.int .i64 (0 : Int)), (.int .i64 (0 : Int)), (.bool false), (.int .i64 (0 : Int)), (.int .i64 (0 : Int)), (.int .i64 (0 : Int)), (.int .i64 (0 : Int)), (.int .i64 (0 : Int)), (.int .i64 (0 : Int)), (.int .i64 (0 : Int)), (.int .i64 (0 : Int)), (.int .i64 (0 : Int)), (.bool false), (.int .i64 (0 : Int)), (.int .i64 (0 : Int)), (.int .i64 (0 : Int)), (.int .i64 (0 : Int)), (.int .i64 (0 : Int)), (.int .i64 (0 : Int)), (.int .i64 (0 : Int)), (.int .i64 (0 : Int)), (.int .i64 (0 : Int)), (.bool false), (.int .i64 (0 : Int)), (.int .i64 (0 : Int)), (.int .i64 (0 : Int)), (.int .i64 (0 : Int)), (.int .i64 (0 : Int)), (.int .i64 (0 : Int)), (.int .i64 (0 : Int)), (.int .i64 (0 : Int)), (.int .i64 (0 : Int)), (.bool false), (.int .i64 (0 : Int)), (.int .i64 (0 : Int)), (.int .i64 (0 : Int)), (.int .i64 (0 : Int)), (.int .i64 (0 : Int)), (.int .i64 (0 : Int)), (.int .i64 (0 : Int)), (.int .i64 (0 : Int)), (.int .i64 (0 : Int)), (.bool false), (.int .i64 (0 : Int)), (.int .i64 (0 : Int)), (.int .i64 (0 : Int)), (.int .i64 (0 : Int)), (.int .i64 (0 : Int)), (.int .i64 (0 : Int)), (.int .i64 (0 : Int)), (.int .i64 (0 : Int)), (.int .i64 (0 : Int)), (.bool false), (.int .i64 (0 : Int)), (.int .i64 (0 : Int)), (.int .i64 (0 : Int)), (.int .i64 (0 : Int)), (.int .i64 (0 : Int)), (.int .i64 (0 : Int)), (.int .i64 (0 : Int)), (.int .i64 (0 : Int)), (.int .i64 (0 : Int)), (.bool false), (.int .i64 (0 : Int)), (.int .i64 (0 : Int)), (.int .i64 (0 : Int)), (.int .i64 (0 : Int)), (.int .i64 (0 : Int)), (.int .i64 (0 : Int)), (.int .i64 (0 : Int)), (.int .i64 (0 : Int)), (.int .i64 (0 : Int)), (.bool false), (.int .i64 (0 : Int)), (.int .i64 (0 : Int)), (.int .i64 (0 : Int)), (.int .i64 (0 : Int)), (.int .i64 (0 : Int)), (.int .i64 (0 : Int)), (.int .i64 (0 : Int)), (.int .i64 (0 : Int)), (.int .i64 (0 : Int)), (.bool false), (.int .i64 (0 : Int)), (.int .i64 (0 : Int)), (.int .i64 (0 : Int)), (.int .i64 (0 : Int)), (.int .i64 (0 : Int)), (.int .i64 (0 : Int)), (.int .i64 (0 : Int)), (.int .i64 (0 : Int)), (.int .i64 (0 : Int)), (.bool false), (.int .i64 (0 : Int)), (.int .i64 (0 : Int)), (.int .i64 (0 : Int)), (.int .i64 (0 : Int)), (.int .i64 (0 : Int)), (.int .i64 (0 : Int)), (.int .i64 (0 : Int)), (.int .i64 (0 : Int)), (.int .i64 (0 : Int)), (.bool false), (.int .i64 (0 : Int)), (.int .i64 (0 : Int)), (.int .i64 (0 : Int)), (.int .i64 (0 : Int)), (.int .i64 (0 : Int)), (.int .i64 (0 : Int)), (.int .i64 (0 : Int)), (.int .i64 (0 : Int)), (.int .i64 (0 : Int)), (.bool false), (.int .i64 (0 : Int)), (.int .i64 (0 : Int)), (.int .i64 (0 : Int)), (.int .i64 (0 : Int)), (.int .i64 (0 : Int)), (.int .i64 (0 : Int)), (.int .i64 (0 : Int)), (.int .i64 (0 : Int)), (.int .i64 (0 : Int)), (.bool false), (.int .i64 (0 : Int)), (.int .i64 (0 : Int)), (.int .i64 (0 : Int)), (.int .i64 (0 : Int)), (.int .i64 (0 : Int)), (.int .i64 (0 : Int)), (.int .i64 (0 : Int)), (.int .i64 (0 : Int)), (.int .i64 (0 : Int)), (.bool false), (.int .i64 (0 : Int)), (.int .i64 (0 : Int)), (.int .i64 (0 : Int)), (.int .i64 (0 : Int)), (.int .i64 (0 : Int)), (.int .i64 (0 : Int)), (.int .i64 (0 : Int)), (.int .i64 (0 : Int)), (.int .i64 (0 : Int)), (.bool false), (.int .i64 (0 : Int)), (.int .i64 (0 : Int)), (.int .i64 (0 : Int)), (.int .i64 (0 : Int)), (.int .i64 (0 : Int)), (.int .i64 (0 : Int)), (.int .i64 (0 : Int)), (.int .i64 (0 : Int)), (.int .i64 (0 : Int)), (.bool false), (.int .i64 (0 : Int)), (.int .i64 (0 : Int)), (.int .i64 (0 : Int)), (.int .i64 (0 : Int)), (.int .i64 (0 : Int)), (.int .i64 (0 : Int)), (.int .i64 (0 : Int)), (.int .i64 (0 : Int)), (.int .i64 (0 : Int)), (.bool false), (.int .i64 (0 : Int)), (.int .i64 (0 : Int)), (.int .i64 (0 : Int)), (.int .i64 (0 : Int)), (.int .i64 (0 : Int)), (.int .i64 (0 : Int)), (.int .i64 (0 : Int)), (.int .i64 (0 : Int)), (.int .i64 (0 : Int)), (.bool false), (.int .i64 (0 : Int)), (.int .i64 (0 : Int)), (.int .i64 (0 : Int)), (.int .i64 (0 : Int)), (.int .i64 (0 : Int)), (.int .i64 (0 : Int)), (.int .i64 (0 : Int)), (.int .i64 (0 : Int)), (.int .i64 (0 : Int)), (.bool false), (.int .i64 (0 : Int)), (.int .i64 (0 : Int)), (.int .i64 (0 : Int)), (.int .i64 (0 : Int)), (.int .i64 (0 : Int)), (.int .i64 (0 : Int)), (.int .i64 (0 : Int)), (.int .i64 (0 : Int)), (.int .i64 (0 : Int)), (.bool false), (.int .i64 (0 : Int)), (.int .i64 (0 : Int)), (.int .i64 (0 : Int)), (.int .i64 (0 : Int)), (.int .i64 (0 : Int)), (.int .i64 (0 : Int)), (.int .i64 (0 : Int)), (.int .i64 (0 : Int)), (.int .i64 (0 : Int)), (.bool false), (.int .i64 (0 : Int)), (.int .i64 (0 : Int)), (.int .i64 (0 : Int)), (.int .i64 (0 : Int)), (.int .i64 (0 : Int)), (.int .i64 (0 : Int)), (.int .i64 (0 : Int)), (.int .i64 (0 : Int)), (.int .i64 (0 : Int)), (.bool false), (.int .i64 (0 : Int)), (.int .i64 (0 : Int)), (.int .i64 (0 : Int)), (.int .i64 (0 : Int)), (.int .i64 (0 : Int)), (.int .i64 (0 : Int)), (.int .i64 (0 : Int)), (.int .i64 (0 : Int)), (.int .i64 (0 : Int)), (.bool false), (.int .i64 (0 : Int)), (.int .i64 (0 : Int)), (.int .i64 (0 : Int)), (.int .i64 (0 : Int)), (.int .i64 (0 : Int)), (.int .i64 (0 : Int)), (.int .i64 (0 : Int)), (.int .i64 (0 : Int)), (.int .i64 (0 : Int)), (.bool false), (.int .i64 (0 : Int)), (.int .i64 (0 : Int)), (.int .i64 (0 : Int)), (.int .i64 (0 : Int)), (.int .i64 (0 : Int)), (.int .i64 (0 : Int)), (.int .i64 (0 : Int)), (.int .i64 (0 : Int)), (.int .i64 (0 : Int)), (.bool false), (.int .i64 (0 : Int)), (.int .i64 (0 : Int)), (.int .i64 (0 : Int)), (.int .i64 (0 : Int)), (.int .i64 (0 : Int)), (.int .i64 (0 : Int)), (.int .i64 (0 : Int)), (.int .i64 (0 : Int)), (.int .i64 (0 : Int)), (.bool false), (.int .i64 (0 : Int)), (.int .i64 (0 : Int)), (.int .i64 (0 : Int)), (.int .i64 (0 : Int)), (.int .i64 (0 : Int)), (.int .i64 (0 : Int)), (.int .i64 (0 : Int)), (.int .i64 (0 : Int)), (.int .i64 (0 : Int)), (.bool false), (.int .i64 (0 : Int)), (.int .i64 (0 : Int)), (.int .i64 (0 : Int)), (.int .i64 (0 : Int)), (.int .i64 (0 : Int)), (.int .i64 (0 : Int)), (.int .i64 (0 : Int)), (.int .i64 (0 : Int)), (.int .i64 (0 : Int)), (.bool false), (.int .i64 (0 : Int)), (.int .i64 (0 : Int)), (.int .i64 (0 : Int)), (.int .i64 (0 : Int)), (.int .i64 (0 : Int)), (.int .i64 (0 : Int)), (.int .i64 (0 : Int)), (.int .i64 (0 : Int)), (.int .i64 (0 : Int)), (.bool false), (.int .i64 (0 : Int)), (.int .i64 (0 : Int)), (.int .i64 (0 : Int)), (.int .i64 (0 : Int)), (.int .i64 (0 : Int)), (.int .i64 (0 : Int)), (.int .i64 (0 : Int)), (.int .i64 (0 : Int)), (.int .i64 (0 : Int)), (.bool false), (.int .i64 (0 : Int)), (.int .i64 (0 : Int)), (.int .i64 (0 : Int)), (.int .i64 (0 : Int)), (.int .i64 (0 : Int)), (.int .i64 (0 : Int)), (.int .i64 (0 : Int)), (.int .i64 (0 : Int)), (.int .i64 (0 : Int)), (.bool false), (.int .i64 (0 : Int)), (.int .i64 (0 : Int)), (.int .i64 (0 : Int)), (.int .i64 (0 : Int)), (.int .i64 (0 : Int)), (.int .i64 (0 : Int)), (.int .i64 (0 : Int)), (.int .i64 (0 : Int)), (.int .i64 (0 : Int)), (.bool false), (.int .i64 (0 : Int)), (.int .i64 (0 : Int)), (.int .i64 (0 : Int)), (.int .i64 (0 : Int)), (.int .i64 (0 : Int)), (.int .i64 (0 : Int)), (.int .i64 (0 : Int)), (.int .i64 (0 : Int)), (.int .i64 (0 : Int)), (.bool false), (.int .i64 (0 : Int)), (.int .i64 (0 : Int)), (.int .i64 (0 : Int)), (.int .i64 (0 : Int)), (.int .i64 (0 : Int)), (.int .i64 (0 : Int)), (.int .i64 (0 : Int)), (.int .i64 (0 : Int)), (.int .i64 (0 : Int)), (.bool false), (.int .i64 (0 : Int)), (.int .i64 (0 : Int)), (.int .i64 (0 : Int)), (.int .i64 (0 : Int)), (.int .i64 (0 : Int)), (.int .i64 (0 : Int)), (.int .i64 (0 : Int)), (.int .i64 (0 : Int)), (.int .i64 (0 : Int)), (.bool false), (.int .i64 (0 : Int)), (.int .i64 (0 : Int)), (.int .i64 (0 : Int)), (.int .i64 (0 : Int)), (.int .i64 (0 : Int)), (.int .i64 (0 : Int)), (.int .i64 (0 : Int)), (.int .i64 (0 : Int)), (.int .i64 (0 : Int)), (.bool false), (.int .i64 (0 : Int)), (.int .i64 (0 : Int)), (.int .i64 (0 : Int)), (.int .i64 (0 : Int)), (.int .i64 (0 : Int)), (.int .i64 (0 : Int)), (.int .i64 (0 : Int)), (.int .i64 (0 : Int)), (.int .i64 (0 : Int)), (.bool false), (.int .i64 (0 : Int)), (.int .i64 (0 : Int)), (.int .i64 (0 : Int)), (.int .i64 (0 : Int)), (.int .i64 (0 : Int)), (.int .i64 (0 : Int)), (.int .i64 (0 : Int)), (.int .i64 (0 : Int)), (.int .i64 (0 : Int)), (.bool false), (.int .i64 (0 : Int)), (.int .i64 (0 : Int)), (.int .i64 (0 : Int)), (.int .i64 (0 : Int)), (.int .i64 (0 : Int)), (.int .i64 (0 : Int)), (.int .i64 (0 : Int)), (.int .i64 (0 : Int)), (.int .i64 (0 : Int)), (.bool false), (.int .i64 (0 : Int)), (.int .i64 (0 : Int)), (.int .i64 (0 : Int)), (.int .i64 (0 : Int)), (.int .i64 (0 : Int)), (.int .i64 (0 : Int)), (.int .i64 (0 : Int)), (.int .i64 (0 : Int)), (.int .i64 (0 : Int)), (.bool false), (.int .i64 (0 : Int)), (.int .i64 (0 : Int)), (.int .i64 (0 : Int)), (.int .i64 (0 : Int)), (.int .i64 (0 : Int)), (.int .i64 (0 : Int)), (.int .i64 (0 : Int)), (.int .i64 (0 : Int)), (.int .i64 (0 : Int)), (.bool false), (.int .i64 (0 : Int)), (.int .i64 (0 : Int)), (.int .i64 (0 : Int)), (.int .i64 (0 : Int)), (.int .i64 (0 : Int)), (.int .i64 (0 : Int)), (.int .i64 (0 : Int)), (.int .i64 (0 : Int)), (.int .i64 (0 : Int)), (.bool false), (.int .i64 (0 : Int)), (.int .i64 (0 : Int)), (.int .i64 (0 : Int)), (.int .i64 (0 : Int)), (.int .i64 (0 : Int)), (.int .i64 (0 : Int)), (.int .i64 (0 : Int)), (.int .i64 (0 : Int)), (.int .i64 (0 : Int)), (.bool false), (.int .i64 (0 : Int)), (.int .i64 (0 : Int)), (.int .i64 (0 : Int)), (.int .i64 (0 : Int)), (.int .i64 (0 : Int)), (.int .i64 (0 : Int)), (.int .i64 (0 : Int)), (.int .i64 (0 : Int)), (.int .i64 (0 : Int)), (.bool false), (.int .i64 (0 : Int)), (.int .i64 (0 : Int)), (.int .i64 (0 : Int)), (.int .i64 (0 : Int)), (.int .i64 (0 : Int)), (.int .i64 (0 : Int)), (.int .i64 (0 : Int)), (.int .i64 (0 : Int)), (.int .i64 (0 : Int)), (.bool false), (.int .i64 (0 : Int)), (.int .i64 (0 : Int)), (.int .i64 (0 : Int)), (.int .i64 (0 : Int)), (.int .i64 (0 : Int)), (.int .i64 (0 : Int)), (.int .i64 (0 : Int)), (.int .i64 (0 : Int)), (.int .i64 (0 : Int)), (.bool false), (.int .i64 (0 : Int)), (.int .i64 (0 : Int)), (.int .i64 (0 : Int)), (.int .i64 (0 : Int)), (.int .i64 (0 : Int)), (.int .i64 (0 : Int)), (.int .i64 (0 : Int)), (.int .i64 (0 : Int)), (.int .i64 (0 : Int)), (.bool false), (.int .i64 (0 : Int)), (.int .i64 (0 : Int)), (.int .i64 (0 : Int)), (.int .i64 (0 : Int)), (.int .i64 (0 : Int)), (.int .i64 (0 : Int)), (.int .i64 (0 : Int)), (.int .i64 (0 : Int)), (.int .i64 (0 : Int)), (.bool false), (.int .i64 (0 : Int)), (.int .i64 (0 : Int)), (.int .i64 (0 : Int)), (.int .i64 (0 : Int)), (.int .i64 (0 : Int)), (.int .i64 (0 : Int)), (.int .i64 (0 : Int)), (.int .i64 (0 : Int)), (.int .i64 (0 : Int)), (.bool false), (.int .i64 (0 : Int)), (.int .i64 (0 : Int)), (.int .i64 (0 : Int)), (.int .i64 (0 : Int)), (.int .i64 (0 : Int)), (.int .i64 (0 : Int)), (.int .i64 (0 : Int)), (.int .i64 (0 : Int)), (.int .i64 (0 : Int)), (.bool false), (.int .i64 (0 : Int)), (.int .i64 (0 : Int)), (.int .i64 (0 : Int)), (.int .i64 (0 : Int)), (.int .i64 (0 : Int)), (.int .i64 (0 : Int)), (.int .i64 (0 : Int)), (.int .i64 (0 : Int)), (.int .i64 (0 : Int)), (.bool false), (.int .i64 (0 : Int)), (.int .i64 (0 : Int)), (.int .i64 (0 : Int)), (.int .i64 (0 : Int)), (.int .i64 (0 : Int)), (.int .i64 (0 : Int)), (.int .i64 (0 : Int)), (.int .i64 (0 : Int)), (.int .i64 (0 : Int)), (.bool false), (.int .i64 (0 : Int)), (.int .i64 (0 : Int)), (.int .i64 (0 : Int)), (.int .i64 (0 : Int)), (.int .i64 (0 : Int)), (.int .i64 (0 : Int)), (.int .i64 (0 : Int)), (.int .i64 (0 : Int)), (.int .i64 (0 : Int)), (.bool false), (.int .i64 (0 : Int)), (.int .i64 (0 : Int)), (.int .i64 (0 : Int)), (.int .i64 (0 : Int)), (.int .i64 (0 : Int)), (.int .i64 (0 : Int)), (.int .i64 (0 : Int)), (.int .i64 (0 : Int)), (.int .i64 (0 : Int)), (.bool false), (.int .i64 (0 : Int)), (.int .i64 (0 : Int)), (.int .i64 (0 : Int)), (.int .i64 (0 : Int)), (.int .i64 (0 : Int)), (.int .i64 (0 : Int)), (.int .i64 (0 : Int)), (.int .i64 (0 : Int)), (.int .i64 (0 : Int)), (.bool false), (.int .i64 (0 : Int)), (.int .i64 (0 : Int)), (.int .i64 (0 : Int)), (.int .i64 (0 : Int)), (.int .i64 (0 : Int)), (.int .i64 (0 : Int)), (.int .i64 (0 : Int)), (.int .i64 (0 : Int)), (.int .i64 (0 : Int)), (.bool false), (.int .i64 (0 : Int)), (.int .i64 (0 : Int)), (.int .i64 (0 : Int)), (.int .i64 (0 : Int)), (.int .i64 (0 : Int)), (.int .i64 (0 : Int)), (.int .i64 (0 : Int)), (.int .i64 (0 : Int)), (.int .i64 (0 : Int)), (.bool false), (.int .i64 (0 : Int)), (.int .i64 (0 : Int)), (.int .i64 (0 : Int)), (.int .i64 (0 : Int)), (.int .i64 (0 : Int)), (.int .i64 (0 : Int)), (.int .i64 (0 : Int)), (.int .i64 (0 : Int)), (.int .i64 (0 : Int)), (.bool false), (.int .i64 (0 : Int)), (.int .i64 (0 : Int)), (.int .i64 (0 : Int)), (.int .i64 (0 : Int)), (.int .i64 (0 : Int)), (.int .i64 (0 : Int)), (.int .i64 (0 : Int)), (.int .i64 (0 : Int)), (.int .i64 (0 : Int)), (.bool false), (.int .i64 (0 : Int)), (.int .i64 (0 : Int)), (.int .i64 (0 : Int)), (.int .i64 (0 : Int)), (.int .i64 (0 : Int)), (.int .i64 (0 : Int)), (.int .i64 (0 : Int)), (.int .i64 (0 : Int))] 103) fun r7 w8 => 
(Q (.pointer (some (⟨r7, 0, none⟩ : Addr))) w8))))
theorem F14_link  (w : World) (Q : Value → World → Prop) : fnEv Try.prog Try.f14 h14 [] w Q = F14  w Q := by kernel_rfl
theorem F14_calls  {w : World} {Q : Value → World → Prop} (hF_ : F14  w Q) : cl Try.prog 14 #[] w Q :=
  calls_of_ev (fn := Try.f14) Try.func14 h14 (args := []) (by rw [F14_link]; exact hF_)

/-! tiltyard/world.Right -/
def h15 : Hint := (.s .d (.s (.j [(3, 15), (4, 15)] (.o (ofL [0, 1, 2, 3, 4] (.alt (ofL [5, 6, 7, 8] .nil) (ofL [6, 5, 7, 8] .nil)))) (.j [(10, 4)] .d (.s .d (.j [(27, 4)] .d .d)))) .d))
set_option linter.unusedVariables false in
def F15 (e_0 : Int) (e_1 : Int) (e_2 : Int) (e_3 : Int) (e_4 : Int) (e_5 : Int) (e_6 : Int) (e_7 : Int) (w : World) (Q : Value → World → Prop) : Prop :=
 (nw w (.cells #[(.int .i64 e_0), (.int .i64 e_1), (.int .i64 e_2), (.int .i64 e_3), (.int .i64 e_4), (.int .i64 e_5), (.int .i64 e_6), (.int .i64 e_7)] 27) fun r1 w2 => (lv (0 : Int) fun y3 => 
(jn (fun s4 w5 => asP (s4.getD 0 undef) fun p32 => asP (s4.getD 1 undef) fun p33 => (jn (fun s34 w35 => asB (s34.getD 0 undef) fun b53 => (cond b53 (lv (60 : Int) fun y54 => 
(Q (.int .i64 y54) w35)) (jn (fun s55 w56 => asB (s55.getD 0 undef) fun b74 => (cond b74 (lv (1 : Int) fun y75 => 
(Q (.int .i64 y75) w56)) 
(lv (0 : Int) fun y76 => 
(Q (.int .i64 y76) w56))))
 (fun J57 => (dr p33 fun a58 => (ld w35 a58 fun v59 => asI .i64 v59 fun x60 => (cl Try.prog 42 #[(.int .i64 x60), (.int .i64 (17179869184 : Int))] w35 fun v61 w62 => asB v61 fun b63 => 
(cond (!b63) (J57 [(.bool (!b63))] w62) (dr p33 fun a64 => (ld w62 (Addr.add a64 1) fun v65 => asI .i64 v65 fun x66 => (cl Try.prog 42 #[(.int .i64 x66), (.int .i64 (17179869184 : Int))] w62 fun v67 w68 => asB v67 fun b69 => 
(cond (!b69) (J57 [(.bool (!b69))] w68) (ld w68 (Addr.add (⟨r1, 0, none⟩ : Addr) 6) fun v70 => asI .i64 v70 fun x71 => 
(cond (decide (x71 < (0 : Int))) (J57 [(.bool (decide (x71 < (0 : Int))))] w68) (ld w68 (Addr.add (⟨r1, 0, none⟩ : Addr) 6) fun v72 => asI .i64 v72 fun x73 => (J57 [(.bool (decide (x73 > (8 : Int))))] w68))))))))))))))))
 (fun J36 => (dr p32 fun a37 => (ld w5 a37 fun v38 => asI .i64 v38 fun x39 => (cl Try.prog 42 #[(.int .i64 x39), (.int .i64 (4398046511104 : Int))] w5 fun v40 w41 => asB v40 fun b42 => 
(cond (!b42) (J36 [(.bool (!b42))] w41) (dr p32 fun a43 => (ld w41 (Addr.add a43 1) fun v44 => asI .i64 v44 fun x45 => (cl Try.prog 42 #[(.int .i64 x45), (.int .i64 (4398046511104 : Int))] w41 fun v46 w47 => asB v46 fun b48 => 
(cond (!b48) (J36 [(.bool (!b48))] w47) (ld w47 (Addr.add (Addr.add (⟨r1, 0, none⟩ : Addr) 1) 2) fun v49 => asI .i64 v49 fun x50 => 
(cond (decide (x50 < (1 : Int))) (J36 [(.bool (decide (x50 < (1 : Int))))] w47) (ld w47 (Addr.add (Addr.add (⟨r1, 0, none⟩ : Addr) 1) 2) fun v51 => asI .i64 v51 fun x52 => (J36 [(.bool (decide (x52 > (17179869184 : Int))))] w47)))))))))))))))
 (fun J6 => (dw w2 fun w7 => (ld w7 (Addr.add (⟨r1, 0, none⟩ : Addr) 1) fun v8 => asI .i64 v8 fun x9 => (ld w7 (Addr.add (Addr.add (⟨r1, 0, none⟩ : Addr) 1) 1) fun v10 => asI .i64 v10 fun x11 => (ld w7 (Addr.add (⟨r1, 0, none⟩ : Addr) 4) fun v12 => asI .i64 v12 fun x13 => (ld w7 (Addr.add (Addr.add (⟨r1, 0, none⟩ : Addr) 4) 1) fun v14 => asI .i64 v14 fun x15 => 
((nw w7 (.cells #[(.int .i64 (0 : Int)), (.int .i64 (0 : Int))] 23) fun r16 w17 => (hd w17 (Addr.add (⟨r1, 0, none⟩ : Addr) 4) (.int .i64 x13) (hd w17 (Addr.add (Addr.add (⟨r1, 0, none⟩ : Addr) 4) 1) (.int .i64 x15) (hd w17 (Addr.add (⟨r1, 0, none⟩ : Addr) 1) (.int .i64 x9) (hd w17 (Addr.add (Addr.add (⟨r1, 0, none⟩ : Addr) 1) 1) (.int .i64 x11) (nw w17 (.cells #[(.int .i64 (0 : Int)), (.int .i64 (0 : Int))] 23) fun r18 w19 => (hd w19 (Addr.add (⟨r1, 0, none⟩ : Addr) 4) (.int .i64 x13) (hd w19 (Addr.add (Addr.add (⟨r1, 0, none⟩ : Addr) 4) 1) (.int .i64 x15) (hd w19 (Addr.add (⟨r1, 0, none⟩ : Addr) 1) (.int .i64 x9) (hd w19 (Addr.add (Addr.add (⟨r1, 0, none⟩ : Addr) 1) 1) (.int .i64 x11) (st w19 (⟨r16, 0, none⟩ : Addr) (.int .i64 x9) fun w20 => (st w20 (Addr.add (⟨r16, 0, none⟩ : Addr) 1) (.int .i64 x11) fun w21 => (hd w21 (Addr.add (⟨r1, 0, none⟩ : Addr) 4) (.int .i64 x13) (hd w21 (Addr.add (Addr.add (⟨r1, 0, none⟩ : Addr) 4) 1) (.int .i64 x15) (st w21 (⟨r18, 0, none⟩ : Addr) (.int .i64 x13) fun w22 => (st w22 (Addr.add (⟨r18, 0, none⟩ : Addr) 1) (.int .i64 x15) fun w23 => (J6 [(.pointer (some (⟨r16, 0, none⟩ : Addr))), (.pointer (some (⟨r18, 0, none⟩ : Addr)))] w23))))))))))))))))) ∧ (nw w7 (.cells #[(.int .i64 (0 : Int)), (.int .i64 (0 : Int))] 23) fun r24 w25 => (hd w25 (Addr.add (⟨r1, 0, none⟩ : Addr) 4) (.int .i64 x13) (hd w25 (Addr.add (Addr.add (⟨r1, 0, none⟩ : Addr) 4) 1) (.int .i64 x15) (hd w25 (Addr.add (⟨r1, 0, none⟩ : Addr) 1) (.int .i64 x9) (hd w25 (Addr.add (Addr.add (⟨r1, 0, none⟩ : Addr) 1) 1) (.int .i64 x11) (nw w25 (.cells #[(.int .i64 (0 : Int)), (.int .i64 (0 : Int))] 23) fun r26 w27 => (hd w27 (Addr.add (⟨r1, 0, none⟩ : Addr) 4) (.int .i64 x13) (hd w27 (Addr.add (Addr.add (⟨r1, 0, none⟩ : Addr) 4) 1) (.int .i64 x15) (hd w27 (Addr.add (⟨r1, 0, none⟩ : Addr) 1) (.int .i64 x9) (hd w27 (Addr.add (Addr.add (⟨r1, 0, none⟩ : Addr) 1) 1) (.int .i64 x11) (st w27 (⟨r26, 0, none⟩ : Addr) (.int .i64 x9) fun w28 => (st w28 (Addr.add (⟨r26, 0, none⟩ : Addr) 1) (.int .i64 x11) fun w29 => (hd w29 (Addr.add (⟨r1, 0, none⟩ : Addr) 4) (.int .i64 x13) (hd w29 (Addr.add (Addr.add (⟨r1, 0, none⟩ : Addr) 4) 1) (.int .i64 x15) (st w29 (⟨r24, 0, none⟩ : Addr) (.int .i64 x13) fun w30 => (st w30 (Addr.add (⟨r24, 0, none⟩ : Addr) 1) (.int .i64 x15) fun w31 => (J6 [(.pointer (some (⟨r26, 0, none⟩ : Addr))), (.pointer (some (⟨r24, 0, none⟩ : Addr)))] w31)))))))))))))))))))))))))))
theorem F15_link (e_0 : Int) (e_1 : Int) (e_2 : Int) (e_3 : Int) (e_4 : Int) (e_5 : Int) (e_6 : Int) (e_7 : Int) (w : World) (Q : Value → World → Prop) : fnEv Try.prog Try.f15 h15 [(.agg #[(.int .i64 e_0), (.int .i64 e_1), (.int .i64 e_2), (.int .i64 e_3), (.int .i64 e_4), (.int .i64 e_5), (.int .i64 e_6), (.int .i64 e_7)])] w Q = F15 e_0 e_1 e_2 e_3 e_4 e_5 e_6 e_7 w Q := by kernel_rfl
theorem F15_calls {e_0 : Int} {e_1 : Int} {e_2 : Int} {e_3 : Int} {e_4 : Int} {e_5 : Int} {e_6 : Int} {e_7 : Int} {w : World} {Q : Value → World → Prop} (hF_ : F15 e_0 e_1 e_2 e_3 e_4 e_5 e_6 e_7 w Q) : cl Try.prog 15 #[(.agg #[(.int .i64 e_0), (.int .i64 e_1), (.int .i64 e_2), (.int .i64 e_3), (.int .i64 e_4), (.int .i64 e_5), (.int .i64 e_6), (.int .i64 e_7)])] w Q :=
  calls_of_ev (fn := Try.f15) Try.func15 h15 (args := [(.agg #[(.int .i64 e_0), (.int .i64 e_1), (.int .i64 e_2), (.int .i64 e_3), (.int .i64 e_4), (.int .i64 e_5), (.int .i64 e_6), (.int .i64 e_7)])]) (by rw [F15_link]; exact hF_)

/-! (*tiltyard/world.World).Spawn -/
def h16 : Hint := (.s .d (.s .d (.s (.s .d (.l [(14, 3)] (.s .d (.s .d (.s (.s .d (.s .d (.s (.j [(32, 4)] .d .d) (.s .d (.s .d (.s .d (.s .d (.s (.o (ofL [0, 1, 2, 3, 4, 5, 6, 7] .nil)) .d)))))))) .d))))) .d)))
set_option linter.unusedVariables false in
def F16 (w' : Option Addr) (e_0 : Int) (e_1 : Int) (e_2 : Int) (e_3 : Int) (e_4 : Int) (e_5 : Int) (e_6 : Int) (e_7 : Int) (w : World) (Q : Value → World → Prop) : Prop :=
 (nw w (.cells #[(.int .i64 e_0), (.int .i64 e_1), (.int .i64 e_2), (.int .i64 e_3), (.int .i64 e_4), (.int .i64 e_5), (.int .i64 e_6), (.int .i64 e_7)] 27) fun r1 w2 => (lv (0 : Int) fun y3 => (lv (0 : Int) fun y4 => 
(ld w2 (⟨r1, 0, none⟩ : Addr) fun v5 => asI .i64 v5 fun x6 => (ld w2 (Addr.add (⟨r1, 0, none⟩ : Addr) 1) fun v7 => asI .i64 v7 fun x8 => (ld w2 (Addr.add (⟨r1, 0, none⟩ : Addr) 2) fun v9 => asI .i64 v9 fun x10 => (ld w2 (Addr.add (⟨r1, 0, none⟩ : Addr) 3) fun v11 => asI .i64 v11 fun x12 => (ld w2 (Addr.add (⟨r1, 0, none⟩ : Addr) 4) fun v13 => asI .i64 v13 fun x14 => (ld w2 (Addr.add (⟨r1, 0, none⟩ : Addr) 5) fun v15 => asI .i64 v15 fun x16 => (ld w2 (Addr.add (⟨r1, 0, none⟩ : Addr) 6) fun v17 => asI .i64 v17 fun x18 => (ld w2 (Addr.add (⟨r1, 0, none⟩ : Addr) 7) fun v19 => asI .i64 v19 fun x20 => (cl Try.prog 15 #[(.agg #[(.int .i64 x6), (.int .i64 x8), (.int .i64 x10), (.int .i64 x12), (.int .i64 x14), (.int .i64 x16), (.int .i64 x18), (.int .i64 x20)])] w2 fun v21 w22 => asI .i64 v21 fun x23 => (lv x23 fun e_24 => 

(cond (e_24 != (0 : Int)) (lv (0 : Int) fun y25 => (lv e_24 fun y26 => 
(Q (.tuple #[(.int .i64 y25), (.int .i64 y26)]) w22))) 

(lp [(.int .i64 (0 : Int))] w22 fun J29 s27 w28 => asI .i64 (s27.getD 0 undef) fun x30 => 
(cond (decide (x30 < (64 : Int))) 
(lv x30 fun i_31 => 
(dr w' fun a32 => (bnd i_31 64 
(jn (fun s33 w34 => asB (s33.getD 0 undef) fun b40 => (cond b40 
(J29 [(.int .i64 (IntKind.wrap .i64 (x30 + (1 : Int))))] w34) 
(ld w34 (Addr.add (Addr.add a32 1) (Int.toNat i_31 * 10)) fun v41 => asI .i64 v41 fun x42 => (st w34 (Addr.add (Addr.add a32 1) (Int.toNat i_31 * 10)) (.int .i64 (IntKind.wrap .i64 (x42 + (1 : Int)))) fun w43 => 
(st w43 (Addr.add (Addr.add (Addr.add a32 1) (Int.toNat i_31 * 10)) 1) (.bool true) fun w44 => 
(ld w44 (⟨r1, 0, none⟩ : Addr) fun v45 => asI .i64 v45 fun x46 => (ld w44 (Addr.add (⟨r1, 0, none⟩ : Addr) 1) fun v47 => asI .i64 v47 fun x48 => (ld w44 (Addr.add (⟨r1, 0, none⟩ : Addr) 2) fun v49 => asI .i64 v49 fun x50 => (ld w44 (Addr.add (⟨r1, 0, none⟩ : Addr) 3) fun v51 => asI .i64 v51 fun x52 => (ld w44 (Addr.add (⟨r1, 0, none⟩ : Addr) 4) fun v53 => asI .i64 v53 fun x54 => (ld w44 (Addr.add (⟨r1, 0, none⟩ : Addr) 5) fun v55 => asI .i64 v55 fun x56 => (ld w44 (Addr.add (⟨r1, 0, none⟩ : Addr) 6) fun v57 => asI .i64 v57 fun x58 => (ld w44 (Addr.add (⟨r1, 0, none⟩ : Addr) 7) fun v59 => asI .i64 v59 fun x60 => (st w44 (Addr.add (Addr.add (Addr.add a32 1) (Int.toNat i_31 * 10)) 2) (.int .i64 x46) fun w61 => (st w61 (Addr.add (Addr.add (Addr.add (Addr.add a32 1) (Int.toNat i_31 * 10)) 2) 1) (.int .i64 x48) fun w62 => (st w62 (Addr.add (Addr.add (Addr.add (Addr.add a32 1) (Int.toNat i_31 * 10)) 2) 2) (.int .i64 x50) fun w63 => (st w63 (Addr.add (Addr.add (Addr.add (Addr.add a32 1) (Int.toNat i_31 * 10)) 2) 3) (.int .i64 x52) fun w64 => (st w64 (Addr.add (Addr.add (Addr.add (Addr.add a32 1) (Int.toNat i_31 * 10)) 2) 4) (.int .i64 x54) fun w65 => (st w65 (Addr.add (Addr.add (Addr.add (Addr.add a32 1) (Int.toNat i_31 * 10)) 2) 5) (.int .i64 x56) fun w66 => (st w66 (Addr.add (Addr.add (Addr.add (Addr.add a32 1) (Int.toNat i_31 * 10)) 2) 6) (.int .i64 x58) fun w67 => (st w67 (Addr.add (Addr.add (Addr.add (Addr.add a32 1) (Int.toNat i_31 * 10)) 2) 7) (.int .i64 x60) fun w68 => 
(ld w68 (Addr.add (Addr.add a32 1) (Int.toNat i_31 * 10)) fun v69 => asI .i64 v69 fun x70 => (st w68 (Addr.add (Addr.add (Addr.add a32 1) (Int.toNat i_31 * 10)) 2) (.int .i64 (IntKind.wrap .i64 ((IntKind.wrap .i64 (x70 * (64 : Int))) + i_31))) fun w71 => 
(dw w71 fun w72 => (dr w' fun a73 => (ld w72 a73 fun v74 => asP v74 fun p75 => (ld w72 (Addr.add (⟨r1, 0, none⟩ : Addr) 1) fun v76 => asI .i64 v76 fun x77 => (ld w72 (Addr.add (Addr.add (⟨r1, 0, none⟩ : Addr) 1) 1) fun v78 => asI .i64 v78 fun x79 => (ld w72 (Addr.add (Addr.add (⟨r1, 0, none⟩ : Addr) 1) 2) fun v80 => asI .i64 v80 fun x81 => (cl Try.prog 30 #[(.pointer p75), (.int .i64 i_31), (.agg #[(.int .i64 x77), (.int .i64 x79), (.int .i64 x81)])] w72 fun v82 w83 => asI .i64 v82 fun x84 => 
(ld w83 (Addr.add (Addr.add (Addr.add a32 1) (Int.toNat i_31 * 10)) 2) fun v85 => asI .i64 v85 fun x86 => (lv x86 fun y87 => (lv (0 : Int) fun y88 => 
(Q (.tuple #[(.int .i64 y87), (.int .i64 y88)]) w83))))))))))))))))))))))))))))))))))
 (fun J35 => (ld w28 (Addr.add (Addr.add (Addr.add a32 1) (Int.toNat i_31 * 10)) 1) fun v36 => asB v36 fun b37 => (cond b37 (J35 [(.bool true)] w28) (ld w28 (Addr.add (Addr.add a32 1) (Int.toNat i_31 * 10)) fun v38 => asI .i64 v38 fun x39 => (J35 [(.bool (x39 == (1099511627776 : Int)))] w28))))))))) 
(lv (0 : Int) fun y89 => (lv (2 : Int) fun y90 => 
(Q (.tuple #[(.int .i64 y89), (.int .i64 y90)]) w28)))))))))))))))))))
theorem F16_link (w' : Option Addr) (e_0 : Int) (e_1 : Int) (e_2 : Int) (e_3 : Int) (e_4 : Int) (e_5 : Int) (e_6 : Int) (e_7 : Int) (w : World) (Q : Value → World → Prop) : fnEv Try.prog Try.f16 h16 [(.pointer w'), (.agg #[(.int .i64 e_0), (.int .i64 e_1), (.int .i64 e_2), (.int .i64 e_3), (.int .i64 e_4), (.int .i64 e_5), (.int .i64 e_6), (.int .i64 e_7)])] w Q = F16 w' e_0 e_1 e_2 e_3 e_4 e_5 e_6 e_7 w Q := by kernel_rfl
theorem F16_calls {w' : Option Addr} {e_0 : Int} {e_1 : Int} {e_2 : Int} {e_3 : Int} {e_4 : Int} {e_5 : Int} {e_6 : Int} {e_7 : Int} {w : World} {Q : Value → World → Prop} (hF_ : F16 w' e_0 e_1 e_2 e_3 e_4 e_5 e_6 e_7 w Q) : cl Try.prog 16 #[(.pointer w'), (.agg #[(.int .i64 e_0), (.int .i64 e_1), (.int .i64 e_2), (.int .i64 e_3), (.int .i64 e_4), (.int .i64 e_5), (.int .i64 e_6), (.int .i64 e_7)])] w Q :=
  calls_of_ev (fn := Try.f16) Try.func16 h16 (args := [(.pointer w'), (.agg #[(.int .i64 e_0), (.int .i64 e_1), (.int .i64 e_2), (.int .i64 e_3), (.int .i64 e_4), (.int .i64 e_5), (.int .i64 e_6), (.int .i64 e_7)])]) (by rw [F16_link]; exact hF_)

/-! (*tiltyard/world.World).Kill -/
def h17 : Hint := .d
set_option linter.unusedVariables false in
def F17 (w' : Option Addr) (h : Int) (w : World) (Q : Value → World → Prop) : Prop :=
 (lv (0 : Int) fun y1 => 
(cl Try.prog 43 #[(.pointer w'), (.int .i64 h)] w fun v2 w3 => asP v2 fun p4 => 

(cond (Option.isNone p4) (lv (190 : Int) fun y5 => 
(Q (.int .i64 y5) w3)) 
(dr p4 fun a6 => (st w3 (Addr.add a6 1) (.bool false) fun w7 => 
(dr w' fun a8 => (ld w7 a8 fun v9 => asP v9 fun p10 => (cl Try.prog 36 #[(.pointer p10), (.int .i64 (Int.tmod h (64 : Int)))] w7 fun v11 w12 => asI .i64 v11 fun x13 => 
(lv (0 : Int) fun y14 => 
(Q (.int .i64 y14) w12))))))))))
theorem F17_link (w' : Option Addr) (h : Int) (w : World) (Q : Value → World → Prop) : fnEv Try.prog Try.f17 h17 [(.pointer w'), (.int .i64 h)] w Q = F17 w' h w Q := by kernel_rfl
theorem F17_calls {w' : Option Addr} {h : Int} {w : World} {Q : Value → World → Prop} (hF_ : F17 w' h w Q) : cl Try.prog 17 #[(.pointer w'), (.int .i64 h)] w Q :=
  calls_of_ev (fn := Try.f17) Try.func17 h17 (args := [(.pointer w'), (.int .i64 h)]) (by rw [F17_link]; exact hF_)

/-! (*tiltyard/world.World).Get -/
def h18 : Hint := .d
set_option linter.unusedVariables false in
def F18 (w' : Option Addr) (h : Int) (w : World) (Q : Value → World → Prop) : Prop :=
 (nw w (.cells #[(.int .i64 (0 : Int)), (.int .i64 (0 : Int)), (.int .i64 (0 : Int)), (.int .i64 (0 : Int)), (.int .i64 (0 : Int)), (.int .i64 (0 : Int)), (.int .i64 (0 : Int)), (.int .i64 (0 : Int))] 27) fun r1 w2 => (lv (0 : Int) fun y3 => 
(cl Try.prog 43 #[(.pointer w'), (.int .i64 h)] w2 fun v4 w5 => asP v4 fun p6 => 

(cond (Option.isNone p6) (st w5 (⟨r1, 0, none⟩ : Addr) (.int .i64 (0 : Int)) fun w7 => (st w7 (Addr.add (⟨r1, 0, none⟩ : Addr) 1) (.int .i64 (0 : Int)) fun w8 => (st w8 (Addr.add (⟨r1, 0, none⟩ : Addr) 2) (.int .i64 (0 : Int)) fun w9 => (st w9 (Addr.add (⟨r1, 0, none⟩ : Addr) 3) (.int .i64 (0 : Int)) fun w10 => (st w10 (Addr.add (⟨r1, 0, none⟩ : Addr) 4) (.int .i64 (0 : Int)) fun w11 => (st w11 (Addr.add (⟨r1, 0, none⟩ : Addr) 5) (.int .i64 (0 : Int)) fun w12 => (st w12 (Addr.add (⟨r1, 0, none⟩ : Addr) 6) (.int .i64 (0 : Int)) fun w13 => (st w13 (Addr.add (⟨r1, 0, none⟩ : Addr) 7) (.int .i64 (0 : Int)) fun w14 => (lv (190 : Int) fun y15 => 
(ld w14 (⟨r1, 0, none⟩ : Addr) fun v16 => asI .i64 v16 fun x17 => (ld w14 (Addr.add (⟨r1, 0, none⟩ : Addr) 1) fun v18 => asI .i64 v18 fun x19 => (ld w14 (Addr.add (⟨r1, 0, none⟩ : Addr) 2) fun v20 => asI .i64 v20 fun x21 => (ld w14 (Addr.add (⟨r1, 0, none⟩ : Addr) 3) fun v22 => asI .i64 v22 fun x23 => (ld w14 (Addr.add (⟨r1, 0, none⟩ : Addr) 4) fun v24 => asI .i64 v24 fun x25 => (ld w14 (Addr.add (⟨r1, 0, none⟩ : Addr) 5) fun v26 => asI .i64 v26 fun x27 => (ld w14 (Addr.add (⟨r1, 0, none⟩ : Addr) 6) fun v28 => asI .i64 v28 fun x29 => (ld w14 (Addr.add (⟨r1, 0, none⟩ : Addr) 7) fun v30 => asI .i64 v30 fun x31 => (Q (.tuple #[(.agg #[(.int .i64 x17), (.int .i64 x19), (.int .i64 x21), (.int .i64 x23), (.int .i64 x25), (.int .i64 x27), (.int .i64 x29), (.int .i64 x31)]), (.int .i64 y15)]) w14)))))))))))))))))) 
(dr p6 fun a32 => (ld w5 (Addr.add a32 2) fun v33 => asI .i64 v33 fun x34 => (ld w5 (Addr.add (Addr.add a32 2) 1) fun v35 => asI .i64 v35 fun x36 => (ld w5 (Addr.add (Addr.add a32 2) 2) fun v37 => asI .i64 v37 fun x38 => (ld w5 (Addr.add (Addr.add a32 2) 3) fun v39 => asI .i64 v39 fun x40 => (ld w5 (Addr.add (Addr.add a32 2) 4) fun v41 => asI .i64 v41 fun x42 => (ld w5 (Addr.add (Addr.add a32 2) 5) fun v43 => asI .i64 v43 fun x44 => (ld w5 (Addr.add (Addr.add a32 2) 6) fun v45 => asI .i64 v45 fun x46 => (ld w5 (Addr.add (Addr.add a32 2) 7) fun v47 => asI .i64 v47 fun x48 => (st w5 (⟨r1, 0, none⟩ : Addr) (.int .i64 x34) fun w49 => (st w49 (Addr.add (⟨r1, 0, none⟩ : Addr) 1) (.int .i64 x36) fun w50 => (st w50 (Addr.add (⟨r1, 0, none⟩ : Addr) 2) (.int .i64 x38) fun w51 => (st w51 (Addr.add (⟨r1, 0, none⟩ : Addr) 3) (.int .i64 x40) fun w52 => (st w52 (Addr.add (⟨r1, 0, none⟩ : Addr) 4) (.int .i64 x42) fun w53 => (st w53 (Addr.add (⟨r1, 0, none⟩ : Addr) 5) (.int .i64 x44) fun w54 => (st w54 (Addr.add (⟨r1, 0, none⟩ : Addr) 6) (.int .i64 x46) fun w55 => (st w55 (Addr.add (⟨r1, 0, none⟩ : Addr) 7) (.int .i64 x48) fun w56 => (lv (0 : Int) fun y57 => 
(ld w56 (⟨r1, 0, none⟩ : Addr) fun v58 => asI .i64 v58 fun x59 => (ld w56 (Addr.add (⟨r1, 0, none⟩ : Addr) 1) fun v60 => asI .i64 v60 fun x61 => (ld w56 (Addr.add (⟨r1, 0, none⟩ : Addr) 2) fun v62 => asI .i64 v62 fun x63 => (ld w56 (Addr.add (⟨r1, 0, none⟩ : Addr) 3) fun v64 => asI .i64 v64 fun x65 => (ld w56 (Addr.add (⟨r1, 0, none⟩ : Addr) 4) fun v66 => asI .i64 v66 fun x67 => (ld w56 (Addr.add (⟨r1, 0, none⟩ : Addr) 5) fun v68 => asI .i64 v68 fun x69 => (ld w56 (Addr.add (⟨r1, 0, none⟩ : Addr) 6) fun v70 => asI .i64 v70 fun x71 => (ld w56 (Addr.add (⟨r1, 0, none⟩ : Addr) 7) fun v72 => asI .i64 v72 fun x73 => (Q (.tuple #[(.agg #[(.int .i64 x59), (.int .i64 x61), (.int .i64 x63), (.int .i64 x65), (.int .i64 x67), (.int .i64 x69), (.int .i64 x71), (.int .i64 x73)]), (.int .i64 y57)]) w56)))))))))))))))))))))))))))))))
theorem F18_link (w' : Option Addr) (h : Int) (w : World) (Q : Value → World → Prop) : fnEv Try.prog Try.f18 h18 [(.pointer w'), (.int .i64 h)] w Q = F18 w' h w Q := by kernel_rfl
theorem F18_calls {w' : Option Addr} {h : Int} {w : World} {Q : Value → World → Prop} (hF_ : F18 w' h w Q) : cl Try.prog 18 #[(.pointer w'), (.int .i64 h)] w Q :=
  calls_of_ev (fn := Try.f18) Try.func18 h18 (args := [(.pointer w'), (.int .i64 h)]) (by rw [F18_link]; exact hF_)

/-! (*tiltyard/world.World).List -/
def h19 : Hint := (.s .d (.s .d (.s (.s .d (.l [(3, 43), (10, 3)] (.s .d (.s .d (.j [(3, 43)] .d .d))))) .d)))
set_option linter.unusedVariables false in
def F19 (w' : Option Addr) (w : World) (Q : Value → World → Prop) : Prop :=
 

(dr w' fun a1 => (ldG Try.prog w (Addr.add a1 1) 640 fun l2 => 
(lp [(.slice none 0 0), (.int .i64 (0 : Int))] w fun J5 s3 w4 => asS (s3.getD 0 undef) fun p6 n7 c8 => asI .i64 (s3.getD 1 undef) fun x9 => 
(cond (decide (x9 < (64 : Int))) 
(jn (fun s10 w11 => asS (s10.getD 0 undef) fun p61 n62 c63 => (J5 [(.slice p61 n62 c63), (.int .i64 (IntKind.wrap .i64 (x9 + (1 : Int))))] w11))
 (fun J12 => (bnd x9 64 (asA 10 (.agg (Array.extract ((List.toArray l2) : Array Value) (Int.toNat x9 * 10) (Int.toNat x9 * 10 + 10))) fun a13 => asI .i64 (a13 0) fun x14 => asB (a13 1) fun b15 => asI .i64 (a13 2) fun x16 => asI .i64 (a13 3) fun x17 => asI .i64 (a13 4) fun x18 => asI .i64 (a13 5) fun x19 => asI .i64 (a13 6) fun x20 => asI .i64 (a13 7) fun x21 => asI .i64 (a13 8) fun x22 => asI .i64 (a13 9) fun x23 => (nw w4 (.cells #[(.int .i64 (0 : Int)), (.bool false), (.int .i64 (0 : Int)), (.int .i64 (0 : Int)), (.int .i64 (0 : Int)), (.int .i64 (0 : Int)), (.int .i64 (0 : Int)), (.int .i64 (0 : Int)), (.int .i64 (0 : Int)), (.int .i64 (0 : Int))] 100) fun r24 w25 => (st w25 (⟨r24, 0, none⟩ : Addr) (.int .i64 x14) fun w26 => (st w26 (Addr.add (⟨r24, 0, none⟩ : Addr) 1) (.bool b15) fun w27 => (st w27 (Addr.add (⟨r24, 0, none⟩ : Addr) 2) (.int .i64 x16) fun w28 => (st w28 (Addr.add (⟨r24, 0, none⟩ : Addr) 3) (.int .i64 x17) fun w29 => (st w29 (Addr.add (⟨r24, 0, none⟩ : Addr) 4) (.int .i64 x18) fun w30 => (st w30 (Addr.add (⟨r24, 0, none⟩ : Addr) 5) (.int .i64 x19) fun w31 => (st w31 (Addr.add (⟨r24, 0, none⟩ : Addr) 6) (.int .i64 x20) fun w32 => (st w32 (Addr.add (⟨r24, 0, none⟩ : Addr) 7) (.int .i64 x21) fun w33 => (st w33 (Addr.add (⟨r24, 0, none⟩ : Addr) 8) (.int .i64 x22) fun w34 => (st w34 (Addr.add (⟨r24, 0, none⟩ : Addr) 9) (.int .i64 x23) fun w35 => 
(ld w35 (Addr.add (⟨r24, 0, none⟩ : Addr) 1) fun v36 => asB v36 fun b37 => 
(cond b37 (ld w35 (Addr.add (⟨r24, 0, none⟩ : Addr) 2) fun v38 => asI .i64 v38 fun x39 => (ld w35 (Addr.add (Addr.add (⟨r24, 0, none⟩ : Addr) 2) 1) fun v40 => asI .i64 v40 fun x41 => (ld w35 (Addr.add (Addr.add (⟨r24, 0, none⟩ : Addr) 2) 2) fun v42 => asI .i64 v42 fun x43 => (ld w35 (Addr.add (Addr.add (⟨r24, 0, none⟩ : Addr) 2) 3) fun v44 => asI .i64 v44 fun x45 => (ld w35 (Addr.add (Addr.add (⟨r24, 0, none⟩ : Addr) 2) 4) fun v46 => asI .i64 v46 fun x47 => (ld w35 (Addr.add (Addr.add (⟨r24, 0, none⟩ : Addr) 2) 5) fun v48 => asI .i64 v48 fun x49 => (ld w35 (Addr.add (Addr.add (⟨r24, 0, none⟩ : Addr) 2) 6) fun v50 => asI .i64 v50 fun x51 => (ld w35 (Addr.add (Addr.add (⟨r24, 0, none⟩ : Addr) 2) 7) fun v52 => asI .i64 v52 fun x53 => (nw w35 (.cells #[(.int .i64 x39), (.int .i64 x41), (.int .i64 x43), (.int .i64 x45), (.int .i64 x47), (.int .i64 x49), (.int .i64 x51), (.int .i64 x53)] 27) fun r54 w55 => (rn Try.prog (Builtin.append_ #[43, 43] 43 #[(.slice p6 n7 c8), (.slice (some (⟨r54, 0, none⟩ : Addr)) 1 1)]) w55 fun v56 w57 => asS v56 fun p58 n59 c60 => (J12 [(.slice p58 n59 c60)] w57))))))))))) (J12 [(.slice p6 n7 c8)] w35)))))))))))))))))) 

(Q (.slice p6 n7 c8) w4)))))
theorem F19_link (w' : Option Addr) (w : World) (Q : Value → World → Prop) : fnEv Try.prog Try.f19 h19 [(.pointer w')] w Q = F19 w' w Q := by kernel_rfl
theorem F19_calls {w' : Option Addr} {w : World} {Q : Value → World → Prop} (hF_ : F19 w' w Q) : cl Try.prog 19 #[(.pointer w')] w Q :=
  calls_of_ev (fn := Try.f19) Try.func19 h19 (args := [(.pointer w')]) (by rw [F19_link]; exact hF_)

/-! (*tiltyard/world.World).Set -/
def h20 : Hint := (.s .d (.s .d (.s .d (.s .d (.s .d (.s .d (.s (.o (ofL [0, 1, 2, 3, 4, 5, 6, 7, 8] .nil)) .d)))))))
set_option linter.unusedVariables false in
def F20 (w' : Option Addr) (h : Int) (e_0 : Int) (e_1 : Int) (e_2 : Int) (e_3 : Int) (e_4 : Int) (e_5 : Int) (e_6 : Int) (e_7 : Int) (w : World) (Q : Value → World → Prop) : Prop :=
 (nw w (.cells #[(.int .i64 e_0), (.int .i64 e_1), (.int .i64 e_2), (.int .i64 e_3), (.int .i64 e_4), (.int .i64 e_5), (.int .i64 e_6), (.int .i64 e_7)] 27) fun r1 w2 => (lv (0 : Int) fun y3 => 
(cl Try.prog 43 #[(.pointer w'), (.int .i64 h)] w2 fun v4 w5 => asP v4 fun p6 => 

(cond (Option.isNone p6) (lv (190 : Int) fun y7 => 
(Q (.int .i64 y7) w5)) 
(ld w5 (⟨r1, 0, none⟩ : Addr) fun v8 => asI .i64 v8 fun x9 => (ld w5 (Addr.add (⟨r1, 0, none⟩ : Addr) 1) fun v10 => asI .i64 v10 fun x11 => (ld w5 (Addr.add (⟨r1, 0, none⟩ : Addr) 2) fun v12 => asI .i64 v12 fun x13 => (ld w5 (Addr.add (⟨r1, 0, none⟩ : Addr) 3) fun v14 => asI .i64 v14 fun x15 => (ld w5 (Addr.add (⟨r1, 0, none⟩ : Addr) 4) fun v16 => asI .i64 v16 fun x17 => (ld w5 (Addr.add (⟨r1, 0, none⟩ : Addr) 5) fun v18 => asI .i64 v18 fun x19 => (ld w5 (Addr.add (⟨r1, 0, none⟩ : Addr) 6) fun v20 => asI .i64 v20 fun x21 => (ld w5 (Addr.add (⟨r1, 0, none⟩ : Addr) 7) fun v22 => asI .i64 v22 fun x23 => (cl Try.prog 15 #[(.agg #[(.int .i64 x9), (.int .i64 x11), (.int .i64 x13), (.int .i64 x15), (.int .i64 x17), (.int .i64 x19), (.int .i64 x21), (.int .i64 x23)])] w5 fun v24 w25 => asI .i64 v24 fun x26 => (lv x26 fun e_27 => 

(cond (e_27 != (0 : Int)) (lv e_27 fun y28 => 
(Q (.int .i64 y28) w25)) 
(ld w25 (⟨r1, 0, none⟩ : Addr) fun v29 => asI .i64 v29 fun x30 => (ld w25 (Addr.add (⟨r1, 0, none⟩ : Addr) 1) fun v31 => asI .i64 v31 fun x32 => (ld w25 (Addr.add (⟨r1, 0, none⟩ : Addr) 2) fun v33 => asI .i64 v33 fun x34 => (ld w25 (Addr.add (⟨r1, 0, none⟩ : Addr) 3) fun v35 => asI .i64 v35 fun x36 => (ld w25 (Addr.add (⟨r1, 0, none⟩ : Addr) 4) fun v37 => asI .i64 v37 fun x38 => (ld w25 (Addr.add (⟨r1, 0, none⟩ : Addr) 5) fun v39 => asI .i64 v39 fun x40 => (ld w25 (Addr.add (⟨r1, 0, none⟩ : Addr) 6) fun v41 => asI .i64 v41 fun x42 => (ld w25 (Addr.add (⟨r1, 0, none⟩ : Addr) 7) fun v43 => asI .i64 v43 fun x44 => (dr p6 fun a45 => (st w25 (Addr.add a45 2) (.int .i64 x30) fun w46 => (st w46 (Addr.add (Addr.add a45 2) 1) (.int .i64 x32) fun w47 => (st w47 (Addr.add (Addr.add a45 2) 2) (.int .i64 x34) fun w48 => (st w48 (Addr.add (Addr.add a45 2) 3) (.int .i64 x36) fun w49 => (st w49 (Addr.add (Addr.add a45 2) 4) (.int .i64 x38) fun w50 => (st w50 (Addr.add (Addr.add a45 2) 5) (.int .i64 x40) fun w51 => (st w51 (Addr.add (Addr.add a45 2) 6) (.int .i64 x42) fun w52 => (st w52 (Addr.add (Addr.add a45 2) 7) (.int .i64 x44) fun w53 => 
(dr p6 fun a54 => (st w53 (Addr.add a54 2) (.int .i64 h) fun w55 => 
(dw w55 fun w56 => (dr w' fun a57 => (ld w56 a57 fun v58 => asP v58 fun p59 => (ld w56 (Addr.add (⟨r1, 0, none⟩ : Addr) 1) fun v60 => asI .i64 v60 fun x61 => (ld w56 (Addr.add (Addr.add (⟨r1, 0, none⟩ : Addr) 1) 1) fun v62 => asI .i64 v62 fun x63 => (ld w56 (Addr.add (Addr.add (⟨r1, 0, none⟩ : Addr) 1) 2) fun v64 => asI .i64 v64 fun x65 => (cl Try.prog 35 #[(.pointer p59), (.int .i64 (Int.tmod h (64 : Int))), (.agg #[(.int .i64 x61), (.int .i64 x63), (.int .i64 x65)])] w56 fun v66 w67 => asI .i64 v66 fun x68 => 
(lv (0 : Int) fun y69 => 
(Q (.int .i64 y69) w67)))))))))))))))))))))))))))))))))))))))))))
theorem F20_link (w' : Option Addr) (h : Int) (e_0 : Int) (e_1 : Int) (e_2 : Int) (e_3 : Int) (e_4 : Int) (e_5 : Int) (e_6 : Int) (e_7 : Int) (w : World) (Q : Value → World → Prop) : fnEv Try.prog Try.f20 h20 [(.pointer w'), (.int .i64 h), (.agg #[(.int .i64 e_0), (.int .i64 e_1), (.int .i64 e_2), (.int .i64 e_3), (.int .i64 e_4), (.int .i64 e_5), (.int .i64 e_6), (.int .i64 e_7)])] w Q = F20 w' h e_0 e_1 e_2 e_3 e_4 e_5 e_6 e_7 w Q := by kernel_rfl
theorem F20_calls {w' : Option Addr} {h : Int} {e_0 : Int} {e_1 : Int} {e_2 : Int} {e_3 : Int} {e_4 : Int} {e_5 : Int} {e_6 : Int} {e_7 : Int} {w : World} {Q : Value → World → Prop} (hF_ : F20 w' h e_0 e_1 e_2 e_3 e_4 e_5 e_6 e_7 w Q) : cl Try.prog 20 #[(.pointer w'), (.int .i64 h), (.agg #[(.int .i64 e_0), (.int .i64 e_1), (.int .i64 e_2), (.int .i64 e_3), (.int .i64 e_4), (.int .i64 e_5), (.int .i64 e_6), (.int .i64 e_7)])] w Q :=
  calls_of_ev (fn := Try.f20) Try.func20 h20 (args := [(.pointer w'), (.int .i64 h), (.agg #[(.int .i64 e_0), (.int .i64 e_1), (.int .i64 e_2), (.int .i64 e_3), (.int .i64 e_4), (.int .i64 e_5), (.int .i64 e_6), (.int .i64 e_7)])]) (by rw [F20_link]; exact hF_)

/-! tiltyard/tiltyardref19.Same -/
def h21 : Hint := (.s .d (.s .d (.s (.s .d (.l [(5, 3)] (.s .d (.s (.s (.o (ofL [0, 1, 2, 3, 4, 5, 6, 7, 8] .nil)) .d) .d)))) .d)))
set_option linter.unusedVariables false in
def F21 (a : Option Addr) (a_n a_c : Nat) (b : Option Addr) (b_n b_c : Nat) (w : World) (Q : Value → World → Prop) : Prop :=
 

(cond ((a_n : Int) != (b_n : Int)) 
(Q (.bool false) w) 
(lv (0 : Int) fun i_1 => 
(lp [(.int .i64 i_1)] w fun J4 s2 w3 => asI .i64 (s2.getD 0 undef) fun x5 => 
(cond (decide (x5 < (a_n : Int))) 
(dw w3 fun w6 => (dr a fun a7 => (bnd x5 a_n (ld w6 (Addr.add a7 (Int.toNat x5 * 8)) fun v8 => asI .i64 v8 fun x9 => (ld w6 (Addr.add (Addr.add a7 (Int.toNat x5 * 8)) 1) fun v10 => asI .i64 v10 fun x11 => (ld w6 (Addr.add (Addr.add a7 (Int.toNat x5 * 8)) 2) fun v12 => asI .i64 v12 fun x13 => (ld w6 (Addr.add (Addr.add a7 (Int.toNat x5 * 8)) 3) fun v14 => asI .i64 v14 fun x15 => (ld w6 (Addr.add (Addr.add a7 (Int.toNat x5 * 8)) 4) fun v16 => asI .i64 v16 fun x17 => (ld w6 (Addr.add (Addr.add a7 (Int.toNat x5 * 8)) 5) fun v18 => asI .i64 v18 fun x19 => (ld w6 (Addr.add (Addr.add a7 (Int.toNat x5 * 8)) 6) fun v20 => asI .i64 v20 fun x21 => (ld w6 (Addr.add (Addr.add a7 (Int.toNat x5 * 8)) 7) fun v22 => asI .i64 v22 fun x23 => (dr b fun a24 => (bnd x5 b_n (ld w6 (Addr.add a24 (Int.toNat x5 * 8)) fun v25 => asI .i64 v25 fun x26 => (ld w6 (Addr.add (Addr.add a24 (Int.toNat x5 * 8)) 1) fun v27 => asI .i64 v27 fun x28 => (ld w6 (Addr.add (Addr.add a24 (Int.toNat x5 * 8)) 2) fun v29 => asI .i64 v29 fun x30 => (ld w6 (Addr.add (Addr.add a24 (Int.toNat x5 * 8)) 3) fun v31 => asI .i64 v31 fun x32 => (ld w6 (Addr.add (Addr.add a24 (Int.toNat x5 * 8)) 4) fun v33 => asI .i64 v33 fun x34 => (ld w6 (Addr.add (Addr.add a24 (Int.toNat x5 * 8)) 5) fun v35 => asI .i64 v35 fun x36 => (ld w6 (Addr.add (Addr.add a24 (Int.toNat x5 * 8)) 6) fun v37 => asI .i64 v37 fun x38 => (ld w6 (Addr.add (Addr.add a24 (Int.toNat x5 * 8)) 7) fun v39 => asI .i64 v39 fun x40 => (eqW Try.prog 27 (.agg #[(.int .i64 x9), (.int .i64 x11), (.int .i64 x13), (.int .i64 x15), (.int .i64 x17), (.int .i64 x19), (.int .i64 x21), (.int .i64 x23)]) (.agg #[(.int .i64 x26), (.int .i64 x28), (.int .i64 x30), (.int .i64 x32), (.int .i64 x34), (.int .i64 x36), (.int .i64 x38), (.int .i64 x40)]) fun b41 => 
(cond (!b41) 
(Q (.bool false) w6) 
(lv (IntKind.wrap .i64 (x5 + (1 : Int))) fun i_42 => (J4 [(.int .i64 i_42)] w6))))))))))))))))))))))))) 

(Q (.bool true) w3)))))
theorem F21_link (a : Option Addr) (a_n a_c : Nat) (b : Option Addr) (b_n b_c : Nat) (w : World) (Q : Value → World → Prop) : fnEv Try.prog Try.f21 h21 [(.slice a a_n a_c), (.slice b b_n b_c)] w Q = F21 a a_n a_c b b_n b_c w Q := by kernel_rfl
theorem F21_calls {a : Option Addr} {a_n a_c : Nat} {b : Option Addr} {b_n b_c : Nat} {w : World} {Q : Value → World → Prop} (hF_ : F21 a a_n a_c b b_n b_c w Q) : cl Try.prog 21 #[(.slice a a_n a_c), (.slice b b_n b_c)] w Q :=
  calls_of_ev (fn := Try.f21) Try.func21 h21 (args := [(.slice a a_n a_c), (.slice b b_n b_c)]) (by rw [F21_link]; exact hF_)

/-! tiltyard/tiltyardlaw18.awake -/
def h22 : Hint := (.s .d (.s .d (.s .d (.s .d (.s .d (.s (.j [(70, 4)] .d .d) (.s .d (.s .d (.s .d (.j [(0, 4)] .d .d))))))))))
set_option linter.unusedVariables false in
def F22  (w : World) (Q : Value → World → Prop) : Prop :=
 
(cl Try.prog 23 #[(.int .i64 (10 : Int)), (.agg #[(.int .i64 (-1 : Int)), (.int .i64 (19 : Int))])] w fun v1 w2 => asT 2 v1 fun t3 => asC .f64 (t3 0) fun f4 g5 => asI .i64 (t3 1) fun x6 => (lv x6 fun e_7 => 
(cl Try.prog 24 #[(.int .i64 (10 : Int)), (.agg #[(.int .i64 (10 : Int)), (.int .i64 (0 : Int)), (.int .i64 (1 : Int))])] w2 fun v8 w9 => asT 2 v8 fun t10 => asS (t10 0) fun p11 n12 c13 => asI .i64 (t10 1) fun x14 => (lv x14 fun f_15 => 
(cl Try.prog 29 #[(.int .i64 (10 : Int))] w9 fun v16 w17 => asT 2 v16 fun t18 => asP (t18 0) fun p19 => asI .i64 (t18 1) fun x20 => (lv x20 fun h_21 => 
(cl Try.prog 29 #[(.int .i64 (0 : Int))] w17 fun v22 w23 => asT 2 v22 fun t24 => asP (t24 0) fun p25 => asI .i64 (t24 1) fun x26 => (lv x26 fun i_27 => 
(jn (fun s28 w29 => asB (s28.getD 0 undef) fun b39 => (cond b39 
(Q (.bool false) w29) 
(cl Try.prog 30 #[(.pointer p19), (.int .i64 (7 : Int)), (.agg #[(.int .i64 (0 : Int)), (.int .i64 (0 : Int)), (.int .i64 (2 : Int))])] w29 fun v40 w41 => asI .i64 v40 fun x42 => (lv x42 fun a_43 => 
(cl Try.prog 30 #[(.pointer p19), (.int .i64 (3 : Int)), (.agg #[(.int .i64 (3 : Int)), (.int .i64 (0 : Int)), (.int .i64 (2 : Int))])] w41 fun v44 w45 => asI .i64 v44 fun x46 => (lv x46 fun b_47 => 
(cl Try.prog 31 #[(.pointer p19), (.agg #[(.int .i64 (1 : Int)), (.int .i64 (0 : Int)), (.int .i64 (1 : Int))])] w45 fun v48 w49 => asT 2 v48 fun t50 => asS (t50 0) fun p51 n52 c53 => asI .i64 (t50 1) fun x54 => (lv x54 fun j_55 => 
(jn (fun s56 w57 => asB (s56.getD 0 undef) fun b71 => (Q (.bool b71) w57))
 (fun J58 => (cond (a_43 == (0 : Int)) (cond (b_47 == (0 : Int)) (cl Try.prog 30 #[(.pointer p19), (.int .i64 (7 : Int)), (.agg #[(.int .i64 (0 : Int)), (.int .i64 (0 : Int)), (.int .i64 (2 : Int))])] w49 fun v59 w60 => asI .i64 v59 fun x61 => (cond (x61 == (180 : Int)) (cl Try.prog 35 #[(.pointer p19), (.int .i64 (8 : Int)), (.agg #[(.int .i64 (0 : Int)), (.int .i64 (0 : Int)), (.int .i64 (2 : Int))])] w60 fun v62 w63 => asI .i64 v62 fun x64 => (cond (x64 == (181 : Int)) (cond (j_55 == (0 : Int)) (cond ((n52 : Int) == (2 : Int)) (dr p51 fun a65 => (bnd (0 : Int) n52 (ld w63 (Addr.add a65 (Int.toNat (0 : Int) * 1)) fun v66 => asI .i64 v66 fun x67 => (cond (x67 == (3 : Int)) (dr p51 fun a68 => (bnd (1 : Int) n52 (ld w63 (Addr.add a68 (Int.toNat (1 : Int) * 1)) fun v69 => asI .i64 v69 fun x70 => (J58 [(.bool (x70 == (7 : Int)))] w63)))) (J58 [(.bool false)] w63))))) (J58 [(.bool false)] w63)) (J58 [(.bool false)] w63)) (J58 [(.bool false)] w63))) (J58 [(.bool false)] w60))) (J58 [(.bool false)] w49)) (J58 [(.bool false)] w49))))))))))))
 (fun J30 => (cond (e_7 != (0 : Int)) (J30 [(.bool true)] w23) (cond (!((FloatKind.format .f64).order f4 13830554455654793216 == some .eq && (FloatKind.format .f64).order g5 4607182418800017408 == some .eq)) (J30 [(.bool true)] w23) (cond (f_15 != (0 : Int)) (J30 [(.bool true)] w23) (cond ((n12 : Int) != (4 : Int)) (J30 [(.bool true)] w23) (dr p11 fun a31 => (bnd (0 : Int) n12 (ld w23 (Addr.add a31 (Int.toNat (0 : Int) * 1)) fun v32 => asC .f64 v32 fun f33 g34 => (cond (!((FloatKind.format .f64).order f33 0 == some .eq && (FloatKind.format .f64).order g34 13830554455654793216 == some .eq)) (J30 [(.bool true)] w23) (dr p11 fun a35 => (bnd (3 : Int) n12 (ld w23 (Addr.add a35 (Int.toNat (3 : Int) * 1)) fun v36 => asC .f64 v36 fun f37 g38 => (cond (!((FloatKind.format .f64).order f37 4607182418800017408 == some .eq && (FloatKind.format .f64).order g38 0 == some .eq)) (J30 [(.bool true)] w23) (cond (h_21 != (0 : Int)) (J30 [(.bool true)] w23) (cond (Option.isNone p19) (J30 [(.bool true)] w23) (J30 [(.bool (i_27 != (1 : Int)))] w23)))))))))))))))))))))))))
theorem F22_link  (w : World) (Q : Value → World → Prop) : fnEv Try.prog Try.f22 h22 [] w Q = F22  w Q := by kernel_rfl
theorem F22_calls  {w : World} {Q : Value → World → Prop} (hF_ : F22  w Q) : cl Try.prog 22 #[] w Q :=
  calls_of_ev (fn := Try.f22) Try.func22 h22 (args := []) (by rw [F22_link]; exact hF_)

/-! tiltyard/grid.Cell -/
def h23 : Hint := .d
set_option linter.unusedVariables false in
def F23 (s : Int) (p_0 : Int) (p_1 : Int) (w : World) (Q : Value → World → Prop) : Prop :=
 (nw w (.cells #[(.int .i64 p_0), (.int .i64 p_1)] 23) fun r1 w2 => (lv (0 : Int) fun y3 => 
(cl Try.prog 44 #[(.int .i64 s)] w2 fun v4 w5 => asB v4 fun b6 => 
(cond (!b6) (lv (1 : Int) fun y7 => 
(Q (.tuple #[(.complex .f64 0 0), (.int .i64 y7)]) w5)) 
(ld w5 (⟨r1, 0, none⟩ : Addr) fun v8 => asI .i64 v8 fun x9 => (ld w5 (Addr.add (⟨r1, 0, none⟩ : Addr) 1) fun v10 => asI .i64 v10 fun x11 => (cl Try.prog 45 #[(.int .i64 s), (.int .i64 x9), (.int .i64 x11)] w5 fun v12 w13 => asC .f64 v12 fun f14 g15 => 
(cl Try.prog 46 #[(.complex .f64 f14 g15)] w13 fun v16 w17 => asB v16 fun b18 => 
(cond (!b18) (lv (40 : Int) fun y19 => 
(Q (.tuple #[(.complex .f64 0 0), (.int .i64 y19)]) w17)) 
(lv (0 : Int) fun y20 => 
(Q (.tuple #[(.complex .f64 f14 g15), (.int .i64 y20)]) w17)))))))))))
theorem F23_link (s : Int) (p_0 : Int) (p_1 : Int) (w : World) (Q : Value → World → Prop) : fnEv Try.prog Try.f23 h23 [(.int .i64 s), (.agg #[(.int .i64 p_0), (.int .i64 p_1)])] w Q = F23 s p_0 p_1 w Q := by kernel_rfl
theorem F23_calls {s : Int} {p_0 : Int} {p_1 : Int} {w : World} {Q : Value → World → Prop} (hF_ : F23 s p_0 p_1 w Q) : cl Try.prog 23 #[(.int .i64 s), (.agg #[(.int .i64 p_0), (.int .i64 p_1)])] w Q :=
  calls_of_ev (fn := Try.f23) Try.func23 h23 (args := [(.int .i64 s), (.agg #[(.int .i64 p_0), (.int .i64 p_1)])]) (by rw [F23_link]; exact hF_)

/-! tiltyard/grid.Cells -/
def h24 : Hint := (.s .d (.s .d (.s (.o (ofL [0, 1, 2, 3, 4, 5, 6, 7, 8, 9, 10, 11, 12, 14, 15, 16, 17, 18, 19, 20, 21, 22, 23, 24, 25, 26, 27, 28, 13, 29, 30, 31] .nil)) (.s (.j [(58, 4)] .d .d) (.s .d (.s .d (.s .d (.s .d (.s (.s .d (.l [(6, 49), (11, 52), (79, 3)] (.s .d (.s .d (.s (.s .d (.s (.s .d (.l [(11, 52), (12, 49), (83, 3)] .d)) .d)) .d))))) .d)))))))))
set_option linter.unusedVariables false in
def F24 (s : Int) (b_0 : Int) (b_1 : Int) (b_2 : Int) (w : World) (Q : Value → World → Prop) : Prop :=
 (nw w (.cells #[(.int .i64 b_0), (.int .i64 b_1), (.int .i64 b_2)] 25) fun r1 w2 => (lv (0 : Int) fun y3 => 
(cl Try.prog 44 #[(.int .i64 s)] w2 fun v4 w5 => asB v4 fun b6 => 
(cond (!b6) (lv (1 : Int) fun y7 => 
(Q (.tuple #[(.slice none 0 0), (.int .i64 y7)]) w5)) (ld w5 (⟨r1, 0, none⟩ : Addr) fun v8 => asI .i64 v8 fun x9 => (ld w5 (Addr.add (⟨r1, 0, none⟩ : Addr) 1) fun v10 => asI .i64 v10 fun x11 => (ld w5 (Addr.add (⟨r1, 0, none⟩ : Addr) 2) fun v12 => asI .i64 v12 fun x13 => (cl Try.prog 38 #[(.agg #[(.int .i64 x9), (.int .i64 x11), (.int .i64 x13)])] w5 fun v14 w15 => asI .i64 v14 fun x16 => 
(cond (x16 != (0 : Int)) (lv (60 : Int) fun y17 => 
(Q (.tuple #[(.slice none 0 0), (.int .i64 y17)]) w15)) 
(dw w15 fun w18 => (ld w18 (⟨r1, 0, none⟩ : Addr) fun v19 => asI .i64 v19 fun x20 => (ld w18 (Addr.add (⟨r1, 0, none⟩ : Addr) 2) fun v21 => asI .i64 v21 fun x22 => (ld w18 (Addr.add (⟨r1, 0, none⟩ : Addr) 1) fun v23 => asI .i64 v23 fun x24 => (ld w18 (Addr.add (⟨r1, 0, none⟩ : Addr) 2) fun v25 => asI .i64 v25 fun x26 => (ld w18 (⟨r1, 0, none⟩ : Addr) fun v27 => asI .i64 v27 fun x28 => (ld w18 (Addr.add (⟨r1, 0, none⟩ : Addr) 2) fun v29 => asI .i64 v29 fun x30 => (ld w18 (Addr.add (⟨r1, 0, none⟩ : Addr) 1) fun v31 => asI .i64 v31 fun x32 => (ld w18 (Addr.add (⟨r1, 0, none⟩ : Addr) 2) fun v33 => asI .i64 v33 fun x34 => (cl Try.prog 45 #[(.int .i64 s), (.int .i64 (IntKind.wrap .i64 (x20 - x22))), (.int .i64 (IntKind.wrap .i64 (x24 - x26)))] w18 fun v35 w36 => asC .f64 v35 fun f37 g38 => (hd w36 (Addr.add (⟨r1, 0, none⟩ : Addr) 2) (.int .i64 x34) (hd w36 (Addr.add (⟨r1, 0, none⟩ : Addr) 1) (.int .i64 x32) (hd w36 (Addr.add (⟨r1, 0, none⟩ : Addr) 2) (.int .i64 x30) (hd w36 (⟨r1, 0, none⟩ : Addr) (.int .i64 x28) (hd w36 (Addr.add (⟨r1, 0, none⟩ : Addr) 2) (.int .i64 x26) (hd w36 (Addr.add (⟨r1, 0, none⟩ : Addr) 1) (.int .i64 x24) (hd w36 (Addr.add (⟨r1, 0, none⟩ : Addr) 2) (.int .i64 x22) (hd w36 (⟨r1, 0, none⟩ : Addr) (.int .i64 x20) (cl Try.prog 45 #[(.int .i64 s), (.int .i64 (IntKind.wrap .i64 ((IntKind.wrap .i64 (x28 + x30)) - (1 : Int)))), (.int .i64 (IntKind.wrap .i64 ((IntKind.wrap .i64 (x32 + x34)) - (1 : Int))))] w36 fun v39 w40 => asC .f64 v39 fun f41 g42 => (hd w40 (Addr.add (⟨r1, 0, none⟩ : Addr) 2) (.int .i64 x34) (hd w40 (Addr.add (⟨r1, 0, none⟩ : Addr) 1) (.int .i64 x32) (hd w40 (Addr.add (⟨r1, 0, none⟩ : Addr) 2) (.int .i64 x30) (hd w40 (⟨r1, 0, none⟩ : Addr) (.int .i64 x28) (hd w40 (Addr.add (⟨r1, 0, none⟩ : Addr) 2) (.int .i64 x26) (hd w40 (Addr.add (⟨r1, 0, none⟩ : Addr) 1) (.int .i64 x24) (hd w40 (Addr.add (⟨r1, 0, none⟩ : Addr) 2) (.int .i64 x22) (hd w40 (⟨r1, 0, none⟩ : Addr) (.int .i64 x20) 
(jn (fun s43 w44 => asB (s43.getD 0 undef) fun b52 => (cond b52 (lv (40 : Int) fun y53 => 
(Q (.tuple #[(.slice none 0 0), (.int .i64 y53)]) w44)) 
(so ((FloatKind.format .f64).sub f41 f37) fun f54 => so ((FloatKind.format .f64).sub g42 g38) fun g55 => 
(f2i .f64 f54 .i64 fun x56 => (f2i .f64 g55 .i64 fun x57 => (lv (IntKind.wrap .i64 (x56 + (1 : Int))) fun wide_58 => (lv (IntKind.wrap .i64 (x57 + (1 : Int))) fun tall_59 => 

(cond (decide ((IntKind.wrap .i64 (wide_58 * tall_59)) > (1024 : Int))) (lv (2 : Int) fun y60 => 
(Q (.tuple #[(.slice none 0 0), (.int .i64 y60)]) w44)) 
(rn Try.prog (Instr.makeSlice 52 (.int .i64 (0 : Int)) (.int .i64 (IntKind.wrap .i64 (wide_58 * tall_59)))) w44 fun v61 w62 => asS v61 fun p63 n64 c65 => 

(lp [(.complex .f64 f37 g38), (.slice p63 n64 c65), (.int .i64 (0 : Int))] w62 fun J68 s66 w67 => asC .f64 (s66.getD 0 undef) fun f69 g70 => asS (s66.getD 1 undef) fun p71 n72 c73 => asI .i64 (s66.getD 2 undef) fun x74 => 
(cond (decide (x74 < tall_59)) 


(lp [(.slice p71 n72 c73), (.complex .f64 f69 g70), (.int .i64 (0 : Int))] w67 fun J77 s75 w76 => asS (s75.getD 0 undef) fun p78 n79 c80 => asC .f64 (s75.getD 1 undef) fun f81 g82 => asI .i64 (s75.getD 2 undef) fun x83 => 
(cond (decide (x83 < wide_58)) 
(nw w76 (.cells #[(.complex .f64 f81 g82)] 49) fun r84 w85 => (rn Try.prog (Builtin.append_ #[52, 52] 52 #[(.slice p78 n79 c80), (.slice (some (⟨r84, 0, none⟩ : Addr)) 1 1)]) w85 fun v86 w87 => asS v86 fun p88 n89 c90 => 
(so ((FloatKind.format .f64).add f81 4607182418800017408) fun f91 => so ((FloatKind.format .f64).add g82 0) fun g92 => 
(J77 [(.slice p88 n89 c90), (.complex .f64 f91 g92), (.int .i64 (IntKind.wrap .i64 (x83 + (1 : Int))))] w87)))) 
(so ((FloatKind.format .f64).add f69 0) fun f93 => so ((FloatKind.format .f64).add g70 4607182418800017408) fun g94 => 
(J68 [(.complex .f64 f93 g94), (.slice p78 n79 c80), (.int .i64 (IntKind.wrap .i64 (x74 + (1 : Int))))] w76)))) 
(lv (0 : Int) fun y95 => 
(Q (.tuple #[(.slice p71 n72 c73), (.int .i64 y95)]) w67)))))))))))))
 (fun J45 => (cl Try.prog 46 #[(.complex .f64 f37 g38)] w40 fun v46 w47 => asB v46 fun b48 => (cond (!b48) (J45 [(.bool true)] w47) (cl Try.prog 46 #[(.complex .f64 f41 g42)] w47 fun v49 w50 => asB v49 fun b51 => (J45 [(.bool (!b51))] w50))))))))))))))))))))))))))))))))))))))))))
theorem F24_link (s : Int) (b_0 : Int) (b_1 : Int) (b_2 : Int) (w : World) (Q : Value → World → Prop) : fnEv Try.prog Try.f24 h24 [(.int .i64 s), (.agg #[(.int .i64 b_0), (.int .i64 b_1), (.int .i64 b_2)])] w Q = F24 s b_0 b_1 b_2 w Q := by kernel_rfl
theorem F24_calls {s : Int} {b_0 : Int} {b_1 : Int} {b_2 : Int} {w : World} {Q : Value → World → Prop} (hF_ : F24 s b_0 b_1 b_2 w Q) : cl Try.prog 24 #[(.int .i64 s), (.agg #[(.int .i64 b_0), (.int .i64 b_1), (.int .i64 b_2)])] w Q :=
  calls_of_ev (fn := Try.f24) Try.func24 h24 (args := [(.int .i64 s), (.agg #[(.int .i64 b_0), (.int .i64 b_1), (.int .i64 b_2)])]) (by rw [F24_link]; exact hF_)

/-! tiltyard/tiltyardref18.Cell -/
def h25 : Hint := (.s .d (.s .d (.s .d (.s .d (.s .d (.s .d (.s .d (.s (.j [(33, 4)] .d .d) .d))))))))
set_option linter.unusedVariables false in
def F25 (side : Int) (p_0 : Int) (p_1 : Int) (w : World) (Q : Value → World → Prop) : Prop :=
 (nw w (.cells #[(.int .i64 p_0), (.int .i64 p_1)] 23) fun r1 w2 => (nw w2 (.cells #[(.int .i64 (0 : Int)), (.int .i64 (0 : Int))] 55) fun r3 w4 => (lv (0 : Int) fun y5 => 
(cl Try.prog 47 #[(.int .i64 side)] w4 fun v6 w7 => asB v6 fun b8 => 

(cond (!b8) (st w7 (⟨r3, 0, none⟩ : Addr) (.int .i64 (0 : Int)) fun w9 => (st w9 (Addr.add (⟨r3, 0, none⟩ : Addr) 1) (.int .i64 (0 : Int)) fun w10 => (lv (1 : Int) fun y11 => 
(ld w10 (⟨r3, 0, none⟩ : Addr) fun v12 => asI .i64 v12 fun x13 => (ld w10 (Addr.add (⟨r3, 0, none⟩ : Addr) 1) fun v14 => asI .i64 v14 fun x15 => (Q (.tuple #[(.agg #[(.int .i64 x13), (.int .i64 x15)]), (.int .i64 y11)]) w10)))))) 
(ld w7 (⟨r1, 0, none⟩ : Addr) fun v16 => asI .i64 v16 fun x17 => (cl Try.prog 48 #[(.int .i64 x17), (.int .i64 side)] w7 fun v18 w19 => asI .i64 v18 fun x20 => (lv x20 fun x_21 => 
(ld w19 (Addr.add (⟨r1, 0, none⟩ : Addr) 1) fun v22 => asI .i64 v22 fun x23 => (cl Try.prog 48 #[(.int .i64 x23), (.int .i64 side)] w19 fun v24 w25 => asI .i64 v24 fun x26 => (lv x26 fun y_27 => 
(cl Try.prog 49 #[(.int .i64 x_21)] w25 fun v28 w29 => asB v28 fun b30 => 
(cl Try.prog 49 #[(.int .i64 y_27)] w29 fun v31 w32 => asB v31 fun b33 => 
(jn (fun s34 w35 => asB (s34.getD 0 undef) fun b37 => (cond b37 (st w35 (⟨r3, 0, none⟩ : Addr) (.int .i64 (0 : Int)) fun w38 => (st w38 (Addr.add (⟨r3, 0, none⟩ : Addr) 1) (.int .i64 (0 : Int)) fun w39 => (lv (40 : Int) fun y40 => 
(ld w39 (⟨r3, 0, none⟩ : Addr) fun v41 => asI .i64 v41 fun x42 => (ld w39 (Addr.add (⟨r3, 0, none⟩ : Addr) 1) fun v43 => asI .i64 v43 fun x44 => (Q (.tuple #[(.agg #[(.int .i64 x42), (.int .i64 x44)]), (.int .i64 y40)]) w39)))))) 
(st w35 (⟨r3, 0, none⟩ : Addr) (.int .i64 x_21) fun w45 => (st w45 (Addr.add (⟨r3, 0, none⟩ : Addr) 1) (.int .i64 y_27) fun w46 => (lv (0 : Int) fun y47 => 
(ld w46 (⟨r3, 0, none⟩ : Addr) fun v48 => asI .i64 v48 fun x49 => (ld w46 (Addr.add (⟨r3, 0, none⟩ : Addr) 1) fun v50 => asI .i64 v50 fun x51 => (Q (.tuple #[(.agg #[(.int .i64 x49), (.int .i64 x51)]), (.int .i64 y47)]) w46))))))))
 (fun J36 => (cond (!b30) (J36 [(.bool true)] w32) (J36 [(.bool (!b33))] w32)))))))))))))))))
theorem F25_link (side : Int) (p_0 : Int) (p_1 : Int) (w : World) (Q : Value → World → Prop) : fnEv Try.prog Try.f25 h25 [(.int .i64 side), (.agg #[(.int .i64 p_0), (.int .i64 p_1)])] w Q = F25 side p_0 p_1 w Q := by kernel_rfl
theorem F25_calls {side : Int} {p_0 : Int} {p_1 : Int} {w : World} {Q : Value → World → Prop} (hF_ : F25 side p_0 p_1 w Q) : cl Try.prog 25 #[(.int .i64 side), (.agg #[(.int .i64 p_0), (.int .i64 p_1)])] w Q :=
  calls_of_ev (fn := Try.f25) Try.func25 h25 (args := [(.int .i64 side), (.agg #[(.int .i64 p_0), (.int .i64 p_1)])]) (by rw [F25_link]; exact hF_)

/-! tiltyard/tiltyardref18.Cells -/
def h26 : Hint := (.s .d (.s .d (.s .d (.s .d (.s .d (.s .d (.s .d (.s .d (.s .d (.j [(12, 4)] .d (.j [(13, 4)] .d (.s (.j [(76, 4)] .d .d) (.s .d (.s .d (.s (.s .d (.l [(14, 58), (15, 3)] (.s .d (.s (.s .d (.l [(14, 58), (16, 3)] .d)) .d)))) .d)))))))))))))))
set_option linter.unusedVariables false in
def F26 (side : Int) (b_0 : Int) (b_1 : Int) (b_2 : Int) (w : World) (Q : Value → World → Prop) : Prop :=
 (nw w (.cells #[(.int .i64 b_0), (.int .i64 b_1), (.int .i64 b_2)] 25) fun r1 w2 => (lv (0 : Int) fun y3 => 
(cl Try.prog 47 #[(.int .i64 side)] w2 fun v4 w5 => asB v4 fun b6 => 

(cond (!b6) (lv (1 : Int) fun y7 => 
(Q (.tuple #[(.slice none 0 0), (.int .i64 y7)]) w5)) 
(ld w5 (⟨r1, 0, none⟩ : Addr) fun v8 => asI .i64 v8 fun x9 => (ld w5 (Addr.add (⟨r1, 0, none⟩ : Addr) 1) fun v10 => asI .i64 v10 fun x11 => (ld w5 (Addr.add (⟨r1, 0, none⟩ : Addr) 2) fun v12 => asI .i64 v12 fun x13 => (cl Try.prog 50 #[(.agg #[(.int .i64 x9), (.int .i64 x11), (.int .i64 x13)])] w5 fun v14 w15 => asB v14 fun b16 => 

(cond (!b16) (lv (60 : Int) fun y17 => 
(Q (.tuple #[(.slice none 0 0), (.int .i64 y17)]) w15)) 
(ld w15 (⟨r1, 0, none⟩ : Addr) fun v18 => asI .i64 v18 fun x19 => (ld w15 (Addr.add (⟨r1, 0, none⟩ : Addr) 2) fun v20 => asI .i64 v20 fun x21 => (cl Try.prog 48 #[(.int .i64 (IntKind.wrap .i64 (x19 - x21))), (.int .i64 side)] w15 fun v22 w23 => asI .i64 v22 fun x24 => (lv x24 fun x_25 => 
(ld w23 (Addr.add (⟨r1, 0, none⟩ : Addr) 1) fun v26 => asI .i64 v26 fun x27 => (ld w23 (Addr.add (⟨r1, 0, none⟩ : Addr) 2) fun v28 => asI .i64 v28 fun x29 => (cl Try.prog 48 #[(.int .i64 (IntKind.wrap .i64 (x27 - x29))), (.int .i64 side)] w23 fun v30 w31 => asI .i64 v30 fun x32 => (lv x32 fun y_33 => 
(ld w31 (⟨r1, 0, none⟩ : Addr) fun v34 => asI .i64 v34 fun x35 => (ld w31 (Addr.add (⟨r1, 0, none⟩ : Addr) 2) fun v36 => asI .i64 v36 fun x37 => (cl Try.prog 48 #[(.int .i64 (IntKind.wrap .i64 ((IntKind.wrap .i64 (x35 + x37)) - (1 : Int)))), (.int .i64 side)] w31 fun v38 w39 => asI .i64 v38 fun x40 => (lv x40 fun u_41 => 
(ld w39 (Addr.add (⟨r1, 0, none⟩ : Addr) 1) fun v42 => asI .i64 v42 fun x43 => (ld w39 (Addr.add (⟨r1, 0, none⟩ : Addr) 2) fun v44 => asI .i64 v44 fun x45 => (cl Try.prog 48 #[(.int .i64 (IntKind.wrap .i64 ((IntKind.wrap .i64 (x43 + x45)) - (1 : Int)))), (.int .i64 side)] w39 fun v46 w47 => asI .i64 v46 fun x48 => (lv x48 fun v_49 => 
(jn (fun s50 w51 => asB (s50.getD 0 undef) fun b59 => (jn (fun s60 w61 => asB (s60.getD 0 undef) fun b69 => (jn (fun s70 w71 => asB (s70.getD 0 undef) fun b73 => (cond b73 (lv (40 : Int) fun y74 => 
(Q (.tuple #[(.slice none 0 0), (.int .i64 y74)]) w71)) 

(cond (decide ((IntKind.wrap .i64 ((IntKind.wrap .i64 ((IntKind.wrap .i64 (u_41 - x_25)) + (1 : Int))) * (IntKind.wrap .i64 ((IntKind.wrap .i64 (v_49 - y_33)) + (1 : Int))))) > (1024 : Int))) (lv (2 : Int) fun y75 => 
(Q (.tuple #[(.slice none 0 0), (.int .i64 y75)]) w71)) 

(lv y_33 fun j_76 => 
(lp [(.slice none 0 0), (.int .i64 j_76)] w71 fun J79 s77 w78 => asS (s77.getD 0 undef) fun p80 n81 c82 => asI .i64 (s77.getD 1 undef) fun x83 => 
(cond (decide (x83 ≤ v_49)) 
(lv x_25 fun i_84 => 
(lp [(.slice p80 n81 c82), (.int .i64 i_84)] w78 fun J87 s85 w86 => asS (s85.getD 0 undef) fun p88 n89 c90 => asI .i64 (s85.getD 1 undef) fun x91 => 
(cond (decide (x91 ≤ u_41)) 
(nw w86 (.cells #[(.int .i64 x91), (.int .i64 x83)] 55) fun r92 w93 => (rn Try.prog (Builtin.append_ #[58, 58] 58 #[(.slice p88 n89 c90), (.slice (some (⟨r92, 0, none⟩ : Addr)) 1 1)]) w93 fun v94 w95 => asS v94 fun p96 n97 c98 => 
(lv (IntKind.wrap .i64 (x91 + (1 : Int))) fun i_99 => (J87 [(.slice p96 n97 c98), (.int .i64 i_99)] w95)))) 
(lv (IntKind.wrap .i64 (x83 + (1 : Int))) fun j_100 => (J79 [(.slice p88 n89 c90), (.int .i64 j_100)] w86))))) 
(lv (0 : Int) fun y101 => 
(Q (.tuple #[(.slice p80 n81 c82), (.int .i64 y101)]) w78))))))))
 (fun J72 => (cond (!b59) (J72 [(.bool true)] w61) (J72 [(.bool (!b69))] w61)))))
 (fun J62 => (cl Try.prog 49 #[(.int .i64 u_41)] w51 fun v63 w64 => asB v63 fun b65 => (cond b65 (cl Try.prog 49 #[(.int .i64 v_49)] w64 fun v66 w67 => asB v66 fun b68 => (J62 [(.bool b68)] w67)) (J62 [(.bool false)] w64))))))
 (fun J52 => (cl Try.prog 49 #[(.int .i64 x_25)] w47 fun v53 w54 => asB v53 fun b55 => (cond b55 (cl Try.prog 49 #[(.int .i64 y_33)] w54 fun v56 w57 => asB v56 fun b58 => (J52 [(.bool b58)] w57)) (J52 [(.bool false)] w54))))))))))))))))))))))))))))))
theorem F26_link (side : Int) (b_0 : Int) (b_1 : Int) (b_2 : Int) (w : World) (Q : Value → World → Prop) : fnEv Try.prog Try.f26 h26 [(.int .i64 side), (.agg #[(.int .i64 b_0), (.int .i64 b_1), (.int .i64 b_2)])] w Q = F26 side b_0 b_1 b_2 w Q := by kernel_rfl
theorem F26_calls {side : Int} {b_0 : Int} {b_1 : Int} {b_2 : Int} {w : World} {Q : Value → World → Prop} (hF_ : F26 side b_0 b_1 b_2 w Q) : cl Try.prog 26 #[(.int .i64 side), (.agg #[(.int .i64 b_0), (.int .i64 b_1), (.int .i64 b_2)])] w Q :=
  calls_of_ev (fn := Try.f26) Try.func26 h26 (args := [(.int .i64 side), (.agg #[(.int .i64 b_0), (.int .i64 b_1), (.int .i64 b_2)])]) (by rw [F26_link]; exact hF_)

/-! tiltyard/tiltyardlaw18.cell -/
def h27 : Hint := .d
set_option linter.unusedVariables false in
def F27 (p_0 : Int) (p_1 : Int) (w : World) (Q : Value → World → Prop) : Prop :=
 (nw w (.cells #[(.int .i64 p_0), (.int .i64 p_1)] 55) fun r1 w2 => 
(ld w2 (⟨r1, 0, none⟩ : Addr) fun v3 => asI .i64 v3 fun x4 => (ld w2 (Addr.add (⟨r1, 0, none⟩ : Addr) 1) fun v5 => asI .i64 v5 fun x6 => 
(Q (.complex .f64 (FloatKind.nearest .f64 x4) (FloatKind.nearest .f64 x6)) w2))))
theorem F27_link (p_0 : Int) (p_1 : Int) (w : World) (Q : Value → World → Prop) : fnEv Try.prog Try.f27 h27 [(.agg #[(.int .i64 p_0), (.int .i64 p_1)])] w Q = F27 p_0 p_1 w Q := by kernel_rfl
theorem F27_calls {p_0 : Int} {p_1 : Int} {w : World} {Q : Value → World → Prop} (hF_ : F27 p_0 p_1 w Q) : cl Try.prog 27 #[(.agg #[(.int .i64 p_0), (.int .i64 p_1)])] w Q :=
  calls_of_ev (fn := Try.f27) Try.func27 h27 (args := [(.agg #[(.int .i64 p_0), (.int .i64 p_1)])]) (by rw [F27_link]; exact hF_)

/-! tiltyard/box.Meet -/
def h28 : Hint := (.s .d (.s .d (.j [(4, 4), (5, 31)] .d .d)))
set_option linter.unusedVariables false in
def F28 (a_0 : Int) (a_1 : Int) (a_2 : Int) (b_0 : Int) (b_1 : Int) (b_2 : Int) (w : World) (Q : Value → World → Prop) : Prop :=
 (nw w (.cells #[(.int .i64 a_0), (.int .i64 a_1), (.int .i64 a_2)] 25) fun r1 w2 => (nw w2 (.cells #[(.int .i64 b_0), (.int .i64 b_1), (.int .i64 b_2)] 25) fun r3 w4 => (lv (0 : Int) fun y5 => 
(ld w4 (⟨r1, 0, none⟩ : Addr) fun v6 => asI .i64 v6 fun x7 => (ld w4 (Addr.add (⟨r1, 0, none⟩ : Addr) 1) fun v8 => asI .i64 v8 fun x9 => (ld w4 (Addr.add (⟨r1, 0, none⟩ : Addr) 2) fun v10 => asI .i64 v10 fun x11 => (ld w4 (⟨r3, 0, none⟩ : Addr) fun v12 => asI .i64 v12 fun x13 => (ld w4 (Addr.add (⟨r3, 0, none⟩ : Addr) 1) fun v14 => asI .i64 v14 fun x15 => (ld w4 (Addr.add (⟨r3, 0, none⟩ : Addr) 2) fun v16 => asI .i64 v16 fun x17 => (cl Try.prog 51 #[(.agg #[(.int .i64 x7), (.int .i64 x9), (.int .i64 x11)]), (.agg #[(.int .i64 x13), (.int .i64 x15), (.int .i64 x17)])] w4 fun v18 w19 => asT 3 v18 fun t20 => asI .i64 (t20 0) fun x21 => asI .i64 (t20 1) fun x22 => asI .i64 (t20 2) fun x23 => (lv x21 fun x_24 => (lv x22 fun y_25 => (lv x23 fun e_26 => 
(jn (fun s27 w28 => asB (s27.getD 0 undef) fun b32 => asI .i64 (s27.getD 1 undef) fun x33 => (Q (.tuple #[(.bool b32), (.int .i64 x33)]) w28))
 (fun J29 => (cond (decide (x_24 < (0 : Int))) (lv e_26 fun y30 => (J29 [(.bool (decide (y_25 < (0 : Int)))), (.int .i64 y30)] w19)) (lv e_26 fun y31 => (J29 [(.bool false), (.int .i64 y31)] w19))))))))))))))))))
theorem F28_link (a_0 : Int) (a_1 : Int) (a_2 : Int) (b_0 : Int) (b_1 : Int) (b_2 : Int) (w : World) (Q : Value → World → Prop) : fnEv Try.prog Try.f28 h28 [(.agg #[(.int .i64 a_0), (.int .i64 a_1), (.int .i64 a_2)]), (.agg #[(.int .i64 b_0), (.int .i64 b_1), (.int .i64 b_2)])] w Q = F28 a_0 a_1 a_2 b_0 b_1 b_2 w Q := by kernel_rfl
theorem F28_calls {a_0 : Int} {a_1 : Int} {a_2 : Int} {b_0 : Int} {b_1 : Int} {b_2 : Int} {w : World} {Q : Value → World → Prop} (hF_ : F28 a_0 a_1 a_2 b_0 b_1 b_2 w Q) : cl Try.prog 28 #[(.agg #[(.int .i64 a_0), (.int .i64 a_1), (.int .i64 a_2)]), (.agg #[(.int .i64 b_0), (.int .i64 b_1), (.int .i64 b_2)])] w Q :=
  calls_of_ev (fn := Try.f28) Try.func28 h28 (args := [(.agg #[(.int .i64 a_0), (.int .i64 a_1), (.int .i64 a_2)]), (.agg #[(.int .i64 b_0), (.int .i64 b_1), (.int .i64 b_2)])]) (by rw [F28_link]; exact hF_)

/-! tiltyard/grid.New -/
def h29 : Hint := .d
set_option linter.unusedVariables false in
def F29 (s : Int) (w : World) (Q : Value → World → Prop) : Prop :=
 (lv (0 : Int) fun y1 => 
(cl Try.prog 44 #[(.int .i64 s)] w fun v2 w3 => asB v2 fun b4 => 
(cond (!b4) (lv (1 : Int) fun y5 => 
(Q (.tuple #[(.pointer none), (.int .i64 y5)]) w3)) 
(rn Try.prog (Instr.makeMap 114 none) w3 fun v6 w7 => asM v6 fun r8 => (rn Try.prog (Instr.makeMap 115 none) w7 fun v9 w10 => asM v9 fun r11 => (nw w10 (.cells #[(.int .i64 s), (.map r8), (.map r11)] 117) fun r12 w13 => (lv (0 : Int) fun y14 => 
(Q (.tuple #[(.pointer (some (⟨r12, 0, none⟩ : Addr))), (.int .i64 y14)]) w13))))))))
theorem F29_link (s : Int) (w : World) (Q : Value → World → Prop) : fnEv Try.prog Try.f29 h29 [(.int .i64 s)] w Q = F29 s w Q := by kernel_rfl
theorem F29_calls {s : Int} {w : World} {Q : Value → World → Prop} (hF_ : F29 s w Q) : cl Try.prog 29 #[(.int .i64 s)] w Q :=
  calls_of_ev (fn := Try.f29) Try.func29 h29 (args := [(.int .i64 s)]) (by rw [F29_link]; exact hF_)

/-! (*tiltyard/grid.Grid).Put -/
def h30 : Hint := (.s .d (.s .d (.s .d (.s (.o (ofL [0, 1, 2, 3, 4, 5, 6, 7, 8, 9, 10] .nil)) .d))))
set_option linter.unusedVariables false in
def F30 (g : Option Addr) (id : Int) (b_0 : Int) (b_1 : Int) (b_2 : Int) (w : World) (Q : Value → World → Prop) : Prop :=
 (nw w (.cells #[(.int .i64 b_0), (.int .i64 b_1), (.int .i64 b_2)] 25) fun r1 w2 => (lv (0 : Int) fun y3 => 

(cond (decide (id < (0 : Int))) (lv (1 : Int) fun y4 => 
(Q (.int .i64 y4) w2)) 
(dr g fun a5 => (ld w2 (Addr.add a5 1) fun v6 => asM v6 fun r7 => (rq Try.prog (Instr.lookup 114 (.map r7) (.int .i64 id) true) w2 fun v8 => asT 2 v8 fun t9 => asA 3 (t9 0) fun a10 => asI .i64 (a10 0) fun x11 => asI .i64 (a10 1) fun x12 => asI .i64 (a10 2) fun x13 => asB (t9 1) fun b14 => (nw w2 (.cells #[(.int .i64 (0 : Int)), (.int .i64 (0 : Int)), (.int .i64 (0 : Int))] 25) fun r15 w16 => (st w16 (⟨r15, 0, none⟩ : Addr) (.int .i64 x11) fun w17 => (st w17 (Addr.add (⟨r15, 0, none⟩ : Addr) 1) (.int .i64 x12) fun w18 => (st w18 (Addr.add (⟨r15, 0, none⟩ : Addr) 2) (.int .i64 x13) fun w19 => 

(cond b14 (lv (180 : Int) fun y20 => 
(Q (.int .i64 y20) w19)) 
(dw w19 fun w21 => (dr g fun a22 => (ld w21 a22 fun v23 => asI .i64 v23 fun x24 => (ld w21 (⟨r1, 0, none⟩ : Addr) fun v25 => asI .i64 v25 fun x26 => (ld w21 (Addr.add (⟨r1, 0, none⟩ : Addr) 1) fun v27 => asI .i64 v27 fun x28 => (ld w21 (Addr.add (⟨r1, 0, none⟩ : Addr) 2) fun v29 => asI .i64 v29 fun x30 => (cl Try.prog 24 #[(.int .i64 x24), (.agg #[(.int .i64 x26), (.int .i64 x28), (.int .i64 x30)])] w21 fun v31 w32 => asT 2 v31 fun t33 => asS (t33 0) fun p34 n35 c36 => asI .i64 (t33 1) fun x37 => (lv x37 fun e_38 => 

(cond (e_38 != (0 : Int)) (lv e_38 fun y39 => 
(Q (.int .i64 y39) w32)) 
(ld w32 (⟨r1, 0, none⟩ : Addr) fun v40 => asI .i64 v40 fun x41 => (ld w32 (Addr.add (⟨r1, 0, none⟩ : Addr) 1) fun v42 => asI .i64 v42 fun x43 => (ld w32 (Addr.add (⟨r1, 0, none⟩ : Addr) 2) fun v44 => asI .i64 v44 fun x45 => (cl Try.prog 52 #[(.pointer g), (.int .i64 id), (.agg #[(.int .i64 x41), (.int .i64 x43), (.int .i64 x45)]), (.slice p34 n35 c36)] w32 fun v46 w47 => 
(lv (0 : Int) fun y48 => 
(Q (.int .i64 y48) w47))))))))))))))))))))))))))
theorem F30_link (g : Option Addr) (id : Int) (b_0 : Int) (b_1 : Int) (b_2 : Int) (w : World) (Q : Value → World → Prop) : fnEv Try.prog Try.f30 h30 [(.pointer g), (.int .i64 id), (.agg #[(.int .i64 b_0), (.int .i64 b_1), (.int .i64 b_2)])] w Q = F30 g id b_0 b_1 b_2 w Q := by kernel_rfl
theorem F30_calls {g : Option Addr} {id : Int} {b_0 : Int} {b_1 : Int} {b_2 : Int} {w : World} {Q : Value → World → Prop} (hF_ : F30 g id b_0 b_1 b_2 w Q) : cl Try.prog 30 #[(.pointer g), (.int .i64 id), (.agg #[(.int .i64 b_0), (.int .i64 b_1), (.int .i64 b_2)])] w Q :=
  calls_of_ev (fn := Try.f30) Try.func30 h30 (args := [(.pointer g), (.int .i64 id), (.agg #[(.int .i64 b_0), (.int .i64 b_1), (.int .i64 b_2)])]) (by rw [F30_link]; exact hF_)

/-! (*tiltyard/grid.Grid).Near -/
def h31 : Hint := (.s .d (.s (.o (ofL [0, 1, 2, 3, 4, 5, 6, 7, 8, 9, 10] .nil)) (.s .d (.s .d (.s (.s .d (.l [(30, 3)] (.s .d (.s .d (.s (.s .d (.s .d (.l [(41, 3)] (.s .d (.s .d (.j [] (.s .d (.s (.o (ofL [0, 1, 2, 3, 4, 5, 6, 7, 8, 9, 10, 11, 12] .nil)) .d)) .d)))))) .d))))) .d)))))
set_option linter.unusedVariables false in
def F31 (g : Option Addr) (b_0 : Int) (b_1 : Int) (b_2 : Int) (w : World) (Q : Value → World → Prop) : Prop :=
 (nw w (.cells #[(.int .i64 b_0), (.int .i64 b_1), (.int .i64 b_2)] 25) fun r1 w2 => (lv (0 : Int) fun y3 => 
(dw w2 fun w4 => (dr g fun a5 => (ld w4 a5 fun v6 => asI .i64 v6 fun x7 => (ld w4 (⟨r1, 0, none⟩ : Addr) fun v8 => asI .i64 v8 fun x9 => (ld w4 (Addr.add (⟨r1, 0, none⟩ : Addr) 1) fun v10 => asI .i64 v10 fun x11 => (ld w4 (Addr.add (⟨r1, 0, none⟩ : Addr) 2) fun v12 => asI .i64 v12 fun x13 => (cl Try.prog 24 #[(.int .i64 x7), (.agg #[(.int .i64 x9), (.int .i64 x11), (.int .i64 x13)])] w4 fun v14 w15 => asT 2 v14 fun t16 => asS (t16 0) fun p17 n18 c19 => asI .i64 (t16 1) fun x20 => (lv x20 fun e_21 => 

(cond (e_21 != (0 : Int)) (lv e_21 fun y22 => 
(Q (.tuple #[(.slice none 0 0), (.int .i64 y22)]) w15)) 
(rn Try.prog (Instr.makeMap 120 none) w15 fun v23 w24 => asM v23 fun r25 => 

(lp [(.int .i64 (0 : Int))] w24 fun J28 s26 w27 => asI .i64 (s26.getD 0 undef) fun x29 => 
(cond (decide (x29 < (n18 : Int))) 
(dr p17 fun a30 => (bnd x29 n18 (ld w27 (Addr.add a30 (Int.toNat x29 * 1)) fun v31 => asC .f64 v31 fun f32 g33 => 
(dr g fun a34 => (ld w27 (Addr.add a34 2) fun v35 => asM v35 fun r36 => (rq Try.prog (Instr.lookup 115 (.map r36) (.complex .f64 f32 g33) false) w27 fun v37 => asS v37 fun p38 n39 c40 => 
(lp [(.int .i64 (0 : Int))] w27 fun J43 s41 w42 => asI .i64 (s41.getD 0 undef) fun x44 => 
(cond (decide (x44 < (n39 : Int))) 
(jn (fun s45 w46 => (J43 [(.int .i64 (IntKind.wrap .i64 (x44 + (1 : Int))))] w46))
 (fun J47 => (dr p38 fun a48 => (bnd x44 n39 (ld w42 (Addr.add a48 (Int.toNat x44 * 1)) fun v49 => asI .i64 v49 fun x50 => (lv x50 fun id_51 => 
(dw w42 fun w52 => (dr g fun a53 => (ld w52 (Addr.add a53 1) fun v54 => asM v54 fun r55 => (rq Try.prog (Instr.lookup 114 (.map r55) (.int .i64 id_51) false) w52 fun v56 => asA 3 v56 fun a57 => asI .i64 (a57 0) fun x58 => asI .i64 (a57 1) fun x59 => asI .i64 (a57 2) fun x60 => (ld w52 (⟨r1, 0, none⟩ : Addr) fun v61 => asI .i64 v61 fun x62 => (ld w52 (Addr.add (⟨r1, 0, none⟩ : Addr) 1) fun v63 => asI .i64 v63 fun x64 => (ld w52 (Addr.add (⟨r1, 0, none⟩ : Addr) 2) fun v65 => asI .i64 v65 fun x66 => (cl Try.prog 28 #[(.agg #[(.int .i64 x58), (.int .i64 x59), (.int .i64 x60)]), (.agg #[(.int .i64 x62), (.int .i64 x64), (.int .i64 x66)])] w52 fun v67 w68 => asT 2 v67 fun t69 => asB (t69 0) fun b70 => asI .i64 (t69 1) fun x71 => (hd w68 (Addr.add a53 1) (.map r55) (lv x71 fun __72 => 

(cond b70 (ru Try.prog (Instr.mapUpdate 120 (.map r25) (.int .i64 id_51) (.bool true)) w68 fun w73 => (J47 [] w73)) (J47 [] w68)))))))))))))))))) 
(J28 [(.int .i64 (IntKind.wrap .i64 (x29 + (1 : Int))))] w42))))))))) 
(cl Try.prog 54 #[(.map r25)] w27 fun v74 w75 => asN v74 fun k76 fs77 cs78 => (cl Try.prog 53 #[(.func (.func k76) fs77 cs78)] w75 fun v79 w80 => asS v79 fun p81 n82 c83 => (lv (0 : Int) fun y84 => 
(Q (.tuple #[(.slice p81 n82 c83), (.int .i64 y84)]) w80))))))))))))))))))
theorem F31_link (g : Option Addr) (b_0 : Int) (b_1 : Int) (b_2 : Int) (w : World) (Q : Value → World → Prop) : fnEv Try.prog Try.f31 h31 [(.pointer g), (.agg #[(.int .i64 b_0), (.int .i64 b_1), (.int .i64 b_2)])] w Q = F31 g b_0 b_1 b_2 w Q := by kernel_rfl
theorem F31_calls {g : Option Addr} {b_0 : Int} {b_1 : Int} {b_2 : Int} {w : World} {Q : Value → World → Prop} (hF_ : F31 g b_0 b_1 b_2 w Q) : cl Try.prog 31 #[(.pointer g), (.agg #[(.int .i64 b_0), (.int .i64 b_1), (.int .i64 b_2)])] w Q :=
  calls_of_ev (fn := Try.f31) Try.func31 h31 (args := [(.pointer g), (.agg #[(.int .i64 b_0), (.int .i64 b_1), (.int .i64 b_2)])]) (by rw [F31_link]; exact hF_)

/-! tiltyard/tiltyardref18.New -/
def h32 : Hint := .d
set_option linter.unusedVariables false in
def F32 (side : Int) (w : World) (Q : Value → World → Prop) : Prop :=
 (lv (0 : Int) fun y1 => 
(cl Try.prog 47 #[(.int .i64 side)] w fun v2 w3 => asB v2 fun b4 => 

(cond (!b4) (lv (1 : Int) fun y5 => 
(Q (.tuple #[(.pointer none), (.int .i64 y5)]) w3)) 
(nw w3 (.cells #[(.int .i64 side), (.slice none 0 0), (.slice none 0 0)] 84) fun r6 w7 => (lv (0 : Int) fun y8 => 
(Q (.tuple #[(.pointer (some (⟨r6, 0, none⟩ : Addr))), (.int .i64 y8)]) w7))))))
theorem F32_link (side : Int) (w : World) (Q : Value → World → Prop) : fnEv Try.prog Try.f32 h32 [(.int .i64 side)] w Q = F32 side w Q := by kernel_rfl
theorem F32_calls {side : Int} {w : World} {Q : Value → World → Prop} (hF_ : F32 side w Q) : cl Try.prog 32 #[(.int .i64 side)] w Q :=
  calls_of_ev (fn := Try.f32) Try.func32 h32 (args := [(.int .i64 side)]) (by rw [F32_link]; exact hF_)

/-! tiltyard/tiltyardlaw18.does -/
def h33 : Hint := (.s .d (.s (.s .d (.s .d (.s (.s (.o (ofL [0, 1, 2, 3, 4, 6, 7, 8, 9, 10, 5, 11, 12, 13] .nil)) .d) (.s .d (.s (.s (.o (ofL [0, 1, 2, 3, 4, 6, 7, 8, 9, 10, 5, 11, 12, 13] .nil)) .d) (.s .d (.s (.s (.o (ofL [0, 1, 2, 4, 5, 6, 3, 7, 8, 9] .nil)) .d) (.s .d (.s (.s .d (.s .d (.s .d (.j [(6, 4)] .d .d)))) .d))))))))) .d))
set_option linter.unusedVariables false in
def F33 (g : Option Addr) (x : Option Addr) (a_0 : Int) (a_1 : Int) (a_2 : Int) (a_3 : Int) (a_4 : Int) (w : World) (Q : Value → World → Prop) : Prop :=
 (nw w (.cells #[(.int .i64 a_0), (.int .i64 a_1), (.int .i64 a_2), (.int .i64 a_3), (.int .i64 a_4)] 80) fun r1 w2 => 
(ld w2 (⟨r1, 0, none⟩ : Addr) fun v3 => asI .i64 v3 fun x4 => 

(cond (x4 == (0 : Int)) (dw w2 fun w5 => (ld w5 (Addr.add (⟨r1, 0, none⟩ : Addr) 1) fun v6 => asI .i64 v6 fun x7 => (ld w5 (Addr.add (⟨r1, 0, none⟩ : Addr) 2) fun v8 => asI .i64 v8 fun x9 => (ld w5 (Addr.add (Addr.add (⟨r1, 0, none⟩ : Addr) 2) 1) fun v10 => asI .i64 v10 fun x11 => (ld w5 (Addr.add (Addr.add (⟨r1, 0, none⟩ : Addr) 2) 2) fun v12 => asI .i64 v12 fun x13 => (ld w5 (Addr.add (⟨r1, 0, none⟩ : Addr) 1) fun v14 => asI .i64 v14 fun x15 => (ld w5 (Addr.add (⟨r1, 0, none⟩ : Addr) 2) fun v16 => asI .i64 v16 fun x17 => (ld w5 (Addr.add (Addr.add (⟨r1, 0, none⟩ : Addr) 2) 1) fun v18 => asI .i64 v18 fun x19 => (ld w5 (Addr.add (Addr.add (⟨r1, 0, none⟩ : Addr) 2) 2) fun v20 => asI .i64 v20 fun x21 => (cl Try.prog 30 #[(.pointer g), (.int .i64 x7), (.agg #[(.int .i64 x9), (.int .i64 x11), (.int .i64 x13)])] w5 fun v22 w23 => asI .i64 v22 fun x24 => (hd w23 (Addr.add (⟨r1, 0, none⟩ : Addr) 2) (.int .i64 x17) (hd w23 (Addr.add (Addr.add (⟨r1, 0, none⟩ : Addr) 2) 1) (.int .i64 x19) (hd w23 (Addr.add (Addr.add (⟨r1, 0, none⟩ : Addr) 2) 2) (.int .i64 x21) (hd w23 (Addr.add (⟨r1, 0, none⟩ : Addr) 1) (.int .i64 x15) (cl Try.prog 55 #[(.pointer x), (.int .i64 x15), (.agg #[(.int .i64 x17), (.int .i64 x19), (.int .i64 x21)])] w23 fun v25 w26 => asI .i64 v25 fun x27 => 
(Q (.bool (x24 == x27)) w26)))))))))))))))) 
(cond (x4 == (1 : Int)) (dw w2 fun w28 => (ld w28 (Addr.add (⟨r1, 0, none⟩ : Addr) 1) fun v29 => asI .i64 v29 fun x30 => (ld w28 (Addr.add (⟨r1, 0, none⟩ : Addr) 2) fun v31 => asI .i64 v31 fun x32 => (ld w28 (Addr.add (Addr.add (⟨r1, 0, none⟩ : Addr) 2) 1) fun v33 => asI .i64 v33 fun x34 => (ld w28 (Addr.add (Addr.add (⟨r1, 0, none⟩ : Addr) 2) 2) fun v35 => asI .i64 v35 fun x36 => (ld w28 (Addr.add (⟨r1, 0, none⟩ : Addr) 1) fun v37 => asI .i64 v37 fun x38 => (ld w28 (Addr.add (⟨r1, 0, none⟩ : Addr) 2) fun v39 => asI .i64 v39 fun x40 => (ld w28 (Addr.add (Addr.add (⟨r1, 0, none⟩ : Addr) 2) 1) fun v41 => asI .i64 v41 fun x42 => (ld w28 (Addr.add (Addr.add (⟨r1, 0, none⟩ : Addr) 2) 2) fun v43 => asI .i64 v43 fun x44 => (cl Try.prog 35 #[(.pointer g), (.int .i64 x30), (.agg #[(.int .i64 x32), (.int .i64 x34), (.int .i64 x36)])] w28 fun v45 w46 => asI .i64 v45 fun x47 => (hd w46 (Addr.add (⟨r1, 0, none⟩ : Addr) 2) (.int .i64 x40) (hd w46 (Addr.add (Addr.add (⟨r1, 0, none⟩ : Addr) 2) 1) (.int .i64 x42) (hd w46 (Addr.add (Addr.add (⟨r1, 0, none⟩ : Addr) 2) 2) (.int .i64 x44) (hd w46 (Addr.add (⟨r1, 0, none⟩ : Addr) 1) (.int .i64 x38) (cl Try.prog 56 #[(.pointer x), (.int .i64 x38), (.agg #[(.int .i64 x40), (.int .i64 x42), (.int .i64 x44)])] w46 fun v48 w49 => asI .i64 v48 fun x50 => 
(Q (.bool (x47 == x50)) w49)))))))))))))))) 
(cond (x4 == (2 : Int)) (dw w2 fun w51 => (ld w51 (Addr.add (⟨r1, 0, none⟩ : Addr) 1) fun v52 => asI .i64 v52 fun x53 => (ld w51 (Addr.add (⟨r1, 0, none⟩ : Addr) 1) fun v54 => asI .i64 v54 fun x55 => (cl Try.prog 36 #[(.pointer g), (.int .i64 x53)] w51 fun v56 w57 => asI .i64 v56 fun x58 => (hd w57 (Addr.add (⟨r1, 0, none⟩ : Addr) 1) (.int .i64 x55) (cl Try.prog 57 #[(.pointer x), (.int .i64 x55)] w57 fun v59 w60 => asI .i64 v59 fun x61 => 
(Q (.bool (x58 == x61)) w60))))))) 
(cond (x4 == (3 : Int)) (ld w2 (Addr.add (⟨r1, 0, none⟩ : Addr) 2) fun v62 => asI .i64 v62 fun x63 => (ld w2 (Addr.add (Addr.add (⟨r1, 0, none⟩ : Addr) 2) 1) fun v64 => asI .i64 v64 fun x65 => (ld w2 (Addr.add (Addr.add (⟨r1, 0, none⟩ : Addr) 2) 2) fun v66 => asI .i64 v66 fun x67 => (cl Try.prog 31 #[(.pointer g), (.agg #[(.int .i64 x63), (.int .i64 x65), (.int .i64 x67)])] w2 fun v68 w69 => asT 2 v68 fun t70 => asS (t70 0) fun p71 n72 c73 => asI .i64 (t70 1) fun x74 => (lv x74 fun e_75 => 
(ld w69 (Addr.add (⟨r1, 0, none⟩ : Addr) 2) fun v76 => asI .i64 v76 fun x77 => (ld w69 (Addr.add (Addr.add (⟨r1, 0, none⟩ : Addr) 2) 1) fun v78 => asI .i64 v78 fun x79 => (ld w69 (Addr.add (Addr.add (⟨r1, 0, none⟩ : Addr) 2) 2) fun v80 => asI .i64 v80 fun x81 => (cl Try.prog 58 #[(.pointer x), (.agg #[(.int .i64 x77), (.int .i64 x79), (.int .i64 x81)])] w69 fun v82 w83 => asT 2 v82 fun t84 => asS (t84 0) fun p85 n86 c87 => asI .i64 (t84 1) fun x88 => (lv x88 fun f_89 => 
(cl Try.prog 59 #[(.slice p71 n72 c73), (.slice p85 n86 c87)] w83 fun v90 w91 => asB v90 fun b92 => 
(jn (fun s93 w94 => asB (s93.getD 0 undef) fun b96 => (Q (.bool b96) w94))
 (fun J95 => (cond b92 (J95 [(.bool (e_75 == f_89))] w91) (J95 [(.bool false)] w91))))))))))))))) 

(Q (.bool true) w2)))))))
theorem F33_link (g : Option Addr) (x : Option Addr) (a_0 : Int) (a_1 : Int) (a_2 : Int) (a_3 : Int) (a_4 : Int) (w : World) (Q : Value → World → Prop) : fnEv Try.prog Try.f33 h33 [(.pointer g), (.pointer x), (.agg #[(.int .i64 a_0), (.int .i64 a_1), (.int .i64 a_2), (.int .i64 a_3), (.int .i64 a_4)])] w Q = F33 g x a_0 a_1 a_2 a_3 a_4 w Q := by kernel_rfl
theorem F33_calls {g : Option Addr} {x : Option Addr} {a_0 : Int} {a_1 : Int} {a_2 : Int} {a_3 : Int} {a_4 : Int} {w : World} {Q : Value → World → Prop} (hF_ : F33 g x a_0 a_1 a_2 a_3 a_4 w Q) : cl Try.prog 33 #[(.pointer g), (.pointer x), (.agg #[(.int .i64 a_0), (.int .i64 a_1), (.int .i64 a_2), (.int .i64 a_3), (.int .i64 a_4)])] w Q :=
  calls_of_ev (fn := Try.f33) Try.func33 h33 (args := [(.pointer g), (.pointer x), (.agg #[(.int .i64 a_0), (.int .i64 a_1), (.int .i64 a_2), (.int .i64 a_3), (.int .i64 a_4)])]) (by rw [F33_link]; exact hF_)

/-! (*tiltyard/grid.Grid).Count -/
def h34 : Hint := .d
set_option linter.unusedVariables false in
def F34 (g : Option Addr) (w : World) (Q : Value → World → Prop) : Prop :=
 (lv (0 : Int) fun y1 => 
(dr g fun a2 => (ld w (Addr.add a2 1) fun v3 => asM v3 fun r4 => (rq Try.prog (Builtin.len_ #[114] 3 #[(.map r4)]) w fun v5 => asI .i64 v5 fun x6 => (lv x6 fun y7 => 
(Q (.int .i64 y7) w))))))
theorem F34_link (g : Option Addr) (w : World) (Q : Value → World → Prop) : fnEv Try.prog Try.f34 h34 [(.pointer g)] w Q = F34 g w Q := by kernel_rfl
theorem F34_calls {g : Option Addr} {w : World} {Q : Value → World → Prop} (hF_ : F34 g w Q) : cl Try.prog 34 #[(.pointer g)] w Q :=
  calls_of_ev (fn := Try.f34) Try.func34 h34 (args := [(.pointer g)]) (by rw [F34_link]; exact hF_)

/-! (*tiltyard/grid.Grid).Move -/
def h35 : Hint := (.s .d (.s .d (.s (.o (ofL [0, 1, 2, 3, 4, 5, 6, 7, 8, 9, 10] .nil)) .d)))
set_option linter.unusedVariables false in
def F35 (g : Option Addr) (id : Int) (b_0 : Int) (b_1 : Int) (b_2 : Int) (w : World) (Q : Value → World → Prop) : Prop :=
 (nw w (.cells #[(.int .i64 b_0), (.int .i64 b_1), (.int .i64 b_2)] 25) fun r1 w2 => (lv (0 : Int) fun y3 => 
(dr g fun a4 => (ld w2 (Addr.add a4 1) fun v5 => asM v5 fun r6 => (rq Try.prog (Instr.lookup 114 (.map r6) (.int .i64 id) true) w2 fun v7 => asT 2 v7 fun t8 => asA 3 (t8 0) fun a9 => asI .i64 (a9 0) fun x10 => asI .i64 (a9 1) fun x11 => asI .i64 (a9 2) fun x12 => asB (t8 1) fun b13 => (nw w2 (.cells #[(.int .i64 (0 : Int)), (.int .i64 (0 : Int)), (.int .i64 (0 : Int))] 25) fun r14 w15 => (st w15 (⟨r14, 0, none⟩ : Addr) (.int .i64 x10) fun w16 => (st w16 (Addr.add (⟨r14, 0, none⟩ : Addr) 1) (.int .i64 x11) fun w17 => (st w17 (Addr.add (⟨r14, 0, none⟩ : Addr) 2) (.int .i64 x12) fun w18 => 

(cond (!b13) (lv (181 : Int) fun y19 => 
(Q (.int .i64 y19) w18)) 
(dw w18 fun w20 => (dr g fun a21 => (ld w20 a21 fun v22 => asI .i64 v22 fun x23 => (ld w20 (⟨r1, 0, none⟩ : Addr) fun v24 => asI .i64 v24 fun x25 => (ld w20 (Addr.add (⟨r1, 0, none⟩ : Addr) 1) fun v26 => asI .i64 v26 fun x27 => (ld w20 (Addr.add (⟨r1, 0, none⟩ : Addr) 2) fun v28 => asI .i64 v28 fun x29 => (cl Try.prog 24 #[(.int .i64 x23), (.agg #[(.int .i64 x25), (.int .i64 x27), (.int .i64 x29)])] w20 fun v30 w31 => asT 2 v30 fun t32 => asS (t32 0) fun p33 n34 c35 => asI .i64 (t32 1) fun x36 => (lv x36 fun e_37 => 

(cond (e_37 != (0 : Int)) (lv e_37 fun y38 => 
(Q (.int .i64 y38) w31)) 
(cl Try.prog 60 #[(.pointer g), (.int .i64 id)] w31 fun v39 w40 => 
(ld w40 (⟨r1, 0, none⟩ : Addr) fun v41 => asI .i64 v41 fun x42 => (ld w40 (Addr.add (⟨r1, 0, none⟩ : Addr) 1) fun v43 => asI .i64 v43 fun x44 => (ld w40 (Addr.add (⟨r1, 0, none⟩ : Addr) 2) fun v45 => asI .i64 v45 fun x46 => (cl Try.prog 52 #[(.pointer g), (.int .i64 id), (.agg #[(.int .i64 x42), (.int .i64 x44), (.int .i64 x46)]), (.slice p33 n34 c35)] w40 fun v47 w48 => 
(lv (0 : Int) fun y49 => 
(Q (.int .i64 y49) w48))))))))))))))))))))))))))
theorem F35_link (g : Option Addr) (id : Int) (b_0 : Int) (b_1 : Int) (b_2 : Int) (w : World) (Q : Value → World → Prop) : fnEv Try.prog Try.f35 h35 [(.pointer g), (.int .i64 id), (.agg #[(.int .i64 b_0), (.int .i64 b_1), (.int .i64 b_2)])] w Q = F35 g id b_0 b_1 b_2 w Q := by kernel_rfl
theorem F35_calls {g : Option Addr} {id : Int} {b_0 : Int} {b_1 : Int} {b_2 : Int} {w : World} {Q : Value → World → Prop} (hF_ : F35 g id b_0 b_1 b_2 w Q) : cl Try.prog 35 #[(.pointer g), (.int .i64 id), (.agg #[(.int .i64 b_0), (.int .i64 b_1), (.int .i64 b_2)])] w Q :=
  calls_of_ev (fn := Try.f35) Try.func35 h35 (args := [(.pointer g), (.int .i64 id), (.agg #[(.int .i64 b_0), (.int .i64 b_1), (.int .i64 b_2)])]) (by rw [F35_link]; exact hF_)

/-! (*tiltyard/grid.Grid).Drop -/
def h36 : Hint := .d
set_option linter.unusedVariables false in
def F36 (g : Option Addr) (id : Int) (w : World) (Q : Value → World → Prop) : Prop :=
 (lv (0 : Int) fun y1 => 
(dr g fun a2 => (ld w (Addr.add a2 1) fun v3 => asM v3 fun r4 => (rq Try.prog (Instr.lookup 114 (.map r4) (.int .i64 id) true) w fun v5 => asT 2 v5 fun t6 => asA 3 (t6 0) fun a7 => asI .i64 (a7 0) fun x8 => asI .i64 (a7 1) fun x9 => asI .i64 (a7 2) fun x10 => asB (t6 1) fun b11 => (nw w (.cells #[(.int .i64 (0 : Int)), (.int .i64 (0 : Int)), (.int .i64 (0 : Int))] 25) fun r12 w13 => (st w13 (⟨r12, 0, none⟩ : Addr) (.int .i64 x8) fun w14 => (st w14 (Addr.add (⟨r12, 0, none⟩ : Addr) 1) (.int .i64 x9) fun w15 => (st w15 (Addr.add (⟨r12, 0, none⟩ : Addr) 2) (.int .i64 x10) fun w16 => 

(cond (!b11) (lv (181 : Int) fun y17 => 
(Q (.int .i64 y17) w16)) 
(cl Try.prog 60 #[(.pointer g), (.int .i64 id)] w16 fun v18 w19 => 
(lv (0 : Int) fun y20 => 
(Q (.int .i64 y20) w19))))))))))))
theorem F36_link (g : Option Addr) (id : Int) (w : World) (Q : Value → World → Prop) : fnEv Try.prog Try.f36 h36 [(.pointer g), (.int .i64 id)] w Q = F36 g id w Q := by kernel_rfl
theorem F36_calls {g : Option Addr} {id : Int} {w : World} {Q : Value → World → Prop} (hF_ : F36 g id w Q) : cl Try.prog 36 #[(.pointer g), (.int .i64 id)] w Q :=
  calls_of_ev (fn := Try.f36) Try.func36 h36 (args := [(.pointer g), (.int .i64 id)]) (by rw [F36_link]; exact hF_)

/-! (*tiltyard/world.World).Near -/
def h37 : Hint := (.s .d (.s .d (.s .d (.s (.o (ofL [0, 1, 2, 3, 4, 5, 6, 7, 8, 9, 10] .nil)) (.j [(8, 38)] (.s .d (.s (.s .d (.l [(8, 38), (32, 3)] .d)) .d)) (.s (.s .d (.l [(7, 38), (42, 3)] (.s .d (.s .d (.j [(7, 38)] (.s .d (.s .d (.s .d (.j [(64, 4)] .d .d)))) .d))))) .d))))))
set_option linter.unusedVariables false in
def F37 (w' : Option Addr) (b_0 : Int) (b_1 : Int) (b_2 : Int) (w : World) (Q : Value → World → Prop) : Prop :=
 (nw w (.cells #[(.int .i64 b_0), (.int .i64 b_1), (.int .i64 b_2)] 25) fun r1 w2 => (lv (0 : Int) fun y3 => 
(ld w2 (⟨r1, 0, none⟩ : Addr) fun v4 => asI .i64 v4 fun x5 => (ld w2 (Addr.add (⟨r1, 0, none⟩ : Addr) 1) fun v6 => asI .i64 v6 fun x7 => (ld w2 (Addr.add (⟨r1, 0, none⟩ : Addr) 2) fun v8 => asI .i64 v8 fun x9 => (cl Try.prog 38 #[(.agg #[(.int .i64 x5), (.int .i64 x7), (.int .i64 x9)])] w2 fun v10 w11 => asI .i64 v10 fun x12 => (lv x12 fun e_13 => 

(cond (e_13 != (0 : Int)) (lv e_13 fun y14 => 
(Q (.tuple #[(.slice none 0 0), (.int .i64 y14)]) w11)) 

(dw w11 fun w15 => (dr w' fun a16 => (ld w15 a16 fun v17 => asP v17 fun p18 => (ld w15 (⟨r1, 0, none⟩ : Addr) fun v19 => asI .i64 v19 fun x20 => (ld w15 (Addr.add (⟨r1, 0, none⟩ : Addr) 1) fun v21 => asI .i64 v21 fun x22 => (ld w15 (Addr.add (⟨r1, 0, none⟩ : Addr) 2) fun v23 => asI .i64 v23 fun x24 => (cl Try.prog 31 #[(.pointer p18), (.agg #[(.int .i64 x20), (.int .i64 x22), (.int .i64 x24)])] w15 fun v25 w26 => asT 2 v25 fun t27 => asS (t27 0) fun p28 n29 c30 => asI .i64 (t27 1) fun x31 => (lv x31 fun e_32 => 
(jn (fun s33 w34 => asS (s33.getD 0 undef) fun p51 n52 c53 => 
(lp [(.slice none 0 0), (.int .i64 (0 : Int))] w34 fun J56 s54 w55 => asS (s54.getD 0 undef) fun p57 n58 c59 => asI .i64 (s54.getD 1 undef) fun x60 => 
(cond (decide (x60 < (n52 : Int))) 
(jn (fun s61 w62 => asS (s61.getD 0 undef) fun p134 n135 c136 => (J56 [(.slice p134 n135 c136), (.int .i64 (IntKind.wrap .i64 (x60 + (1 : Int))))] w62))
 (fun J63 => (dr p51 fun a64 => (bnd x60 n52 (ld w55 (Addr.add a64 (Int.toNat x60 * 1)) fun v65 => asI .i64 v65 fun x66 => (lv x66 fun i_67 => 
(dr w' fun a68 => (bnd i_67 64 (ld w55 (Addr.add (Addr.add a68 1) (Int.toNat i_67 * 10)) fun v69 => asI .i64 v69 fun x70 => (ld w55 (Addr.add (Addr.add (Addr.add a68 1) (Int.toNat i_67 * 10)) 1) fun v71 => asB v71 fun b72 => (ld w55 (Addr.add (Addr.add (Addr.add a68 1) (Int.toNat i_67 * 10)) 2) fun v73 => asI .i64 v73 fun x74 => (ld w55 (Addr.add (Addr.add (Addr.add a68 1) (Int.toNat i_67 * 10)) 3) fun v75 => asI .i64 v75 fun x76 => (ld w55 (Addr.add (Addr.add (Addr.add a68 1) (Int.toNat i_67 * 10)) 4) fun v77 => asI .i64 v77 fun x78 => (ld w55 (Addr.add (Addr.add (Addr.add a68 1) (Int.toNat i_67 * 10)) 5) fun v79 => asI .i64 v79 fun x80 => (ld w55 (Addr.add (Addr.add (Addr.add a68 1) (Int.toNat i_67 * 10)) 6) fun v81 => asI .i64 v81 fun x82 => (ld w55 (Addr.add (Addr.add (Addr.add a68 1) (Int.toNat i_67 * 10)) 7) fun v83 => asI .i64 v83 fun x84 => (ld w55 (Addr.add (Addr.add (Addr.add a68 1) (Int.toNat i_67 * 10)) 8) fun v85 => asI .i64 v85 fun x86 => (ld w55 (Addr.add (Addr.add (Addr.add a68 1) (Int.toNat i_67 * 10)) 9) fun v87 => asI .i64 v87 fun x88 => (nw w55 (.cells #[(.int .i64 (0 : Int)), (.bool false), (.int .i64 (0 : Int)), (.int .i64 (0 : Int)), (.int .i64 (0 : Int)), (.int .i64 (0 : Int)), (.int .i64 (0 : Int)), (.int .i64 (0 : Int)), (.int .i64 (0 : Int)), (.int .i64 (0 : Int))] 100) fun r89 w90 => (st w90 (⟨r89, 0, none⟩ : Addr) (.int .i64 x70) fun w91 => (st w91 (Addr.add (⟨r89, 0, none⟩ : Addr) 1) (.bool b72) fun w92 => (st w92 (Addr.add (⟨r89, 0, none⟩ : Addr) 2) (.int .i64 x74) fun w93 => (st w93 (Addr.add (⟨r89, 0, none⟩ : Addr) 3) (.int .i64 x76) fun w94 => (st w94 (Addr.add (⟨r89, 0, none⟩ : Addr) 4) (.int .i64 x78) fun w95 => (st w95 (Addr.add (⟨r89, 0, none⟩ : Addr) 5) (.int .i64 x80) fun w96 => (st w96 (Addr.add (⟨r89, 0, none⟩ : Addr) 6) (.int .i64 x82) fun w97 => (st w97 (Addr.add (⟨r89, 0, none⟩ : Addr) 7) (.int .i64 x84) fun w98 => (st w98 (Addr.add (⟨r89, 0, none⟩ : Addr) 8) (.int .i64 x86) fun w99 => (st w99 (Addr.add (⟨r89, 0, none⟩ : Addr) 9) (.int .i64 x88) fun w100 => 
(ld w100 (Addr.add (Addr.add (⟨r89, 0, none⟩ : Addr) 2) 1) fun v101 => asI .i64 v101 fun x102 => (ld w100 (Addr.add (Addr.add (Addr.add (⟨r89, 0, none⟩ : Addr) 2) 1) 1) fun v103 => asI .i64 v103 fun x104 => (ld w100 (Addr.add (Addr.add (Addr.add (⟨r89, 0, none⟩ : Addr) 2) 1) 2) fun v105 => asI .i64 v105 fun x106 => (ld w100 (⟨r1, 0, none⟩ : Addr) fun v107 => asI .i64 v107 fun x108 => (ld w100 (Addr.add (⟨r1, 0, none⟩ : Addr) 1) fun v109 => asI .i64 v109 fun x110 => (ld w100 (Addr.add (⟨r1, 0, none⟩ : Addr) 2) fun v111 => asI .i64 v111 fun x112 => (cl Try.prog 28 #[(.agg #[(.int .i64 x102), (.int .i64 x104), (.int .i64 x106)]), (.agg #[(.int .i64 x108), (.int .i64 x110), (.int .i64 x112)])] w100 fun v113 w114 => asT 2 v113 fun t115 => asB (t115 0) fun b116 => asI .i64 (t115 1) fun x117 => (lv x117 fun __118 => 
(jn (fun s119 w120 => asB (s119.getD 0 undef) fun b124 => (cond b124 (ld w120 (Addr.add (⟨r89, 0, none⟩ : Addr) 2) fun v125 => asI .i64 v125 fun x126 => (nw w120 (.cells #[(.int .i64 x126)] 3) fun r127 w128 => (rn Try.prog (Builtin.append_ #[38, 38] 38 #[(.slice p57 n58 c59), (.slice (some (⟨r127, 0, none⟩ : Addr)) 1 1)]) w128 fun v129 w130 => asS v129 fun p131 n132 c133 => (J63 [(.slice p131 n132 c133)] w130)))) (J63 [(.slice p57 n58 c59)] w120)))
 (fun J121 => (cond b116 (ld w114 (Addr.add (⟨r89, 0, none⟩ : Addr) 1) fun v122 => asB v122 fun b123 => (J121 [(.bool b123)] w114)) (J121 [(.bool false)] w114))))))))))))))))))))))))))))))))))))))))) 
(lv (0 : Int) fun y137 => 
(Q (.tuple #[(.slice p57 n58 c59), (.int .i64 y137)]) w55)))))
 (fun J35 => 
(cond (e_32 != (0 : Int)) 
(lp [(.slice p28 n29 c30), (.int .i64 (0 : Int))] w26 fun J38 s36 w37 => asS (s36.getD 0 undef) fun p39 n40 c41 => asI .i64 (s36.getD 1 undef) fun x42 => 
(cond (decide (x42 < (64 : Int))) 
(lv x42 fun i_43 => 
(nw w37 (.cells #[(.int .i64 i_43)] 3) fun r44 w45 => (rn Try.prog (Builtin.append_ #[38, 38] 38 #[(.slice p39 n40 c41), (.slice (some (⟨r44, 0, none⟩ : Addr)) 1 1)]) w45 fun v46 w47 => asS v46 fun p48 n49 c50 => 
(J38 [(.slice p48 n49 c50), (.int .i64 (IntKind.wrap .i64 (x42 + (1 : Int))))] w47)))) (J35 [(.slice p39 n40 c41)] w37))) (J35 [(.slice p28 n29 c30)] w26))))))))))))))))))))
theorem F37_link (w' : Option Addr) (b_0 : Int) (b_1 : Int) (b_2 : Int) (w : World) (Q : Value → World → Prop) : fnEv Try.prog Try.f37 h37 [(.pointer w'), (.agg #[(.int .i64 b_0), (.int .i64 b_1), (.int .i64 b_2)])] w Q = F37 w' b_0 b_1 b_2 w Q := by kernel_rfl
theorem F37_calls {w' : Option Addr} {b_0 : Int} {b_1 : Int} {b_2 : Int} {w : World} {Q : Value → World → Prop} (hF_ : F37 w' b_0 b_1 b_2 w Q) : cl Try.prog 37 #[(.pointer w'), (.agg #[(.int .i64 b_0), (.int .i64 b_1), (.int .i64 b_2)])] w Q :=
  calls_of_ev (fn := Try.f37) Try.func37 h37 (args := [(.pointer w'), (.agg #[(.int .i64 b_0), (.int .i64 b_1), (.int .i64 b_2)])]) (by rw [F37_link]; exact hF_)

/-! tiltyard/box.Right -/
def h38 : Hint := (.s .d (.s (.j [(24, 4)] .d .d) .d))
set_option linter.unusedVariables false in
def F38 (b_0 : Int) (b_1 : Int) (b_2 : Int) (w : World) (Q : Value → World → Prop) : Prop :=
 (nw w (.cells #[(.int .i64 b_0), (.int .i64 b_1), (.int .i64 b_2)] 25) fun r1 w2 => (lv (0 : Int) fun y3 => 
(jn (fun s4 w5 => asB (s4.getD 0 undef) fun b21 => (cond b21 (lv (60 : Int) fun y22 => 
(Q (.int .i64 y22) w5)) 
(lv (0 : Int) fun y23 => 
(Q (.int .i64 y23) w5))))
 (fun J6 => (ld w2 (⟨r1, 0, none⟩ : Addr) fun v7 => asI .i64 v7 fun x8 => (cl Try.prog 61 #[(.int .i64 x8)] w2 fun v9 w10 => asB v9 fun b11 => (cond (!b11) (J6 [(.bool true)] w10) (ld w10 (Addr.add (⟨r1, 0, none⟩ : Addr) 1) fun v12 => asI .i64 v12 fun x13 => (cl Try.prog 61 #[(.int .i64 x13)] w10 fun v14 w15 => asB v14 fun b16 => (cond (!b16) (J6 [(.bool true)] w15) (ld w15 (Addr.add (⟨r1, 0, none⟩ : Addr) 2) fun v17 => asI .i64 v17 fun x18 => (cond (decide (x18 < (1 : Int))) (J6 [(.bool true)] w15) (ld w15 (Addr.add (⟨r1, 0, none⟩ : Addr) 2) fun v19 => asI .i64 v19 fun x20 => (J6 [(.bool (decide (x20 > (1099511627776 : Int))))] w15))))))))))))))
theorem F38_link (b_0 : Int) (b_1 : Int) (b_2 : Int) (w : World) (Q : Value → World → Prop) : fnEv Try.prog Try.f38 h38 [(.agg #[(.int .i64 b_0), (.int .i64 b_1), (.int .i64 b_2)])] w Q = F38 b_0 b_1 b_2 w Q := by kernel_rfl
theorem F38_calls {b_0 : Int} {b_1 : Int} {b_2 : Int} {w : World} {Q : Value → World → Prop} (hF_ : F38 b_0 b_1 b_2 w Q) : cl Try.prog 38 #[(.agg #[(.int .i64 b_0), (.int .i64 b_1), (.int .i64 b_2)])] w Q :=
  calls_of_ev (fn := Try.f38) Try.func38 h38 (args := [(.agg #[(.int .i64 b_0), (.int .i64 b_1), (.int .i64 b_2)])]) (by rw [F38_link]; exact hF_)

/-! (*tiltyard/tiltyardlaw19.both).does -/
def h39 : Hint := (.s .d (.j [] (.s .d (.s .d (.s (.s (.o (ofL [0, 1, 2, 3, 4, 5, 6, 7, 8, 9, 10, 11] .nil)) (.s (.o (ofL [0, 1, 2, 3, 4, 5, 6, 7, 8, 9, 10, 11] .nil)) (.j [(4, 4)] .d .d))) (.s .d (.s (.s (.o (ofL [0, 1, 2, 3, 4, 5, 7, 8, 9, 10, 11, 12, 6, 13, 14, 15] .nil)) .d) (.s .d (.s (.j [(9, 15), (10, 31)] (.o (ofL [0, 1, 2, 3, 4, 5] (.alt (ofL [6, 7, 8, 9, 10, 11, 12] .nil) (ofL [10, 6, 7, 8, 9, 11, 12] .nil)))) (.j [(11, 15), (12, 31)] (.o (ofL [0, 1, 2, 3, 4, 5] (.alt (ofL [6, 7, 8, 9, 10, 11, 12] .nil) (ofL [10, 6, 7, 8, 9, 11, 12] .nil)))) (.j [(4, 4)] .d .d))) (.s .d (.s (.s (.o (ofL [0, 1, 2, 3, 4, 5, 6, 7, 9, 10, 11, 12, 13, 14, 15, 16, 8, 17, 18, 19] .nil)) .d) (.s .d (.s (.s (.o (ofL [0, 1, 2, 3, 4, 5, 6, 7, 8, 9, 10, 11, 12] .nil)) (.s (.o (ofL [0, 1, 2, 3, 4, 5, 6, 7, 8, 9, 10, 11, 12] .nil)) (.s (.j [(153, 4)] .d .d) (.s .d (.l [(17, 3)] (.s .d (.s (.s (.s (.o (ofL [0, 1, 2, 3, 4, 5, 6, 7, 8] .nil)) .d) .d) .d))))))) (.j [(172, 4)] .d (.s (.s .d (.s .d (.s .d (.j [(19, 29)] .d .d)))) .d))))))))))))) .d))
set_option linter.unusedVariables false in
def F39 (b : Option Addr) (a_0 : Int) (a_1 : Int) (a_2 : Int) (a_3 : Int) (a_4 : Int) (a_5 : Int) (a_6 : Int) (a_7 : Int) (a_8 : Int) (a_9 : Int) (w : World) (Q : Value → World → Prop) : Prop :=
 (nw w (.cells #[(.int .i64 a_0), (.int .i64 a_1), (.int .i64 a_2), (.int .i64 a_3), (.int .i64 a_4), (.int .i64 a_5), (.int .i64 a_6), (.int .i64 a_7), (.int .i64 a_8), (.int .i64 a_9)] 40) fun r1 w2 => 
(jn (fun s3 w4 => 
(Q (.bool true) w4))
 (fun J5 => (ld w2 (⟨r1, 0, none⟩ : Addr) fun v6 => asI .i64 v6 fun x7 => 

(cond (x7 == (0 : Int)) (dw w2 fun w8 => (dr b fun a9 => (ld w8 a9 fun v10 => asP v10 fun p11 => (ld w8 (Addr.add (⟨r1, 0, none⟩ : Addr) 2) fun v12 => asI .i64 v12 fun x13 => (ld w8 (Addr.add (Addr.add (⟨r1, 0, none⟩ : Addr) 2) 1) fun v14 => asI .i64 v14 fun x15 => (ld w8 (Addr.add (Addr.add (⟨r1, 0, none⟩ : Addr) 2) 2) fun v16 => asI .i64 v16 fun x17 => (ld w8 (Addr.add (Addr.add (⟨r1, 0, none⟩ : Addr) 2) 3) fun v18 => asI .i64 v18 fun x19 => (ld w8 (Addr.add (Addr.add (⟨r1, 0, none⟩ : Addr) 2) 4) fun v20 => asI .i64 v20 fun x21 => (ld w8 (Addr.add (Addr.add (⟨r1, 0, none⟩ : Addr) 2) 5) fun v22 => asI .i64 v22 fun x23 => (ld w8 (Addr.add (Addr.add (⟨r1, 0, none⟩ : Addr) 2) 6) fun v24 => asI .i64 v24 fun x25 => (ld w8 (Addr.add (Addr.add (⟨r1, 0, none⟩ : Addr) 2) 7) fun v26 => asI .i64 v26 fun x27 => (cl Try.prog 16 #[(.pointer p11), (.agg #[(.int .i64 x13), (.int .i64 x15), (.int .i64 x17), (.int .i64 x19), (.int .i64 x21), (.int .i64 x23), (.int .i64 x25), (.int .i64 x27)])] w8 fun v28 w29 => asT 2 v28 fun t30 => asI .i64 (t30 0) fun x31 => asI .i64 (t30 1) fun x32 => (lv x31 fun h_33 => (lv x32 fun e_34 => 
(dw w29 fun w35 => (dr b fun a36 => (ld w35 (Addr.add a36 1) fun v37 => asP v37 fun p38 => (ld w35 (Addr.add (⟨r1, 0, none⟩ : Addr) 2) fun v39 => asI .i64 v39 fun x40 => (ld w35 (Addr.add (Addr.add (⟨r1, 0, none⟩ : Addr) 2) 1) fun v41 => asI .i64 v41 fun x42 => (ld w35 (Addr.add (Addr.add (⟨r1, 0, none⟩ : Addr) 2) 2) fun v43 => asI .i64 v43 fun x44 => (ld w35 (Addr.add (Addr.add (⟨r1, 0, none⟩ : Addr) 2) 3) fun v45 => asI .i64 v45 fun x46 => (ld w35 (Addr.add (Addr.add (⟨r1, 0, none⟩ : Addr) 2) 4) fun v47 => asI .i64 v47 fun x48 => (ld w35 (Addr.add (Addr.add (⟨r1, 0, none⟩ : Addr) 2) 5) fun v49 => asI .i64 v49 fun x50 => (ld w35 (Addr.add (Addr.add (⟨r1, 0, none⟩ : Addr) 2) 6) fun v51 => asI .i64 v51 fun x52 => (ld w35 (Addr.add (Addr.add (⟨r1, 0, none⟩ : Addr) 2) 7) fun v53 => asI .i64 v53 fun x54 => (cl Try.prog 62 #[(.pointer p38), (.agg #[(.int .i64 x40), (.int .i64 x42), (.int .i64 x44), (.int .i64 x46), (.int .i64 x48), (.int .i64 x50), (.int .i64 x52), (.int .i64 x54)])] w35 fun v55 w56 => asT 2 v55 fun t57 => asI .i64 (t57 0) fun x58 => asI .i64 (t57 1) fun x59 => (lv x58 fun i_60 => (lv x59 fun f_61 => 
(jn (fun s62 w63 => asB (s62.getD 0 undef) fun b65 => (Q (.bool b65) w63))
 (fun J64 => (cond (h_33 == i_60) (J64 [(.bool (e_34 == f_61))] w56) (J64 [(.bool false)] w56)))))))))))))))))))))))))))))))) 
(cond (x7 == (1 : Int)) (dw w2 fun w66 => (dr b fun a67 => (ld w66 a67 fun v68 => asP v68 fun p69 => (ld w66 (Addr.add (⟨r1, 0, none⟩ : Addr) 1) fun v70 => asI .i64 v70 fun x71 => (dr b fun a72 => (ld w66 (Addr.add a72 1) fun v73 => asP v73 fun p74 => (ld w66 (Addr.add (⟨r1, 0, none⟩ : Addr) 1) fun v75 => asI .i64 v75 fun x76 => (cl Try.prog 17 #[(.pointer p69), (.int .i64 x71)] w66 fun v77 w78 => asI .i64 v77 fun x79 => (hd w78 (Addr.add (⟨r1, 0, none⟩ : Addr) 1) (.int .i64 x76) (hd w78 (Addr.add a72 1) (.pointer p74) (cl Try.prog 63 #[(.pointer p74), (.int .i64 x76)] w78 fun v80 w81 => asI .i64 v80 fun x82 => 
(Q (.bool (x79 == x82)) w81)))))))))))) 
(cond (x7 == (2 : Int)) (jn (fun s83 w84 => asP (s83.getD 0 undef) fun p140 => asI .i64 (s83.getD 1 undef) fun x141 => (jn (fun s142 w143 => asP (s142.getD 0 undef) fun p199 => asI .i64 (s142.getD 1 undef) fun x200 => (jn (fun s201 w202 => asB (s201.getD 0 undef) fun b239 => (Q (.bool b239) w202))
 (fun J203 => (dr p140 fun a204 => (ld w143 a204 fun v205 => asI .i64 v205 fun x206 => (ld w143 (Addr.add a204 1) fun v207 => asI .i64 v207 fun x208 => (ld w143 (Addr.add a204 2) fun v209 => asI .i64 v209 fun x210 => (ld w143 (Addr.add a204 3) fun v211 => asI .i64 v211 fun x212 => (ld w143 (Addr.add a204 4) fun v213 => asI .i64 v213 fun x214 => (ld w143 (Addr.add a204 5) fun v215 => asI .i64 v215 fun x216 => (ld w143 (Addr.add a204 6) fun v217 => asI .i64 v217 fun x218 => (ld w143 (Addr.add a204 7) fun v219 => asI .i64 v219 fun x220 => (dr p199 fun a221 => (ld w143 a221 fun v222 => asI .i64 v222 fun x223 => (ld w143 (Addr.add a221 1) fun v224 => asI .i64 v224 fun x225 => (ld w143 (Addr.add a221 2) fun v226 => asI .i64 v226 fun x227 => (ld w143 (Addr.add a221 3) fun v228 => asI .i64 v228 fun x229 => (ld w143 (Addr.add a221 4) fun v230 => asI .i64 v230 fun x231 => (ld w143 (Addr.add a221 5) fun v232 => asI .i64 v232 fun x233 => (ld w143 (Addr.add a221 6) fun v234 => asI .i64 v234 fun x235 => (ld w143 (Addr.add a221 7) fun v236 => asI .i64 v236 fun x237 => (eqW Try.prog 27 (.agg #[(.int .i64 x206), (.int .i64 x208), (.int .i64 x210), (.int .i64 x212), (.int .i64 x214), (.int .i64 x216), (.int .i64 x218), (.int .i64 x220)]) (.agg #[(.int .i64 x223), (.int .i64 x225), (.int .i64 x227), (.int .i64 x229), (.int .i64 x231), (.int .i64 x233), (.int .i64 x235), (.int .i64 x237)]) fun b238 => (cond b238 (J203 [(.bool (x141 == x200))] w143) (J203 [(.bool false)] w143))))))))))))))))))))))))
 (fun J144 => (dw w84 fun w145 => (dr b fun a146 => (ld w145 (Addr.add a146 1) fun v147 => asP v147 fun p148 => (ld w145 (Addr.add (⟨r1, 0, none⟩ : Addr) 1) fun v149 => asI .i64 v149 fun x150 => 
((cl Try.prog 64 #[(.pointer p148), (.int .i64 x150)] w145 fun v151 w152 => asT 2 v151 fun t153 => asA 8 (t153 0) fun a154 => asI .i64 (a154 0) fun x155 => asI .i64 (a154 1) fun x156 => asI .i64 (a154 2) fun x157 => asI .i64 (a154 3) fun x158 => asI .i64 (a154 4) fun x159 => asI .i64 (a154 5) fun x160 => asI .i64 (a154 6) fun x161 => asI .i64 (a154 7) fun x162 => asI .i64 (t153 1) fun x163 => (nw w152 (.cells #[(.int .i64 (0 : Int)), (.int .i64 (0 : Int)), (.int .i64 (0 : Int)), (.int .i64 (0 : Int)), (.int .i64 (0 : Int)), (.int .i64 (0 : Int)), (.int .i64 (0 : Int)), (.int .i64 (0 : Int))] 27) fun r164 w165 => (st w165 (⟨r164, 0, none⟩ : Addr) (.int .i64 x155) fun w166 => (st w166 (Addr.add (⟨r164, 0, none⟩ : Addr) 1) (.int .i64 x156) fun w167 => (st w167 (Addr.add (⟨r164, 0, none⟩ : Addr) 2) (.int .i64 x157) fun w168 => (st w168 (Addr.add (⟨r164, 0, none⟩ : Addr) 3) (.int .i64 x158) fun w169 => (st w169 (Addr.add (⟨r164, 0, none⟩ : Addr) 4) (.int .i64 x159) fun w170 => (st w170 (Addr.add (⟨r164, 0, none⟩ : Addr) 5) (.int .i64 x160) fun w171 => (st w171 (Addr.add (⟨r164, 0, none⟩ : Addr) 6) (.int .i64 x161) fun w172 => (st w172 (Addr.add (⟨r164, 0, none⟩ : Addr) 7) (.int .i64 x162) fun w173 => (lv x163 fun f_174 => (J144 [(.pointer (some (⟨r164, 0, none⟩ : Addr))), (.int .i64 f_174)] w173)))))))))))) ∧ (nw w145 (.cells #[(.int .i64 (0 : Int)), (.int .i64 (0 : Int)), (.int .i64 (0 : Int)), (.int .i64 (0 : Int)), (.int .i64 (0 : Int)), (.int .i64 (0 : Int)), (.int .i64 (0 : Int)), (.int .i64 (0 : Int))] 27) fun r175 w176 => (hd w176 (Addr.add (⟨r1, 0, none⟩ : Addr) 1) (.int .i64 x150) (hd w176 (Addr.add a146 1) (.pointer p148) (cl Try.prog 64 #[(.pointer p148), (.int .i64 x150)] w176 fun v177 w178 => asT 2 v177 fun t179 => asA 8 (t179 0) fun a180 => asI .i64 (a180 0) fun x181 => asI .i64 (a180 1) fun x182 => asI .i64 (a180 2) fun x183 => asI .i64 (a180 3) fun x184 => asI .i64 (a180 4) fun x185 => asI .i64 (a180 5) fun x186 => asI .i64 (a180 6) fun x187 => asI .i64 (a180 7) fun x188 => asI .i64 (t179 1) fun x189 => (st w178 (⟨r175, 0, none⟩ : Addr) (.int .i64 x181) fun w190 => (st w190 (Addr.add (⟨r175, 0, none⟩ : Addr) 1) (.int .i64 x182) fun w191 => (st w191 (Addr.add (⟨r175, 0, none⟩ : Addr) 2) (.int .i64 x183) fun w192 => (st w192 (Addr.add (⟨r175, 0, none⟩ : Addr) 3) (.int .i64 x184) fun w193 => (st w193 (Addr.add (⟨r175, 0, none⟩ : Addr) 4) (.int .i64 x185) fun w194 => (st w194 (Addr.add (⟨r175, 0, none⟩ : Addr) 5) (.int .i64 x186) fun w195 => (st w195 (Addr.add (⟨r175, 0, none⟩ : Addr) 6) (.int .i64 x187) fun w196 => (st w196 (Addr.add (⟨r175, 0, none⟩ : Addr) 7) (.int .i64 x188) fun w197 => (lv x189 fun f_198 => (J144 [(.pointer (some (⟨r175, 0, none⟩ : Addr))), (.int .i64 f_198)] w197))))))))))))))))))))))
 (fun J85 => (dw w2 fun w86 => (dr b fun a87 => (ld w86 a87 fun v88 => asP v88 fun p89 => (ld w86 (Addr.add (⟨r1, 0, none⟩ : Addr) 1) fun v90 => asI .i64 v90 fun x91 => 
((cl Try.prog 18 #[(.pointer p89), (.int .i64 x91)] w86 fun v92 w93 => asT 2 v92 fun t94 => asA 8 (t94 0) fun a95 => asI .i64 (a95 0) fun x96 => asI .i64 (a95 1) fun x97 => asI .i64 (a95 2) fun x98 => asI .i64 (a95 3) fun x99 => asI .i64 (a95 4) fun x100 => asI .i64 (a95 5) fun x101 => asI .i64 (a95 6) fun x102 => asI .i64 (a95 7) fun x103 => asI .i64 (t94 1) fun x104 => (nw w93 (.cells #[(.int .i64 (0 : Int)), (.int .i64 (0 : Int)), (.int .i64 (0 : Int)), (.int .i64 (0 : Int)), (.int .i64 (0 : Int)), (.int .i64 (0 : Int)), (.int .i64 (0 : Int)), (.int .i64 (0 : Int))] 27) fun r105 w106 => (st w106 (⟨r105, 0, none⟩ : Addr) (.int .i64 x96) fun w107 => (st w107 (Addr.add (⟨r105, 0, none⟩ : Addr) 1) (.int .i64 x97) fun w108 => (st w108 (Addr.add (⟨r105, 0, none⟩ : Addr) 2) (.int .i64 x98) fun w109 => (st w109 (Addr.add (⟨r105, 0, none⟩ : Addr) 3) (.int .i64 x99) fun w110 => (st w110 (Addr.add (⟨r105, 0, none⟩ : Addr) 4) (.int .i64 x100) fun w111 => (st w111 (Addr.add (⟨r105, 0, none⟩ : Addr) 5) (.int .i64 x101) fun w112 => (st w112 (Addr.add (⟨r105, 0, none⟩ : Addr) 6) (.int .i64 x102) fun w113 => (st w113 (Addr.add (⟨r105, 0, none⟩ : Addr) 7) (.int .i64 x103) fun w114 => (lv x104 fun e_115 => (J85 [(.pointer (some (⟨r105, 0, none⟩ : Addr))), (.int .i64 e_115)] w114)))))))))))) ∧ (nw w86 (.cells #[(.int .i64 (0 : Int)), (.int .i64 (0 : Int)), (.int .i64 (0 : Int)), (.int .i64 (0 : Int)), (.int .i64 (0 : Int)), (.int .i64 (0 : Int)), (.int .i64 (0 : Int)), (.int .i64 (0 : Int))] 27) fun r116 w117 => (hd w117 (Addr.add (⟨r1, 0, none⟩ : Addr) 1) (.int .i64 x91) (hd w117 a87 (.pointer p89) (cl Try.prog 18 #[(.pointer p89), (.int .i64 x91)] w117 fun v118 w119 => asT 2 v118 fun t120 => asA 8 (t120 0) fun a121 => asI .i64 (a121 0) fun x122 => asI .i64 (a121 1) fun x123 => asI .i64 (a121 2) fun x124 => asI .i64 (a121 3) fun x125 => asI .i64 (a121 4) fun x126 => asI .i64 (a121 5) fun x127 => asI .i64 (a121 6) fun x128 => asI .i64 (a121 7) fun x129 => asI .i64 (t120 1) fun x130 => (st w119 (⟨r116, 0, none⟩ : Addr) (.int .i64 x122) fun w131 => (st w131 (Addr.add (⟨r116, 0, none⟩ : Addr) 1) (.int .i64 x123) fun w132 => (st w132 (Addr.add (⟨r116, 0, none⟩ : Addr) 2) (.int .i64 x124) fun w133 => (st w133 (Addr.add (⟨r116, 0, none⟩ : Addr) 3) (.int .i64 x125) fun w134 => (st w134 (Addr.add (⟨r116, 0, none⟩ : Addr) 4) (.int .i64 x126) fun w135 => (st w135 (Addr.add (⟨r116, 0, none⟩ : Addr) 5) (.int .i64 x127) fun w136 => (st w136 (Addr.add (⟨r116, 0, none⟩ : Addr) 6) (.int .i64 x128) fun w137 => (st w137 (Addr.add (⟨r116, 0, none⟩ : Addr) 7) (.int .i64 x129) fun w138 => (lv x130 fun e_139 => (J85 [(.pointer (some (⟨r116, 0, none⟩ : Addr))), (.int .i64 e_139)] w138))))))))))))))))))))) 
(cond (x7 == (3 : Int)) (dw w2 fun w240 => (dr b fun a241 => (ld w240 a241 fun v242 => asP v242 fun p243 => (ld w240 (Addr.add (⟨r1, 0, none⟩ : Addr) 1) fun v244 => asI .i64 v244 fun x245 => (ld w240 (Addr.add (⟨r1, 0, none⟩ : Addr) 2) fun v246 => asI .i64 v246 fun x247 => (ld w240 (Addr.add (Addr.add (⟨r1, 0, none⟩ : Addr) 2) 1) fun v248 => asI .i64 v248 fun x249 => (ld w240 (Addr.add (Addr.add (⟨r1, 0, none⟩ : Addr) 2) 2) fun v250 => asI .i64 v250 fun x251 => (ld w240 (Addr.add (Addr.add (⟨r1, 0, none⟩ : Addr) 2) 3) fun v252 => asI .i64 v252 fun x253 => (ld w240 (Addr.add (Addr.add (⟨r1, 0, none⟩ : Addr) 2) 4) fun v254 => asI .i64 v254 fun x255 => (ld w240 (Addr.add (Addr.add (⟨r1, 0, none⟩ : Addr) 2) 5) fun v256 => asI .i64 v256 fun x257 => (ld w240 (Addr.add (Addr.add (⟨r1, 0, none⟩ : Addr) 2) 6) fun v258 => asI .i64 v258 fun x259 => (ld w240 (Addr.add (Addr.add (⟨r1, 0, none⟩ : Addr) 2) 7) fun v260 => asI .i64 v260 fun x261 => (dr b fun a262 => (ld w240 (Addr.add a262 1) fun v263 => asP v263 fun p264 => (ld w240 (Addr.add (⟨r1, 0, none⟩ : Addr) 1) fun v265 => asI .i64 v265 fun x266 => (ld w240 (Addr.add (⟨r1, 0, none⟩ : Addr) 2) fun v267 => asI .i64 v267 fun x268 => (ld w240 (Addr.add (Addr.add (⟨r1, 0, none⟩ : Addr) 2) 1) fun v269 => asI .i64 v269 fun x270 => (ld w240 (Addr.add (Addr.add (⟨r1, 0, none⟩ : Addr) 2) 2) fun v271 => asI .i64 v271 fun x272 => (ld w240 (Addr.add (Addr.add (⟨r1, 0, none⟩ : Addr) 2) 3) fun v273 => asI .i64 v273 fun x274 => (ld w240 (Addr.add (Addr.add (⟨r1, 0, none⟩ : Addr) 2) 4) fun v275 => asI .i64 v275 fun x276 => (ld w240 (Addr.add (Addr.add (⟨r1, 0, none⟩ : Addr) 2) 5) fun v277 => asI .i64 v277 fun x278 => (ld w240 (Addr.add (Addr.add (⟨r1, 0, none⟩ : Addr) 2) 6) fun v279 => asI .i64 v279 fun x280 => (ld w240 (Addr.add (Addr.add (⟨r1, 0, none⟩ : Addr) 2) 7) fun v281 => asI .i64 v281 fun x282 => (cl Try.prog 20 #[(.pointer p243), (.int .i64 x245), (.agg #[(.int .i64 x247), (.int .i64 x249), (.int .i64 x251), (.int .i64 x253), (.int .i64 x255), (.int .i64 x257), (.int .i64 x259), (.int .i64 x261)])] w240 fun v283 w284 => asI .i64 v283 fun x285 => (hd w284 (Addr.add (⟨r1, 0, none⟩ : Addr) 2) (.int .i64 x268) (hd w284 (Addr.add (Addr.add (⟨r1, 0, none⟩ : Addr) 2) 1) (.int .i64 x270) (hd w284 (Addr.add (Addr.add (⟨r1, 0, none⟩ : Addr) 2) 2) (.int .i64 x272) (hd w284 (Addr.add (Addr.add (⟨r1, 0, none⟩ : Addr) 2) 3) (.int .i64 x274) (hd w284 (Addr.add (Addr.add (⟨r1, 0, none⟩ : Addr) 2) 4) (.int .i64 x276) (hd w284 (Addr.add (Addr.add (⟨r1, 0, none⟩ : Addr) 2) 5) (.int .i64 x278) (hd w284 (Addr.add (Addr.add (⟨r1, 0, none⟩ : Addr) 2) 6) (.int .i64 x280) (hd w284 (Addr.add (Addr.add (⟨r1, 0, none⟩ : Addr) 2) 7) (.int .i64 x282) (hd w284 (Addr.add (⟨r1, 0, none⟩ : Addr) 1) (.int .i64 x266) (hd w284 (Addr.add a262 1) (.pointer p264) (cl Try.prog 65 #[(.pointer p264), (.int .i64 x266), (.agg #[(.int .i64 x268), (.int .i64 x270), (.int .i64 x272), (.int .i64 x274), (.int .i64 x276), (.int .i64 x278), (.int .i64 x280), (.int .i64 x282)])] w284 fun v286 w287 => asI .i64 v286 fun x288 => 
(Q (.bool (x285 == x288)) w287)))))))))))))))))))))))))))))))))))) 
(cond (x7 == (4 : Int)) (dw w2 fun w289 => (dr b fun a290 => (ld w289 a290 fun v291 => asP v291 fun p292 => (ld w289 (Addr.add (Addr.add (⟨r1, 0, none⟩ : Addr) 2) 1) fun v293 => asI .i64 v293 fun x294 => (ld w289 (Addr.add (Addr.add (Addr.add (⟨r1, 0, none⟩ : Addr) 2) 1) 1) fun v295 => asI .i64 v295 fun x296 => (ld w289 (Addr.add (Addr.add (Addr.add (⟨r1, 0, none⟩ : Addr) 2) 1) 2) fun v297 => asI .i64 v297 fun x298 => (cl Try.prog 37 #[(.pointer p292), (.agg #[(.int .i64 x294), (.int .i64 x296), (.int .i64 x298)])] w289 fun v299 w300 => asT 2 v299 fun t301 => asS (t301 0) fun p302 n303 c304 => asI .i64 (t301 1) fun x305 => (lv x305 fun e_306 => 
(dw w300 fun w307 => (dr b fun a308 => (ld w307 (Addr.add a308 1) fun v309 => asP v309 fun p310 => (ld w307 (Addr.add (Addr.add (⟨r1, 0, none⟩ : Addr) 2) 1) fun v311 => asI .i64 v311 fun x312 => (ld w307 (Addr.add (Addr.add (Addr.add (⟨r1, 0, none⟩ : Addr) 2) 1) 1) fun v313 => asI .i64 v313 fun x314 => (ld w307 (Addr.add (Addr.add (Addr.add (⟨r1, 0, none⟩ : Addr) 2) 1) 2) fun v315 => asI .i64 v315 fun x316 => (cl Try.prog 66 #[(.pointer p310), (.agg #[(.int .i64 x312), (.int .i64 x314), (.int .i64 x316)])] w307 fun v317 w318 => asT 2 v317 fun t319 => asS (t319 0) fun p320 n321 c322 => asI .i64 (t319 1) fun x323 => (lv x323 fun f_324 => 
(jn (fun s325 w326 => asB (s325.getD 0 undef) fun b328 => (cond b328 
(Q (.bool false) w326) 
(lv (0 : Int) fun i_329 => 
(lp [(.int .i64 i_329)] w326 fun J332 s330 w331 => asI .i64 (s330.getD 0 undef) fun x333 => 
(cond (decide (x333 < (n303 : Int))) 
(dw w331 fun w334 => (dr p302 fun a335 => (bnd x333 n303 (ld w334 (Addr.add a335 (Int.toNat x333 * 1)) fun v336 => asI .i64 v336 fun x337 => (dr p320 fun a338 => (bnd x333 n321 (ld w334 (Addr.add a338 (Int.toNat x333 * 1)) fun v339 => asI .i64 v339 fun x340 => 
(cond (x337 != x340) 
(Q (.bool false) w334) 
(dr p302 fun a341 => (bnd x333 n303 (st w334 (Addr.add a341 (Int.toNat x333 * 1)) (.int .i64 (-7 : Int)) fun w342 => 
(lv (IntKind.wrap .i64 (x333 + (1 : Int))) fun i_343 => (J332 [(.int .i64 i_343)] w342))))))))))))) (J5 [] w331))))))
 (fun J327 => (cond (e_306 != f_324) (J327 [(.bool true)] w318) (J327 [(.bool ((n303 : Int) != (n321 : Int)))] w318)))))))))))))))))))) (jn (fun s344 w345 => asB (s344.getD 0 undef) fun b347 => (cond b347 (dr b fun a348 => (ld w345 a348 fun v349 => asP v349 fun p350 => (cl Try.prog 67 #[(.pointer p350)] w345 fun v351 w352 => asP v351 fun p353 => 

(cond (Option.isNone p353) 
(Q (.bool false) w352) 
(dr b fun a354 => (ld w352 a354 fun v355 => asP v355 fun p356 => 
(jn (fun s357 w358 => asP (s357.getD 0 undef) fun p364 => (cl Try.prog 16 #[(.pointer p364), (.agg #[(.int .i64 (0 : Int)), (.int .i64 (0 : Int)), (.int .i64 (0 : Int)), (.int .i64 (1 : Int)), (.int .i64 (0 : Int)), (.int .i64 (0 : Int)), (.int .i64 (0 : Int)), (.int .i64 (0 : Int))])] w358 fun v365 w366 => asT 2 v365 fun t367 => asI .i64 (t367 0) fun x368 => asI .i64 (t367 1) fun x369 => 
(ld w366 (Addr.add (⟨r1, 0, none⟩ : Addr) 1) fun v370 => asI .i64 v370 fun x371 => (cl Try.prog 17 #[(.pointer p364), (.int .i64 x371)] w366 fun v372 w373 => asI .i64 v372 fun x374 => (J5 [] w373)))))
 (fun J359 => (ld w352 (⟨r1, 0, none⟩ : Addr) fun v360 => asI .i64 v360 fun x361 => 
(cond (x361 == (5 : Int)) (dr b fun a362 => (st w352 a362 (.pointer p353) fun w363 => (J359 [(.pointer p356)] w363))) (J359 [(.pointer p353)] w352))))))))))) (J5 [] w345)))
 (fun J346 => 
(cond (x7 == (5 : Int)) (J346 [(.bool (x7 == (5 : Int)))] w2) (J346 [(.bool (x7 == (6 : Int)))] w2)))))))))))))
theorem F39_link (b : Option Addr) (a_0 : Int) (a_1 : Int) (a_2 : Int) (a_3 : Int) (a_4 : Int) (a_5 : Int) (a_6 : Int) (a_7 : Int) (a_8 : Int) (a_9 : Int) (w : World) (Q : Value → World → Prop) : fnEv Try.prog Try.f39 h39 [(.pointer b), (.agg #[(.int .i64 a_0), (.int .i64 a_1), (.int .i64 a_2), (.int .i64 a_3), (.int .i64 a_4), (.int .i64 a_5), (.int .i64 a_6), (.int .i64 a_7), (.int .i64 a_8), (.int .i64 a_9)])] w Q = F39 b a_0 a_1 a_2 a_3 a_4 a_5 a_6 a_7 a_8 a_9 w Q := by kernel_rfl
theorem F39_calls {b : Option Addr} {a_0 : Int} {a_1 : Int} {a_2 : Int} {a_3 : Int} {a_4 : Int} {a_5 : Int} {a_6 : Int} {a_7 : Int} {a_8 : Int} {a_9 : Int} {w : World} {Q : Value → World → Prop} (hF_ : F39 b a_0 a_1 a_2 a_3 a_4 a_5 a_6 a_7 a_8 a_9 w Q) : cl Try.prog 39 #[(.pointer b), (.agg #[(.int .i64 a_0), (.int .i64 a_1), (.int .i64 a_2), (.int .i64 a_3), (.int .i64 a_4), (.int .i64 a_5), (.int .i64 a_6), (.int .i64 a_7), (.int .i64 a_8), (.int .i64 a_9)])] w Q :=
  calls_of_ev (fn := Try.f39) Try.func39 h39 (args := [(.pointer b), (.agg #[(.int .i64 a_0), (.int .i64 a_1), (.int .i64 a_2), (.int .i64 a_3), (.int .i64 a_4), (.int .i64 a_5), (.int .i64 a_6), (.int .i64 a_7), (.int .i64 a_8), (.int .i64 a_9)])]) (by rw [F39_link]; exact hF_)

/-! (*tiltyard/tiltyardref19.World).List -/
def h40 : Hint := (.s .d (.s .d (.s (.s .d (.l [(3, 43), (4, 3)] (.s .d (.j [(3, 43)] .d .d)))) .d)))
set_option linter.unusedVariables false in
def F40 (w' : Option Addr) (w : World) (Q : Value → World → Prop) : Prop :=
 

(lv (0 : Int) fun i_1 => 
(lp [(.slice none 0 0), (.int .i64 i_1)] w fun J4 s2 w3 => asS (s2.getD 0 undef) fun p5 n6 c7 => asI .i64 (s2.getD 1 undef) fun x8 => 
(cond (decide (x8 < (64 : Int))) 
(jn (fun s9 w10 => asS (s9.getD 0 undef) fun p39 n40 c41 => (lv (IntKind.wrap .i64 (x8 + (1 : Int))) fun i_42 => (J4 [(.slice p39 n40 c41), (.int .i64 i_42)] w10)))
 (fun J11 => (dr w' fun a12 => (bnd x8 64 (ld w3 (Addr.add (Addr.add a12 64) (Int.toNat x8 * 1)) fun v13 => asB v13 fun b14 => 
(cond b14 (dr w' fun a15 => (bnd x8 64 (ld w3 (Addr.add (Addr.add a15 128) (Int.toNat x8 * 8)) fun v16 => asI .i64 v16 fun x17 => (ld w3 (Addr.add (Addr.add (Addr.add a15 128) (Int.toNat x8 * 8)) 1) fun v18 => asI .i64 v18 fun x19 => (ld w3 (Addr.add (Addr.add (Addr.add a15 128) (Int.toNat x8 * 8)) 2) fun v20 => asI .i64 v20 fun x21 => (ld w3 (Addr.add (Addr.add (Addr.add a15 128) (Int.toNat x8 * 8)) 3) fun v22 => asI .i64 v22 fun x23 => (ld w3 (Addr.add (Addr.add (Addr.add a15 128) (Int.toNat x8 * 8)) 4) fun v24 => asI .i64 v24 fun x25 => (ld w3 (Addr.add (Addr.add (Addr.add a15 128) (Int.toNat x8 * 8)) 5) fun v26 => asI .i64 v26 fun x27 => (ld w3 (Addr.add (Addr.add (Addr.add a15 128) (Int.toNat x8 * 8)) 6) fun v28 => asI .i64 v28 fun x29 => (ld w3 (Addr.add (Addr.add (Addr.add a15 128) (Int.toNat x8 * 8)) 7) fun v30 => asI .i64 v30 fun x31 => (nw w3 (.cells #[(.int .i64 x17), (.int .i64 x19), (.int .i64 x21), (.int .i64 x23), (.int .i64 x25), (.int .i64 x27), (.int .i64 x29), (.int .i64 x31)] 27) fun r32 w33 => (rn Try.prog (Builtin.append_ #[43, 43] 43 #[(.slice p5 n6 c7), (.slice (some (⟨r32, 0, none⟩ : Addr)) 1 1)]) w33 fun v34 w35 => asS v34 fun p36 n37 c38 => (J11 [(.slice p36 n37 c38)] w35))))))))))))) (J11 [(.slice p5 n6 c7)] w3))))))) 

(Q (.slice p5 n6 c7) w3))))
theorem F40_link (w' : Option Addr) (w : World) (Q : Value → World → Prop) : fnEv Try.prog Try.f40 h40 [(.pointer w')] w Q = F40 w' w Q := by kernel_rfl
theorem F40_calls {w' : Option Addr} {w : World} {Q : Value → World → Prop} (hF_ : F40 w' w Q) : cl Try.prog 40 #[(.pointer w')] w Q :=
  calls_of_ev (fn := Try.f40) Try.func40 h40 (args := [(.pointer w')]) (by rw [F40_link]; exact hF_)

/-! tiltyard/tiltyardref19.Right -/
def h41 : Hint := (.s .d (.s .d (.s .d (.s (.j [(32, 4)] .d .d) (.s .d (.s .d (.s (.j [(56, 4)] .d .d) .d)))))))
set_option linter.unusedVariables false in
def F41 (e_0 : Int) (e_1 : Int) (e_2 : Int) (e_3 : Int) (e_4 : Int) (e_5 : Int) (e_6 : Int) (e_7 : Int) (w : World) (Q : Value → World → Prop) : Prop :=
 (nw w (.cells #[(.int .i64 e_0), (.int .i64 e_1), (.int .i64 e_2), (.int .i64 e_3), (.int .i64 e_4), (.int .i64 e_5), (.int .i64 e_6), (.int .i64 e_7)] 27) fun r1 w2 => (lv (0 : Int) fun y3 => 
(ld w2 (Addr.add (⟨r1, 0, none⟩ : Addr) 1) fun v4 => asI .i64 v4 fun x5 => (cl Try.prog 68 #[(.int .i64 x5), (.int .i64 (4398046511104 : Int))] w2 fun v6 w7 => asB v6 fun b8 => 
(ld w7 (Addr.add (Addr.add (⟨r1, 0, none⟩ : Addr) 1) 1) fun v9 => asI .i64 v9 fun x10 => (cl Try.prog 68 #[(.int .i64 x10), (.int .i64 (4398046511104 : Int))] w7 fun v11 w12 => asB v11 fun b13 => 
(jn (fun s14 w15 => asB (s14.getD 0 undef) fun b21 => (cond b21 (lv (60 : Int) fun y22 => 
(Q (.int .i64 y22) w15)) 
(ld w15 (Addr.add (⟨r1, 0, none⟩ : Addr) 4) fun v23 => asI .i64 v23 fun x24 => (cl Try.prog 68 #[(.int .i64 x24), (.int .i64 (17179869184 : Int))] w15 fun v25 w26 => asB v25 fun b27 => 
(ld w26 (Addr.add (Addr.add (⟨r1, 0, none⟩ : Addr) 4) 1) fun v28 => asI .i64 v28 fun x29 => (cl Try.prog 68 #[(.int .i64 x29), (.int .i64 (17179869184 : Int))] w26 fun v30 w31 => asB v30 fun b32 => 
(jn (fun s33 w34 => asB (s33.getD 0 undef) fun b40 => (cond b40 (lv (1 : Int) fun y41 => 
(Q (.int .i64 y41) w34)) 
(lv (0 : Int) fun y42 => 
(Q (.int .i64 y42) w34))))
 (fun J35 => (cond (!b27) (J35 [(.bool true)] w31) (cond (!b32) (J35 [(.bool true)] w31) (ld w31 (Addr.add (⟨r1, 0, none⟩ : Addr) 6) fun v36 => asI .i64 v36 fun x37 => (cond (decide (x37 < (0 : Int))) (J35 [(.bool true)] w31) (ld w31 (Addr.add (⟨r1, 0, none⟩ : Addr) 6) fun v38 => asI .i64 v38 fun x39 => (J35 [(.bool (decide (x39 > (8 : Int))))] w31))))))))))))))
 (fun J16 => (cond (!b8) (J16 [(.bool true)] w12) (cond (!b13) (J16 [(.bool true)] w12) (ld w12 (Addr.add (Addr.add (⟨r1, 0, none⟩ : Addr) 1) 2) fun v17 => asI .i64 v17 fun x18 => (cond (decide (x18 < (1 : Int))) (J16 [(.bool true)] w12) (ld w12 (Addr.add (Addr.add (⟨r1, 0, none⟩ : Addr) 1) 2) fun v19 => asI .i64 v19 fun x20 => (J16 [(.bool (decide (x20 > (17179869184 : Int))))] w12))))))))))))))
theorem F41_link (e_0 : Int) (e_1 : Int) (e_2 : Int) (e_3 : Int) (e_4 : Int) (e_5 : Int) (e_6 : Int) (e_7 : Int) (w : World) (Q : Value → World → Prop) : fnEv Try.prog Try.f41 h41 [(.agg #[(.int .i64 e_0), (.int .i64 e_1), (.int .i64 e_2), (.int .i64 e_3), (.int .i64 e_4), (.int .i64 e_5), (.int .i64 e_6), (.int .i64 e_7)])] w Q = F41 e_0 e_1 e_2 e_3 e_4 e_5 e_6 e_7 w Q := by kernel_rfl
theorem F41_calls {e_0 : Int} {e_1 : Int} {e_2 : Int} {e_3 : Int} {e_4 : Int} {e_5 : Int} {e_6 : Int} {e_7 : Int} {w : World} {Q : Value → World → Prop} (hF_ : F41 e_0 e_1 e_2 e_3 e_4 e_5 e_6 e_7 w Q) : cl Try.prog 41 #[(.agg #[(.int .i64 e_0), (.int .i64 e_1), (.int .i64 e_2), (.int .i64 e_3), (.int .i64 e_4), (.int .i64 e_5), (.int .i64 e_6), (.int .i64 e_7)])] w Q :=
  calls_of_ev (fn := Try.f41) Try.func41 h41 (args := [(.agg #[(.int .i64 e_0), (.int .i64 e_1), (.int .i64 e_2), (.int .i64 e_3), (.int .i64 e_4), (.int .i64 e_5), (.int .i64 e_6), (.int .i64 e_7)])]) (by rw [F41_link]; exact hF_)

/-! tiltyard/world.within -/
def h42 : Hint := (.s .d (.j [(4, 4)] .d .d))
set_option linter.unusedVariables false in
def F42 (n : Int) (most : Int) (w : World) (Q : Value → World → Prop) : Prop :=
 
(jn (fun s1 w2 => asB (s1.getD 0 undef) fun b4 => (Q (.bool b4) w2))
 (fun J3 => (cond (decide ((IntKind.wrap .i64 ((0 : Int) - most)) ≤ n)) (J3 [(.bool (decide (n ≤ most)))] w) (J3 [(.bool false)] w))))
theorem F42_link (n : Int) (most : Int) (w : World) (Q : Value → World → Prop) : fnEv Try.prog Try.f42 h42 [(.int .i64 n), (.int .i64 most)] w Q = F42 n most w Q := by kernel_rfl
theorem F42_calls {n : Int} {most : Int} {w : World} {Q : Value → World → Prop} (hF_ : F42 n most w Q) : cl Try.prog 42 #[(.int .i64 n), (.int .i64 most)] w Q :=
  calls_of_ev (fn := Try.f42) Try.func42 h42 (args := [(.int .i64 n), (.int .i64 most)]) (by rw [F42_link]; exact hF_)

/-! (*tiltyard/world.World).at -/
def h43 : Hint := (.s .d (.s .d (.s (.s .d (.j [(26, 4)] .d .d)) .d)))
set_option linter.unusedVariables false in
def F43 (w' : Option Addr) (h : Int) (w : World) (Q : Value → World → Prop) : Prop :=
 

(cond (decide (h < (64 : Int))) 
(Q (.pointer none) w) 
(dr w' fun a1 => (bnd (Int.tmod h (64 : Int)) 64 
(jn (fun s2 w3 => asB (s2.getD 0 undef) fun b9 => (cond b9 
(Q (.pointer (some (Addr.add (Addr.add a1 1) (Int.toNat (Int.tmod h (64 : Int)) * 10)))) w3) 

(Q (.pointer none) w3)))
 (fun J4 => (ld w (Addr.add (Addr.add (Addr.add a1 1) (Int.toNat (Int.tmod h (64 : Int)) * 10)) 1) fun v5 => asB v5 fun b6 => (cond b6 (ld w (Addr.add (Addr.add (Addr.add a1 1) (Int.toNat (Int.tmod h (64 : Int)) * 10)) 2) fun v7 => asI .i64 v7 fun x8 => (J4 [(.bool (x8 == h))] w)) (J4 [(.bool false)] w))))))))
theorem F43_link (w' : Option Addr) (h : Int) (w : World) (Q : Value → World → Prop) : fnEv Try.prog Try.f43 h43 [(.pointer w'), (.int .i64 h)] w Q = F43 w' h w Q := by kernel_rfl
theorem F43_calls {w' : Option Addr} {h : Int} {w : World} {Q : Value → World → Prop} (hF_ : F43 w' h w Q) : cl Try.prog 43 #[(.pointer w'), (.int .i64 h)] w Q :=
  calls_of_ev (fn := Try.f43) Try.func43 h43 (args := [(.pointer w'), (.int .i64 h)]) (by rw [F43_link]; exact hF_)

/-! tiltyard/grid.side -/
def h44 : Hint := (.s .d (.j [(2, 4)] .d .d))
set_option linter.unusedVariables false in
def F44 (s : Int) (w : World) (Q : Value → World → Prop) : Prop :=
 
(jn (fun s1 w2 => asB (s1.getD 0 undef) fun b4 => (Q (.bool b4) w2))
 (fun J3 => (cond (decide ((1 : Int) ≤ s)) (J3 [(.bool (decide (s ≤ (1099511627776 : Int))))] w) (J3 [(.bool false)] w))))
theorem F44_link (s : Int) (w : World) (Q : Value → World → Prop) : fnEv Try.prog Try.f44 h44 [(.int .i64 s)] w Q = F44 s w Q := by kernel_rfl
theorem F44_calls {s : Int} {w : World} {Q : Value → World → Prop} (hF_ : F44 s w Q) : cl Try.prog 44 #[(.int .i64 s)] w Q :=
  calls_of_ev (fn := Try.f44) Try.func44 h44 (args := [(.int .i64 s)]) (by rw [F44_link]; exact hF_)

/-! tiltyard/grid.cell -/
def h45 : Hint := .d
set_option linter.unusedVariables false in
def F45 (s : Int) (x : Int) (y : Int) (w : World) (Q : Value → World → Prop) : Prop :=
 
(cl Try.prog 69 #[(.int .i64 x), (.int .i64 s)] w fun v1 w2 => asF .f64 v1 fun f3 => (cl Try.prog 69 #[(.int .i64 y), (.int .i64 s)] w2 fun v4 w5 => asF .f64 v4 fun f6 => 
(Q (.complex .f64 f3 f6) w5)))
theorem F45_link (s : Int) (x : Int) (y : Int) (w : World) (Q : Value → World → Prop) : fnEv Try.prog Try.f45 h45 [(.int .i64 s), (.int .i64 x), (.int .i64 y)] w Q = F45 s x y w Q := by kernel_rfl
theorem F45_calls {s : Int} {x : Int} {y : Int} {w : World} {Q : Value → World → Prop} (hF_ : F45 s x y w Q) : cl Try.prog 45 #[(.int .i64 s), (.int .i64 x), (.int .i64 y)] w Q :=
  calls_of_ev (fn := Try.f45) Try.func45 h45 (args := [(.int .i64 s), (.int .i64 x), (.int .i64 y)]) (by rw [F45_link]; exact hF_)

/-! tiltyard/lattice.Cell -/
def h46 : Hint := (.s .d (.j [(2, 4)] .d .d))
set_option linter.unusedVariables false in
def F46 (p_r p_i : Nat) (w : World) (Q : Value → World → Prop) : Prop :=
 
(jn (fun s1 w2 => asB (s1.getD 0 undef) fun b10 => (Q (.bool b10) w2))
 (fun J3 => (cl Try.prog 70 #[(.float .f64 p_r)] w fun v4 w5 => asB v4 fun b6 => (cond b6 (cl Try.prog 70 #[(.float .f64 p_i)] w5 fun v7 w8 => asB v7 fun b9 => (J3 [(.bool b9)] w8)) (J3 [(.bool false)] w5)))))
theorem F46_link (p_r p_i : Nat) (w : World) (Q : Value → World → Prop) : fnEv Try.prog Try.f46 h46 [(.complex .f64 p_r p_i)] w Q = F46 p_r p_i w Q := by kernel_rfl
theorem F46_calls {p_r p_i : Nat} {w : World} {Q : Value → World → Prop} (hF_ : F46 p_r p_i w Q) : cl Try.prog 46 #[(.complex .f64 p_r p_i)] w Q :=
  calls_of_ev (fn := Try.f46) Try.func46 h46 (args := [(.complex .f64 p_r p_i)]) (by rw [F46_link]; exact hF_)

/-! tiltyard/tiltyardref18.Side -/
def h47 : Hint := (.s .d (.j [(2, 4)] .d .d))
set_option linter.unusedVariables false in
def F47 (s : Int) (w : World) (Q : Value → World → Prop) : Prop :=
 
(jn (fun s1 w2 => asB (s1.getD 0 undef) fun b4 => (Q (.bool b4) w2))
 (fun J3 => (cond (decide (s ≥ (1 : Int))) (J3 [(.bool (decide (s ≤ (1099511627776 : Int))))] w) (J3 [(.bool false)] w))))
theorem F47_link (s : Int) (w : World) (Q : Value → World → Prop) : fnEv Try.prog Try.f47 h47 [(.int .i64 s)] w Q = F47 s w Q := by kernel_rfl
theorem F47_calls {s : Int} {w : World} {Q : Value → World → Prop} (hF_ : F47 s w Q) : cl Try.prog 47 #[(.int .i64 s)] w Q :=
  calls_of_ev (fn := Try.f47) Try.func47 h47 (args := [(.int .i64 s)]) (by rw [F47_link]; exact hF_)

/-! tiltyard/tiltyardref18.down -/
def h48 : Hint := (.s .d (.s .d (.j [(5, 3)] .d .d)))
set_option linter.unusedVariables false in
def F48 (n : Int) (s : Int) (w : World) (Q : Value → World → Prop) : Prop :=
 (lv (0 : Int) fun y1 => 
(nz s (lv (IntKind.wrap .i64 (Int.tdiv n s)) fun q_2 => 
(jn (fun s3 w4 => asI .i64 (s3.getD 0 undef) fun x7 => (lv x7 fun y8 => 
(Q (.int .i64 y8) w4)))
 (fun J5 => (nz s 
(cond (decide ((Int.tmod n s) < (0 : Int))) (lv (IntKind.wrap .i64 (q_2 - (1 : Int))) fun q_6 => (J5 [(.int .i64 q_6)] w)) (J5 [(.int .i64 q_2)] w))))))))
theorem F48_link (n : Int) (s : Int) (w : World) (Q : Value → World → Prop) : fnEv Try.prog Try.f48 h48 [(.int .i64 n), (.int .i64 s)] w Q = F48 n s w Q := by kernel_rfl
theorem F48_calls {n : Int} {s : Int} {w : World} {Q : Value → World → Prop} (hF_ : F48 n s w Q) : cl Try.prog 48 #[(.int .i64 n), (.int .i64 s)] w Q :=
  calls_of_ev (fn := Try.f48) Try.func48 h48 (args := [(.int .i64 n), (.int .i64 s)]) (by rw [F48_link]; exact hF_)

/-! tiltyard/tiltyardref18.ok -/
def h49 : Hint := (.s .d (.j [(2, 4)] .d .d))
set_option linter.unusedVariables false in
def F49 (n : Int) (w : World) (Q : Value → World → Prop) : Prop :=
 
(jn (fun s1 w2 => asB (s1.getD 0 undef) fun b4 => (Q (.bool b4) w2))
 (fun J3 => (cond (decide (n ≥ (-1048576 : Int))) (J3 [(.bool (decide (n ≤ (1048576 : Int))))] w) (J3 [(.bool false)] w))))
theorem F49_link (n : Int) (w : World) (Q : Value → World → Prop) : fnEv Try.prog Try.f49 h49 [(.int .i64 n)] w Q = F49 n w Q := by kernel_rfl
theorem F49_calls {n : Int} {w : World} {Q : Value → World → Prop} (hF_ : F49 n w Q) : cl Try.prog 49 #[(.int .i64 n)] w Q :=
  calls_of_ev (fn := Try.f49) Try.func49 h49 (args := [(.int .i64 n)]) (by rw [F49_link]; exact hF_)

/-! tiltyard/tiltyardref06.Right -/
def h50 : Hint := (.s .d (.s .d (.s .d (.j [(2, 4)] .d .d))))
set_option linter.unusedVariables false in
def F50 (b_0 : Int) (b_1 : Int) (b_2 : Int) (w : World) (Q : Value → World → Prop) : Prop :=
 (nw w (.cells #[(.int .i64 b_0), (.int .i64 b_1), (.int .i64 b_2)] 25) fun r1 w2 => 
(ld w2 (⟨r1, 0, none⟩ : Addr) fun v3 => asI .i64 v3 fun x4 => (cl Try.prog 71 #[(.int .i64 x4)] w2 fun v5 w6 => asB v5 fun b7 => 
(ld w6 (Addr.add (⟨r1, 0, none⟩ : Addr) 1) fun v8 => asI .i64 v8 fun x9 => (cl Try.prog 71 #[(.int .i64 x9)] w6 fun v10 w11 => asB v10 fun b12 => 
(jn (fun s13 w14 => asB (s13.getD 0 undef) fun b20 => (Q (.bool b20) w14))
 (fun J15 => (cond b7 (cond b12 (ld w11 (Addr.add (⟨r1, 0, none⟩ : Addr) 2) fun v16 => asI .i64 v16 fun x17 => (cond (decide (x17 ≥ (1 : Int))) (ld w11 (Addr.add (⟨r1, 0, none⟩ : Addr) 2) fun v18 => asI .i64 v18 fun x19 => (J15 [(.bool (decide (x19 ≤ (1099511627776 : Int))))] w11)) (J15 [(.bool false)] w11))) (J15 [(.bool false)] w11)) (J15 [(.bool false)] w11)))))))))
theorem F50_link (b_0 : Int) (b_1 : Int) (b_2 : Int) (w : World) (Q : Value → World → Prop) : fnEv Try.prog Try.f50 h50 [(.agg #[(.int .i64 b_0), (.int .i64 b_1), (.int .i64 b_2)])] w Q = F50 b_0 b_1 b_2 w Q := by kernel_rfl
theorem F50_calls {b_0 : Int} {b_1 : Int} {b_2 : Int} {w : World} {Q : Value → World → Prop} (hF_ : F50 b_0 b_1 b_2 w Q) : cl Try.prog 50 #[(.agg #[(.int .i64 b_0), (.int .i64 b_1), (.int .i64 b_2)])] w Q :=
  calls_of_ev (fn := Try.f50) Try.func50 h50 (args := [(.agg #[(.int .i64 b_0), (.int .i64 b_1), (.int .i64 b_2)])]) (by rw [F50_link]; exact hF_)

/-! tiltyard/box.Gap -/
def h51 : Hint := (.s .d (.s (.j [(15, 4)] .d .d) (.s .d (.s (.o (ofL [0, 1, 2, 3, 4, 5, 6] .nil)) .d))))
set_option linter.unusedVariables false in
def F51 (a_0 : Int) (a_1 : Int) (a_2 : Int) (b_0 : Int) (b_1 : Int) (b_2 : Int) (w : World) (Q : Value → World → Prop) : Prop :=
 (nw w (.cells #[(.int .i64 a_0), (.int .i64 a_1), (.int .i64 a_2)] 25) fun r1 w2 => (nw w2 (.cells #[(.int .i64 b_0), (.int .i64 b_1), (.int .i64 b_2)] 25) fun r3 w4 => (lv (0 : Int) fun y5 => (lv (0 : Int) fun y6 => (lv (0 : Int) fun y7 => 
(jn (fun s8 w9 => asB (s8.getD 0 undef) fun b29 => (cond b29 (lv (0 : Int) fun y30 => (lv (0 : Int) fun y31 => (lv (60 : Int) fun y32 => 
(Q (.tuple #[(.int .i64 y30), (.int .i64 y31), (.int .i64 y32)]) w9)))) 
(ld w9 (⟨r1, 0, none⟩ : Addr) fun v33 => asI .i64 v33 fun x34 => (ld w9 (Addr.add (⟨r1, 0, none⟩ : Addr) 1) fun v35 => asI .i64 v35 fun x36 => (ld w9 (Addr.add (⟨r1, 0, none⟩ : Addr) 2) fun v37 => asI .i64 v37 fun x38 => (ld w9 (⟨r3, 0, none⟩ : Addr) fun v39 => asI .i64 v39 fun x40 => (ld w9 (Addr.add (⟨r3, 0, none⟩ : Addr) 1) fun v41 => asI .i64 v41 fun x42 => (ld w9 (Addr.add (⟨r3, 0, none⟩ : Addr) 2) fun v43 => asI .i64 v43 fun x44 => (cl Try.prog 72 #[(.agg #[(.int .i64 x34), (.int .i64 x36), (.int .i64 x38)]), (.agg #[(.int .i64 x40), (.int .i64 x42), (.int .i64 x44)])] w9 fun v45 w46 => asA 2 v45 fun a47 => asI .i64 (a47 0) fun x48 => asI .i64 (a47 1) fun x49 => (nw w46 (.cells #[(.int .i64 (0 : Int)), (.int .i64 (0 : Int))] 129) fun r50 w51 => (st w51 (⟨r50, 0, none⟩ : Addr) (.int .i64 x48) fun w52 => (st w52 (Addr.add (⟨r50, 0, none⟩ : Addr) 1) (.int .i64 x49) fun w53 => 
(dw w53 fun w54 => (ld w54 (⟨r50, 0, none⟩ : Addr) fun v55 => asI .i64 v55 fun x56 => (ld w54 (Addr.add (⟨r50, 0, none⟩ : Addr) 1) fun v57 => asI .i64 v57 fun x58 => (lv x56 fun y59 => (lv x58 fun y60 => (lv (0 : Int) fun y61 => 
(Q (.tuple #[(.int .i64 y59), (.int .i64 y60), (.int .i64 y61)]) w54)))))))))))))))))))
 (fun J10 => (ld w4 (⟨r1, 0, none⟩ : Addr) fun v11 => asI .i64 v11 fun x12 => (ld w4 (Addr.add (⟨r1, 0, none⟩ : Addr) 1) fun v13 => asI .i64 v13 fun x14 => (ld w4 (Addr.add (⟨r1, 0, none⟩ : Addr) 2) fun v15 => asI .i64 v15 fun x16 => (cl Try.prog 38 #[(.agg #[(.int .i64 x12), (.int .i64 x14), (.int .i64 x16)])] w4 fun v17 w18 => asI .i64 v17 fun x19 => (cond (x19 != (0 : Int)) (J10 [(.bool true)] w18) (ld w18 (⟨r3, 0, none⟩ : Addr) fun v20 => asI .i64 v20 fun x21 => (ld w18 (Addr.add (⟨r3, 0, none⟩ : Addr) 1) fun v22 => asI .i64 v22 fun x23 => (ld w18 (Addr.add (⟨r3, 0, none⟩ : Addr) 2) fun v24 => asI .i64 v24 fun x25 => (cl Try.prog 38 #[(.agg #[(.int .i64 x21), (.int .i64 x23), (.int .i64 x25)])] w18 fun v26 w27 => asI .i64 v26 fun x28 => (J10 [(.bool (x28 != (0 : Int)))] w27)))))))))))))))))
theorem F51_link (a_0 : Int) (a_1 : Int) (a_2 : Int) (b_0 : Int) (b_1 : Int) (b_2 : Int) (w : World) (Q : Value → World → Prop) : fnEv Try.prog Try.f51 h51 [(.agg #[(.int .i64 a_0), (.int .i64 a_1), (.int .i64 a_2)]), (.agg #[(.int .i64 b_0), (.int .i64 b_1), (.int .i64 b_2)])] w Q = F51 a_0 a_1 a_2 b_0 b_1 b_2 w Q := by kernel_rfl
theorem F51_calls {a_0 : Int} {a_1 : Int} {a_2 : Int} {b_0 : Int} {b_1 : Int} {b_2 : Int} {w : World} {Q : Value → World → Prop} (hF_ : F51 a_0 a_1 a_2 b_0 b_1 b_2 w Q) : cl Try.prog 51 #[(.agg #[(.int .i64 a_0), (.int .i64 a_1), (.int .i64 a_2)]), (.agg #[(.int .i64 b_0), (.int .i64 b_1), (.int .i64 b_2)])] w Q :=
  calls_of_ev (fn := Try.f51) Try.func51 h51 (args := [(.agg #[(.int .i64 a_0), (.int .i64 a_1), (.int .i64 a_2)]), (.agg #[(.int .i64 b_0), (.int .i64 b_1), (.int .i64 b_2)])]) (by rw [F51_link]; exact hF_)

/-! (*tiltyard/grid.Grid).put -/
def h52 : Hint := (.s .d (.s (.o (ofL [0, 1, 2, 3, 4, 5, 6] .nil)) (.s .d (.l [(18, 3)] .d))))
set_option linter.unusedVariables false in
def F52 (g : Option Addr) (id : Int) (b_0 : Int) (b_1 : Int) (b_2 : Int) (l : Option Addr) (l_n l_c : Nat) (w : World) (Q : Value → World → Prop) : Prop :=
 (nw w (.cells #[(.int .i64 b_0), (.int .i64 b_1), (.int .i64 b_2)] 25) fun r1 w2 => 
(dw w2 fun w3 => (dr g fun a4 => (ld w3 (Addr.add a4 1) fun v5 => asM v5 fun r6 => (ld w3 (⟨r1, 0, none⟩ : Addr) fun v7 => asI .i64 v7 fun x8 => (ld w3 (Addr.add (⟨r1, 0, none⟩ : Addr) 1) fun v9 => asI .i64 v9 fun x10 => (ld w3 (Addr.add (⟨r1, 0, none⟩ : Addr) 2) fun v11 => asI .i64 v11 fun x12 => (ru Try.prog (Instr.mapUpdate 114 (.map r6) (.int .i64 id) (.agg #[(.int .i64 x8), (.int .i64 x10), (.int .i64 x12)])) w3 fun w13 => 

(lp [(.int .i64 (0 : Int))] w13 fun J16 s14 w15 => asI .i64 (s14.getD 0 undef) fun x17 => 
(cond (decide (x17 < (l_n : Int))) 
(dr l fun a18 => (bnd x17 l_n (ld w15 (Addr.add a18 (Int.toNat x17 * 1)) fun v19 => asC .f64 v19 fun f20 g21 => 
(dr g fun a22 => (ld w15 (Addr.add a22 2) fun v23 => asM v23 fun r24 => (nw w15 (.cells #[(.int .i64 id)] 3) fun r25 w26 => (rn Try.prog (Instr.mapEntry 115 (.map r24) (.complex .f64 f20 g21)) w26 fun v27 w28 => asT 2 v27 fun t29 => asS (t29 0) fun p30 n31 c32 => asI .i64 (t29 1) fun x33 => (rn Try.prog (Builtin.append_ #[38, 38] 38 #[(.slice p30 n31 c32), (.slice (some (⟨r25, 0, none⟩ : Addr)) 1 1)]) w28 fun v34 w35 => asS v34 fun p36 n37 c38 => (ru Try.prog (Instr.entryStore 115 (.map r24) (.int .i64 x33) (.slice p36 n37 c38)) w35 fun w39 => 
(J16 [(.int .i64 (IntKind.wrap .i64 (x17 + (1 : Int))))] w39)))))))))) (Q (.tuple #[]) w15)))))))))))
theorem F52_link (g : Option Addr) (id : Int) (b_0 : Int) (b_1 : Int) (b_2 : Int) (l : Option Addr) (l_n l_c : Nat) (w : World) (Q : Value → World → Prop) : fnEv Try.prog Try.f52 h52 [(.pointer g), (.int .i64 id), (.agg #[(.int .i64 b_0), (.int .i64 b_1), (.int .i64 b_2)]), (.slice l l_n l_c)] w Q = F52 g id b_0 b_1 b_2 l l_n l_c w Q := by kernel_rfl
theorem F52_calls {g : Option Addr} {id : Int} {b_0 : Int} {b_1 : Int} {b_2 : Int} {l : Option Addr} {l_n l_c : Nat} {w : World} {Q : Value → World → Prop} (hF_ : F52 g id b_0 b_1 b_2 l l_n l_c w Q) : cl Try.prog 52 #[(.pointer g), (.int .i64 id), (.agg #[(.int .i64 b_0), (.int .i64 b_1), (.int .i64 b_2)]), (.slice l l_n l_c)] w Q :=
  calls_of_ev (fn := Try.f52) Try.func52 h52 (args := [(.pointer g), (.int .i64 id), (.agg #[(.int .i64 b_0), (.int .i64 b_1), (.int .i64 b_2)]), (.slice l l_n l_c)]) (by rw [F52_link]; exact hF_)

/-! slices.Sorted[int] -/
def h53 : Hint := .d
set_option linter.unusedVariables false in
def F53 (seq : Nat) (seq_fs seq_cs : Array Value) (w : World) (Q : Value → World → Prop) : Prop :=
 
(cl Try.prog 73 #[(.func (.func seq) seq_fs seq_cs)] w fun v1 w2 => asS v1 fun p3 n4 c5 => 
(cl Try.prog 74 #[(.slice p3 n4 c5)] w2 fun v6 w7 => 

(Q (.slice p3 n4 c5) w7)))
theorem F53_link (seq : Nat) (seq_fs seq_cs : Array Value) (w : World) (Q : Value → World → Prop) : fnEv Try.prog Try.f53 h53 [(.func (.func seq) seq_fs seq_cs)] w Q = F53 seq seq_fs seq_cs w Q := by kernel_rfl
theorem F53_calls {seq : Nat} {seq_fs seq_cs : Array Value} {w : World} {Q : Value → World → Prop} (hF_ : F53 seq seq_fs seq_cs w Q) : cl Try.prog 53 #[(.func (.func seq) seq_fs seq_cs)] w Q :=
  calls_of_ev (fn := Try.f53) Try.func53 h53 (args := [(.func (.func seq) seq_fs seq_cs)]) (by rw [F53_link]; exact hF_)

/-! maps.Keys[map[int]bool,int,bool] -/
def h54 : Hint := .d
set_option linter.unusedVariables false in
def F54 (m : Option Nat) (w : World) (Q : Value → World → Prop) : Prop :=
 (nw w (.cells #[(.map m)] 120) fun r1 w2 => 

(Q (.func (.func 75) #[] #[(.pointer (some (⟨r1, 0, none⟩ : Addr)))]) w2))
theorem F54_link (m : Option Nat) (w : World) (Q : Value → World → Prop) : fnEv Try.prog Try.f54 h54 [(.map m)] w Q = F54 m w Q := by kernel_rfl
theorem F54_calls {m : Option Nat} {w : World} {Q : Value → World → Prop} (hF_ : F54 m w Q) : cl Try.prog 54 #[(.map m)] w Q :=
  calls_of_ev (fn := Try.f54) Try.func54 h54 (args := [(.map m)]) (by rw [F54_link]; exact hF_)

/-! (*tiltyard/tiltyardref18.Grid).Put -/
def h55 : Hint := (.s .d (.s .d (.s .d (.s .d (.s (.o (ofL [0, 1, 2, 3, 4, 5, 6, 7, 8, 9, 10] .nil)) (.s .d (.s .d (.s .d (.j [(11, 38)] (.o (ofL [0, 1, 2, 3, 4, 5, 6, 8, 11, 12, 13, 14, 15, 16] (.alt (ofL [7, 9, 10, 17, 18] .nil) (ofL [9, 7, 10, 17, 18] .nil)))) (.j [(12, 82)] (.o (ofL [0, 1, 2, 3, 4, 5, 6, 8, 11, 12, 13, 14, 15, 16] (.alt (ofL [7, 9, 10, 17, 18] .nil) (ofL [9, 7, 10, 17, 18] .nil)))) .d))))))))))
set_option linter.unusedVariables false in
def F55 (g : Option Addr) (id : Int) (b_0 : Int) (b_1 : Int) (b_2 : Int) (w : World) (Q : Value → World → Prop) : Prop :=
 (nw w (.cells #[(.int .i64 b_0), (.int .i64 b_1), (.int .i64 b_2)] 25) fun r1 w2 => (lv (0 : Int) fun y3 => 

(cond (decide (id < (0 : Int))) (lv (1 : Int) fun y4 => 
(Q (.int .i64 y4) w2)) 
(cl Try.prog 76 #[(.pointer g), (.int .i64 id)] w2 fun v5 w6 => asT 2 v5 fun t7 => asI .i64 (t7 0) fun x8 => asB (t7 1) fun b9 => (lv x8 fun i_10 => 

(cond b9 (lv (180 : Int) fun y11 => 
(Q (.int .i64 y11) w6)) 
(dw w6 fun w12 => (dr g fun a13 => (ld w12 a13 fun v14 => asI .i64 v14 fun x15 => (ld w12 (⟨r1, 0, none⟩ : Addr) fun v16 => asI .i64 v16 fun x17 => (ld w12 (Addr.add (⟨r1, 0, none⟩ : Addr) 1) fun v18 => asI .i64 v18 fun x19 => (ld w12 (Addr.add (⟨r1, 0, none⟩ : Addr) 2) fun v20 => asI .i64 v20 fun x21 => (cl Try.prog 26 #[(.int .i64 x15), (.agg #[(.int .i64 x17), (.int .i64 x19), (.int .i64 x21)])] w12 fun v22 w23 => asT 2 v22 fun t24 => asS (t24 0) fun p25 n26 c27 => asI .i64 (t24 1) fun x28 => (lv x28 fun e_29 => 

(cond (e_29 != (0 : Int)) (lv e_29 fun y30 => 
(Q (.int .i64 y30) w23)) 


(jn (fun s31 w32 => asS (s31.getD 0 undef) fun p79 n80 c81 => (jn (fun s82 w83 => asS (s82.getD 0 undef) fun p136 n137 c138 => (dr g fun a139 => (st w83 (Addr.add a139 1) (.slice p79 n80 c81) fun w140 => 
(dr g fun a141 => (st w140 (Addr.add a141 2) (.slice p136 n137 c138) fun w142 => 
(lv (0 : Int) fun y143 => 
(Q (.int .i64 y143) w142)))))))
 (fun J84 => (dw w32 fun w85 => (dr g fun a86 => (ld w85 (Addr.add a86 2) fun v87 => asS v87 fun p88 n89 c90 => (bn2 i_10 c90 (ld w85 (⟨r1, 0, none⟩ : Addr) fun v91 => asI .i64 v91 fun x92 => (ld w85 (Addr.add (⟨r1, 0, none⟩ : Addr) 1) fun v93 => asI .i64 v93 fun x94 => (ld w85 (Addr.add (⟨r1, 0, none⟩ : Addr) 2) fun v95 => asI .i64 v95 fun x96 => (dr g fun a97 => (ld w85 (Addr.add a97 2) fun v98 => asS v98 fun p99 n100 c101 => (bn2 i_10 n100 
((rn Try.prog (Builtin.append_ #[82, 82] 82 #[(.slice none 0 0), (.slice p88 (Int.toNat i_10) c90)]) w85 fun v102 w103 => asS v102 fun p104 n105 c106 => (hd w103 (Addr.add a97 2) (.slice p99 n100 c101) (hd w103 (⟨r1, 0, none⟩ : Addr) (.int .i64 x92) (hd w103 (Addr.add (⟨r1, 0, none⟩ : Addr) 1) (.int .i64 x94) (hd w103 (Addr.add (⟨r1, 0, none⟩ : Addr) 2) (.int .i64 x96) (hd w103 (Addr.add a86 2) (.slice p88 n89 c90) (nw w103 (.cells #[(.int .i64 x92), (.int .i64 x94), (.int .i64 x96)] 25) fun r107 w108 => (hd w108 (Addr.add a97 2) (.slice p99 n100 c101) (hd w108 (Addr.add a86 2) (.slice p88 n89 c90) (rn Try.prog (Builtin.append_ #[82, 82] 82 #[(.slice p104 n105 c106), (.slice (some (⟨r107, 0, none⟩ : Addr)) 1 1)]) w108 fun v109 w110 => asS v109 fun p111 n112 c113 => (hd w110 (Addr.add a97 2) (.slice p99 n100 c101) (hd w110 (Addr.add a86 2) (.slice p88 n89 c90) (rn Try.prog (Builtin.append_ #[82, 82] 82 #[(.slice p111 n112 c113), (.slice (slp p99 c101 (Int.toNat i_10) 3) (n100 - (Int.toNat i_10)) (c101 - (Int.toNat i_10)))]) w110 fun v114 w115 => asS v114 fun p116 n117 c118 => (hd w115 (Addr.add a97 2) (.slice p99 n100 c101) (hd w115 (Addr.add a86 2) (.slice p88 n89 c90) (J84 [(.slice p116 n117 c118)] w115)))))))))))))))) ∧ (nw w85 (.cells #[(.int .i64 x92), (.int .i64 x94), (.int .i64 x96)] 25) fun r119 w120 => (hd w120 (Addr.add a97 2) (.slice p99 n100 c101) (hd w120 (Addr.add a86 2) (.slice p88 n89 c90) (rn Try.prog (Builtin.append_ #[82, 82] 82 #[(.slice none 0 0), (.slice p88 (Int.toNat i_10) c90)]) w120 fun v121 w122 => asS v121 fun p123 n124 c125 => (hd w122 (Addr.add a97 2) (.slice p99 n100 c101) (hd w122 (Addr.add a86 2) (.slice p88 n89 c90) (rn Try.prog (Builtin.append_ #[82, 82] 82 #[(.slice p123 n124 c125), (.slice (some (⟨r119, 0, none⟩ : Addr)) 1 1)]) w122 fun v126 w127 => asS v126 fun p128 n129 c130 => (hd w127 (Addr.add a97 2) (.slice p99 n100 c101) (hd w127 (Addr.add a86 2) (.slice p88 n89 c90) (rn Try.prog (Builtin.append_ #[82, 82] 82 #[(.slice p128 n129 c130), (.slice (slp p99 c101 (Int.toNat i_10) 3) (n100 - (Int.toNat i_10)) (c101 - (Int.toNat i_10)))]) w127 fun v131 w132 => asS v131 fun p133 n134 c135 => (hd w132 (Addr.add a97 2) (.slice p99 n100 c101) (hd w132 (Addr.add a86 2) (.slice p88 n89 c90) (J84 [(.slice p133 n134 c135)] w132)))))))))))))))))))))))))))
 (fun J33 => (dw w23 fun w34 => (dr g fun a35 => (ld w34 (Addr.add a35 1) fun v36 => asS v36 fun p37 n38 c39 => (bn2 i_10 c39 (dr g fun a40 => (ld w34 (Addr.add a40 1) fun v41 => asS v41 fun p42 n43 c44 => (bn2 i_10 n43 
((rn Try.prog (Builtin.append_ #[38, 38] 38 #[(.slice none 0 0), (.slice p37 (Int.toNat i_10) c39)]) w34 fun v45 w46 => asS v45 fun p47 n48 c49 => (hd w46 (Addr.add a40 1) (.slice p42 n43 c44) (hd w46 (Addr.add a35 1) (.slice p37 n38 c39) (nw w46 (.cells #[(.int .i64 id)] 3) fun r50 w51 => (hd w51 (Addr.add a40 1) (.slice p42 n43 c44) (hd w51 (Addr.add a35 1) (.slice p37 n38 c39) (rn Try.prog (Builtin.append_ #[38, 38] 38 #[(.slice p47 n48 c49), (.slice (some (⟨r50, 0, none⟩ : Addr)) 1 1)]) w51 fun v52 w53 => asS v52 fun p54 n55 c56 => (hd w53 (Addr.add a40 1) (.slice p42 n43 c44) (hd w53 (Addr.add a35 1) (.slice p37 n38 c39) (rn Try.prog (Builtin.append_ #[38, 38] 38 #[(.slice p54 n55 c56), (.slice (slp p42 c44 (Int.toNat i_10) 1) (n43 - (Int.toNat i_10)) (c44 - (Int.toNat i_10)))]) w53 fun v57 w58 => asS v57 fun p59 n60 c61 => (hd w58 (Addr.add a40 1) (.slice p42 n43 c44) (hd w58 (Addr.add a35 1) (.slice p37 n38 c39) (J33 [(.slice p59 n60 c61)] w58))))))))))))) ∧ (nw w34 (.cells #[(.int .i64 id)] 3) fun r62 w63 => (hd w63 (Addr.add a40 1) (.slice p42 n43 c44) (hd w63 (Addr.add a35 1) (.slice p37 n38 c39) (rn Try.prog (Builtin.append_ #[38, 38] 38 #[(.slice none 0 0), (.slice p37 (Int.toNat i_10) c39)]) w63 fun v64 w65 => asS v64 fun p66 n67 c68 => (hd w65 (Addr.add a40 1) (.slice p42 n43 c44) (hd w65 (Addr.add a35 1) (.slice p37 n38 c39) (rn Try.prog (Builtin.append_ #[38, 38] 38 #[(.slice p66 n67 c68), (.slice (some (⟨r62, 0, none⟩ : Addr)) 1 1)]) w65 fun v69 w70 => asS v69 fun p71 n72 c73 => (hd w70 (Addr.add a40 1) (.slice p42 n43 c44) (hd w70 (Addr.add a35 1) (.slice p37 n38 c39) (rn Try.prog (Builtin.append_ #[38, 38] 38 #[(.slice p71 n72 c73), (.slice (slp p42 c44 (Int.toNat i_10) 1) (n43 - (Int.toNat i_10)) (c44 - (Int.toNat i_10)))]) w70 fun v74 w75 => asS v74 fun p76 n77 c78 => (hd w75 (Addr.add a40 1) (.slice p42 n43 c44) (hd w75 (Addr.add a35 1) (.slice p37 n38 c39) (J33 [(.slice p76 n77 c78)] w75))))))))))))))))))))))))))))))))))))))
theorem F55_link (g : Option Addr) (id : Int) (b_0 : Int) (b_1 : Int) (b_2 : Int) (w : World) (Q : Value → World → Prop) : fnEv Try.prog Try.f55 h55 [(.pointer g), (.int .i64 id), (.agg #[(.int .i64 b_0), (.int .i64 b_1), (.int .i64 b_2)])] w Q = F55 g id b_0 b_1 b_2 w Q := by kernel_rfl
theorem F55_calls {g : Option Addr} {id : Int} {b_0 : Int} {b_1 : Int} {b_2 : Int} {w : World} {Q : Value → World → Prop} (hF_ : F55 g id b_0 b_1 b_2 w Q) : cl Try.prog 55 #[(.pointer g), (.int .i64 id), (.agg #[(.int .i64 b_0), (.int .i64 b_1), (.int .i64 b_2)])] w Q :=
  calls_of_ev (fn := Try.f55) Try.func55 h55 (args := [(.pointer g), (.int .i64 id), (.agg #[(.int .i64 b_0), (.int .i64 b_1), (.int .i64 b_2)])]) (by rw [F55_link]; exact hF_)

/-! (*tiltyard/tiltyardref18.Grid).Move -/
def h56 : Hint := (.s .d (.s .d (.s .d (.s (.o (ofL [0, 1, 2, 3, 4, 5, 6, 7, 8, 9, 10] .nil)) (.j [] (.s .d (.s (.o (ofL [0, 1, 2, 3, 4, 5, 6, 7] .nil)) .d)) .d)))))
set_option linter.unusedVariables false in
def F56 (g : Option Addr) (id : Int) (b_0 : Int) (b_1 : Int) (b_2 : Int) (w : World) (Q : Value → World → Prop) : Prop :=
 (nw w (.cells #[(.int .i64 b_0), (.int .i64 b_1), (.int .i64 b_2)] 25) fun r1 w2 => (lv (0 : Int) fun y3 => 
(cl Try.prog 76 #[(.pointer g), (.int .i64 id)] w2 fun v4 w5 => asT 2 v4 fun t6 => asI .i64 (t6 0) fun x7 => asB (t6 1) fun b8 => (lv x7 fun i_9 => 

(cond (!b8) (lv (181 : Int) fun y10 => 
(Q (.int .i64 y10) w5)) 
(dw w5 fun w11 => (dr g fun a12 => (ld w11 a12 fun v13 => asI .i64 v13 fun x14 => (ld w11 (⟨r1, 0, none⟩ : Addr) fun v15 => asI .i64 v15 fun x16 => (ld w11 (Addr.add (⟨r1, 0, none⟩ : Addr) 1) fun v17 => asI .i64 v17 fun x18 => (ld w11 (Addr.add (⟨r1, 0, none⟩ : Addr) 2) fun v19 => asI .i64 v19 fun x20 => (cl Try.prog 26 #[(.int .i64 x14), (.agg #[(.int .i64 x16), (.int .i64 x18), (.int .i64 x20)])] w11 fun v21 w22 => asT 2 v21 fun t23 => asS (t23 0) fun p24 n25 c26 => asI .i64 (t23 1) fun x27 => (lv x27 fun e_28 => 
(jn (fun s29 w30 => (lv e_28 fun y48 => 
(Q (.int .i64 y48) w30)))
 (fun J31 => 
(cond (e_28 == (0 : Int)) (dw w22 fun w32 => (dr g fun a33 => (ld w32 (Addr.add a33 2) fun v34 => asS v34 fun p35 n36 c37 => (ld w32 (⟨r1, 0, none⟩ : Addr) fun v38 => asI .i64 v38 fun x39 => (ld w32 (Addr.add (⟨r1, 0, none⟩ : Addr) 1) fun v40 => asI .i64 v40 fun x41 => (ld w32 (Addr.add (⟨r1, 0, none⟩ : Addr) 2) fun v42 => asI .i64 v42 fun x43 => (dr p35 fun a44 => (bnd i_9 n36 (st w32 (Addr.add a44 (Int.toNat i_9 * 3)) (.int .i64 x39) fun w45 => (st w45 (Addr.add (Addr.add a44 (Int.toNat i_9 * 3)) 1) (.int .i64 x41) fun w46 => (st w46 (Addr.add (Addr.add a44 (Int.toNat i_9 * 3)) 2) (.int .i64 x43) fun w47 => (J31 [] w47)))))))))))) (J31 [] w22)))))))))))))))))
theorem F56_link (g : Option Addr) (id : Int) (b_0 : Int) (b_1 : Int) (b_2 : Int) (w : World) (Q : Value → World → Prop) : fnEv Try.prog Try.f56 h56 [(.pointer g), (.int .i64 id), (.agg #[(.int .i64 b_0), (.int .i64 b_1), (.int .i64 b_2)])] w Q = F56 g id b_0 b_1 b_2 w Q := by kernel_rfl
theorem F56_calls {g : Option Addr} {id : Int} {b_0 : Int} {b_1 : Int} {b_2 : Int} {w : World} {Q : Value → World → Prop} (hF_ : F56 g id b_0 b_1 b_2 w Q) : cl Try.prog 56 #[(.pointer g), (.int .i64 id), (.agg #[(.int .i64 b_0), (.int .i64 b_1), (.int .i64 b_2)])] w Q :=
  calls_of_ev (fn := Try.f56) Try.func56 h56 (args := [(.pointer g), (.int .i64 id), (.agg #[(.int .i64 b_0), (.int .i64 b_1), (.int .i64 b_2)])]) (by rw [F56_link]; exact hF_)

/-! (*tiltyard/tiltyardref18.Grid).Drop -/
def h57 : Hint := (.s .d (.s .d (.s .d (.s .d (.s .d (.s (.o (ofL [0, 1, 2, 3, 4, 5, 6, 8, 9, 10, 11, 12, 13, 14, 7, 15, 16] .nil)) (.s (.o (ofL [0, 1, 2, 3, 4, 5, 6, 8, 9, 10, 11, 12, 13, 14, 7, 15, 16] .nil)) .d)))))))
set_option linter.unusedVariables false in
def F57 (g : Option Addr) (id : Int) (w : World) (Q : Value → World → Prop) : Prop :=
 (lv (0 : Int) fun y1 => 
(cl Try.prog 76 #[(.pointer g), (.int .i64 id)] w fun v2 w3 => asT 2 v2 fun t4 => asI .i64 (t4 0) fun x5 => asB (t4 1) fun b6 => (lv x5 fun i_7 => 

(cond (!b6) (lv (181 : Int) fun y8 => 
(Q (.int .i64 y8) w3)) 


(dw w3 fun w9 => (dr g fun a10 => (ld w9 (Addr.add a10 1) fun v11 => asS v11 fun p12 n13 c14 => (bn2 i_7 c14 (dr g fun a15 => (ld w9 (Addr.add a15 1) fun v16 => asS v16 fun p17 n18 c19 => (bn2 (IntKind.wrap .i64 (i_7 + (1 : Int))) n18 (rn Try.prog (Builtin.append_ #[38, 38] 38 #[(.slice none 0 0), (.slice p12 (Int.toNat i_7) c14)]) w9 fun v20 w21 => asS v20 fun p22 n23 c24 => (hd w21 (Addr.add a15 1) (.slice p17 n18 c19) (hd w21 (Addr.add a10 1) (.slice p12 n13 c14) (rn Try.prog (Builtin.append_ #[38, 38] 38 #[(.slice p22 n23 c24), (.slice (slp p17 c19 (Int.toNat (IntKind.wrap .i64 (i_7 + (1 : Int)))) 1) (n18 - (Int.toNat (IntKind.wrap .i64 (i_7 + (1 : Int))))) (c19 - (Int.toNat (IntKind.wrap .i64 (i_7 + (1 : Int))))))]) w21 fun v25 w26 => asS v25 fun p27 n28 c29 => (hd w26 (Addr.add a15 1) (.slice p17 n18 c19) (hd w26 (Addr.add a10 1) (.slice p12 n13 c14) 
(dw w26 fun w30 => (dr g fun a31 => (ld w30 (Addr.add a31 2) fun v32 => asS v32 fun p33 n34 c35 => (bn2 i_7 c35 (dr g fun a36 => (ld w30 (Addr.add a36 2) fun v37 => asS v37 fun p38 n39 c40 => (bn2 (IntKind.wrap .i64 (i_7 + (1 : Int))) n39 (rn Try.prog (Builtin.append_ #[82, 82] 82 #[(.slice none 0 0), (.slice p33 (Int.toNat i_7) c35)]) w30 fun v41 w42 => asS v41 fun p43 n44 c45 => (hd w42 (Addr.add a36 2) (.slice p38 n39 c40) (hd w42 (Addr.add a31 2) (.slice p33 n34 c35) (rn Try.prog (Builtin.append_ #[82, 82] 82 #[(.slice p43 n44 c45), (.slice (slp p38 c40 (Int.toNat (IntKind.wrap .i64 (i_7 + (1 : Int)))) 3) (n39 - (Int.toNat (IntKind.wrap .i64 (i_7 + (1 : Int))))) (c40 - (Int.toNat (IntKind.wrap .i64 (i_7 + (1 : Int))))))]) w42 fun v46 w47 => asS v46 fun p48 n49 c50 => (hd w47 (Addr.add a36 2) (.slice p38 n39 c40) (hd w47 (Addr.add a31 2) (.slice p33 n34 c35) 
(dr g fun a51 => (st w47 (Addr.add a51 1) (.slice p27 n28 c29) fun w52 => 
(dr g fun a53 => (st w52 (Addr.add a53 2) (.slice p48 n49 c50) fun w54 => 
(lv (0 : Int) fun y55 => 
(Q (.int .i64 y55) w54))))))))))))))))))))))))))))))))))))
theorem F57_link (g : Option Addr) (id : Int) (w : World) (Q : Value → World → Prop) : fnEv Try.prog Try.f57 h57 [(.pointer g), (.int .i64 id)] w Q = F57 g id w Q := by kernel_rfl
theorem F57_calls {g : Option Addr} {id : Int} {w : World} {Q : Value → World → Prop} (hF_ : F57 g id w Q) : cl Try.prog 57 #[(.pointer g), (.int .i64 id)] w Q :=
  calls_of_ev (fn := Try.f57) Try.func57 h57 (args := [(.pointer g), (.int .i64 id)]) (by rw [F57_link]; exact hF_)

/-! (*tiltyard/tiltyardref18.Grid).Near -/
def h58 : Hint := (.s .d (.s (.o (ofL [0, 1, 2, 3, 4, 5, 6, 7, 8, 9, 10] .nil)) (.s .d (.s .d (.s (.s .d (.l [(8, 38), (9, 3)] (.s .d (.j [(8, 38)] (.s (.o (ofL [0, 1, 2, 3, 4, 5, 6, 7, 8, 9, 10, 11, 12, 13] .nil)) .d) .d)))) .d)))))
set_option linter.unusedVariables false in
def F58 (g : Option Addr) (b_0 : Int) (b_1 : Int) (b_2 : Int) (w : World) (Q : Value → World → Prop) : Prop :=
 (nw w (.cells #[(.int .i64 b_0), (.int .i64 b_1), (.int .i64 b_2)] 25) fun r1 w2 => (lv (0 : Int) fun y3 => 
(dw w2 fun w4 => (dr g fun a5 => (ld w4 a5 fun v6 => asI .i64 v6 fun x7 => (ld w4 (⟨r1, 0, none⟩ : Addr) fun v8 => asI .i64 v8 fun x9 => (ld w4 (Addr.add (⟨r1, 0, none⟩ : Addr) 1) fun v10 => asI .i64 v10 fun x11 => (ld w4 (Addr.add (⟨r1, 0, none⟩ : Addr) 2) fun v12 => asI .i64 v12 fun x13 => (cl Try.prog 26 #[(.int .i64 x7), (.agg #[(.int .i64 x9), (.int .i64 x11), (.int .i64 x13)])] w4 fun v14 w15 => asT 2 v14 fun t16 => asS (t16 0) fun p17 n18 c19 => asI .i64 (t16 1) fun x20 => (lv x20 fun e_21 => 

(cond (e_21 != (0 : Int)) (lv e_21 fun y22 => 
(Q (.tuple #[(.slice none 0 0), (.int .i64 y22)]) w15)) 

(lv (0 : Int) fun i_23 => 
(lp [(.slice none 0 0), (.int .i64 i_23)] w15 fun J26 s24 w25 => asS (s24.getD 0 undef) fun p27 n28 c29 => asI .i64 (s24.getD 1 undef) fun x30 => (dr g fun a31 => (ld w25 (Addr.add a31 1) fun v32 => asS v32 fun p33 n34 c35 => 
(cond (decide (x30 < (n34 : Int))) 
(jn (fun s36 w37 => asS (s36.getD 0 undef) fun p79 n80 c81 => (lv (IntKind.wrap .i64 (x30 + (1 : Int))) fun i_82 => (J26 [(.slice p79 n80 c81), (.int .i64 i_82)] w37)))
 (fun J38 => (dw w25 fun w39 => (dr g fun a40 => (ld w39 (Addr.add a40 2) fun v41 => asS v41 fun p42 n43 c44 => (dr p42 fun a45 => (bnd x30 n43 (ld w39 (Addr.add a45 (Int.toNat x30 * 3)) fun v46 => asI .i64 v46 fun x47 => (ld w39 (Addr.add (Addr.add a45 (Int.toNat x30 * 3)) 1) fun v48 => asI .i64 v48 fun x49 => (ld w39 (Addr.add (Addr.add a45 (Int.toNat x30 * 3)) 2) fun v50 => asI .i64 v50 fun x51 => (ld w39 (⟨r1, 0, none⟩ : Addr) fun v52 => asI .i64 v52 fun x53 => (ld w39 (Addr.add (⟨r1, 0, none⟩ : Addr) 1) fun v54 => asI .i64 v54 fun x55 => (ld w39 (Addr.add (⟨r1, 0, none⟩ : Addr) 2) fun v56 => asI .i64 v56 fun x57 => (cl Try.prog 77 #[(.agg #[(.int .i64 x47), (.int .i64 x49), (.int .i64 x51)]), (.agg #[(.int .i64 x53), (.int .i64 x55), (.int .i64 x57)])] w39 fun v58 w59 => asT 2 v58 fun t60 => asB (t60 0) fun b61 => asI .i64 (t60 1) fun x62 => (hd w59 (Addr.add a40 2) (.slice p42 n43 c44) (lv x62 fun __63 => 

(cond b61 (dr g fun a64 => (ld w59 (Addr.add a64 1) fun v65 => asS v65 fun p66 n67 c68 => (dr p66 fun a69 => (bnd x30 n67 (ld w59 (Addr.add a69 (Int.toNat x30 * 1)) fun v70 => asI .i64 v70 fun x71 => (nw w59 (.cells #[(.int .i64 x71)] 3) fun r72 w73 => (rn Try.prog (Builtin.append_ #[38, 38] 38 #[(.slice p27 n28 c29), (.slice (some (⟨r72, 0, none⟩ : Addr)) 1 1)]) w73 fun v74 w75 => asS v74 fun p76 n77 c78 => (J38 [(.slice p76 n77 c78)] w75)))))))) (J38 [(.slice p27 n28 c29)] w59)))))))))))))))))) 
(lv (0 : Int) fun y83 => 
(Q (.tuple #[(.slice p27 n28 c29), (.int .i64 y83)]) w25))))))))))))))))))
theorem F58_link (g : Option Addr) (b_0 : Int) (b_1 : Int) (b_2 : Int) (w : World) (Q : Value → World → Prop) : fnEv Try.prog Try.f58 h58 [(.pointer g), (.agg #[(.int .i64 b_0), (.int .i64 b_1), (.int .i64 b_2)])] w Q = F58 g b_0 b_1 b_2 w Q := by kernel_rfl
theorem F58_calls {g : Option Addr} {b_0 : Int} {b_1 : Int} {b_2 : Int} {w : World} {Q : Value → World → Prop} (hF_ : F58 g b_0 b_1 b_2 w Q) : cl Try.prog 58 #[(.pointer g), (.agg #[(.int .i64 b_0), (.int .i64 b_1), (.int .i64 b_2)])] w Q :=
  calls_of_ev (fn := Try.f58) Try.func58 h58 (args := [(.pointer g), (.agg #[(.int .i64 b_0), (.int .i64 b_1), (.int .i64 b_2)])]) (by rw [F58_link]; exact hF_)

/-! tiltyard/tiltyardlaw18.row -/
def h59 : Hint := (.s .d (.s .d (.s (.s .d (.l [(5, 3)] (.s .d (.s (.s (.s (.o (ofL [0, 1, 2, 3, 4, 5, 6, 7, 8] .nil)) .d) .d) .d)))) .d)))
set_option linter.unusedVariables false in
def F59 (a : Option Addr) (a_n a_c : Nat) (b : Option Addr) (b_n b_c : Nat) (w : World) (Q : Value → World → Prop) : Prop :=
 

(cond ((a_n : Int) != (b_n : Int)) 
(Q (.bool false) w) 
(lv (0 : Int) fun i_1 => 
(lp [(.int .i64 i_1)] w fun J4 s2 w3 => asI .i64 (s2.getD 0 undef) fun x5 => 
(cond (decide (x5 < (a_n : Int))) 
(dw w3 fun w6 => (dr a fun a7 => (bnd x5 a_n (ld w6 (Addr.add a7 (Int.toNat x5 * 1)) fun v8 => asI .i64 v8 fun x9 => (dr b fun a10 => (bnd x5 b_n (ld w6 (Addr.add a10 (Int.toNat x5 * 1)) fun v11 => asI .i64 v11 fun x12 => 
(cond (x9 != x12) 
(Q (.bool false) w6) 
(dr a fun a13 => (bnd x5 a_n (st w6 (Addr.add a13 (Int.toNat x5 * 1)) (.int .i64 (-7 : Int)) fun w14 => 
(lv (IntKind.wrap .i64 (x5 + (1 : Int))) fun i_15 => (J4 [(.int .i64 i_15)] w14))))))))))))) 

(Q (.bool true) w3)))))
theorem F59_link (a : Option Addr) (a_n a_c : Nat) (b : Option Addr) (b_n b_c : Nat) (w : World) (Q : Value → World → Prop) : fnEv Try.prog Try.f59 h59 [(.slice a a_n a_c), (.slice b b_n b_c)] w Q = F59 a a_n a_c b b_n b_c w Q := by kernel_rfl
theorem F59_calls {a : Option Addr} {a_n a_c : Nat} {b : Option Addr} {b_n b_c : Nat} {w : World} {Q : Value → World → Prop} (hF_ : F59 a a_n a_c b b_n b_c w Q) : cl Try.prog 59 #[(.slice a a_n a_c), (.slice b b_n b_c)] w Q :=
  calls_of_ev (fn := Try.f59) Try.func59 h59 (args := [(.slice a a_n a_c), (.slice b b_n b_c)]) (by rw [F59_link]; exact hF_)

/-! (*tiltyard/grid.Grid).drop -/
def h60 : Hint := (.s .d (.s (.o (ofL [0, 1, 2, 3, 4, 5, 6, 7, 8, 9, 10, 11, 12, 13, 14, 15] .nil)) (.s (.s .d (.l [(25, 3)] (.s .d (.s .d (.j [] .d .d))))) (.o (ofL [0, 1, 2, 3, 4, 5] .nil)))))
set_option linter.unusedVariables false in
def F60 (g : Option Addr) (id : Int) (w : World) (Q : Value → World → Prop) : Prop :=
 (nw w (.cells #[(.int .i64 id)] 3) fun r1 w2 => 
(dw w2 fun w3 => (dr g fun a4 => (ld w3 a4 fun v5 => asI .i64 v5 fun x6 => (dr g fun a7 => (ld w3 (Addr.add a7 1) fun v8 => asM v8 fun r9 => (ld w3 (⟨r1, 0, none⟩ : Addr) fun v10 => asI .i64 v10 fun x11 => (rq Try.prog (Instr.lookup 114 (.map r9) (.int .i64 x11) false) w3 fun v12 => asA 3 v12 fun a13 => asI .i64 (a13 0) fun x14 => asI .i64 (a13 1) fun x15 => asI .i64 (a13 2) fun x16 => (cl Try.prog 24 #[(.int .i64 x6), (.agg #[(.int .i64 x14), (.int .i64 x15), (.int .i64 x16)])] w3 fun v17 w18 => asT 2 v17 fun t19 => asS (t19 0) fun p20 n21 c22 => asI .i64 (t19 1) fun x23 => (hd w18 (⟨r1, 0, none⟩ : Addr) (.int .i64 x11) (hd w18 (Addr.add a7 1) (.map r9) (lv x23 fun __24 => 

(lp [(.int .i64 (0 : Int))] w18 fun J27 s25 w26 => asI .i64 (s25.getD 0 undef) fun x28 => 
(cond (decide (x28 < (n21 : Int))) 
(jn (fun s29 w30 => (J27 [(.int .i64 (IntKind.wrap .i64 (x28 + (1 : Int))))] w30))
 (fun J31 => (dr p20 fun a32 => (bnd x28 n21 (ld w26 (Addr.add a32 (Int.toNat x28 * 1)) fun v33 => asC .f64 v33 fun f34 g35 => 
(dr g fun a36 => (ld w26 (Addr.add a36 2) fun v37 => asM v37 fun r38 => (rq Try.prog (Instr.lookup 115 (.map r38) (.complex .f64 f34 g35) false) w26 fun v39 => asS v39 fun p40 n41 c42 => (cl Try.prog 78 #[(.slice p40 n41 c42), (.func (.func 79) #[] #[(.pointer (some (⟨r1, 0, none⟩ : Addr)))])] w26 fun v43 w44 => asS v43 fun p45 n46 c47 => 
(dr g fun a48 => (ld w44 (Addr.add a48 2) fun v49 => asM v49 fun r50 => (ru Try.prog (Instr.mapUpdate 115 (.map r50) (.complex .f64 f34 g35) (.slice p45 n46 c47)) w44 fun w51 => 

(cond ((n46 : Int) == (0 : Int)) (dr g fun a52 => (ld w51 (Addr.add a52 2) fun v53 => asM v53 fun r54 => (rn Try.prog (Builtin.delete_ #[115, 49] 0 #[(.map r54), (.complex .f64 f34 g35)]) w51 fun v55 w56 => (J31 [] w56)))) (J31 [] w51)))))))))))))) 
(dw w26 fun w57 => (dr g fun a58 => (ld w57 (Addr.add a58 1) fun v59 => asM v59 fun r60 => (ld w57 (⟨r1, 0, none⟩ : Addr) fun v61 => asI .i64 v61 fun x62 => (rn Try.prog (Builtin.delete_ #[114, 3] 0 #[(.map r60), (.int .i64 x62)]) w57 fun v63 w64 => (Q (.tuple #[]) w64))))))))))))))))))))
theorem F60_link (g : Option Addr) (id : Int) (w : World) (Q : Value → World → Prop) : fnEv Try.prog Try.f60 h60 [(.pointer g), (.int .i64 id)] w Q = F60 g id w Q := by kernel_rfl
theorem F60_calls {g : Option Addr} {id : Int} {w : World} {Q : Value → World → Prop} (hF_ : F60 g id w Q) : cl Try.prog 60 #[(.pointer g), (.int .i64 id)] w Q :=
  calls_of_ev (fn := Try.f60) Try.func60 h60 (args := [(.pointer g), (.int .i64 id)]) (by rw [F60_link]; exact hF_)

/-! tiltyard/box.within -/
def h61 : Hint := (.s .d (.j [(2, 4)] .d .d))
set_option linter.unusedVariables false in
def F61 (n : Int) (w : World) (Q : Value → World → Prop) : Prop :=
 
(jn (fun s1 w2 => asB (s1.getD 0 undef) fun b4 => (Q (.bool b4) w2))
 (fun J3 => (cond (decide ((-1152921504606846976 : Int) ≤ n)) (J3 [(.bool (decide (n ≤ (1152921504606846976 : Int))))] w) (J3 [(.bool false)] w))))
theorem F61_link (n : Int) (w : World) (Q : Value → World → Prop) : fnEv Try.prog Try.f61 h61 [(.int .i64 n)] w Q = F61 n w Q := by kernel_rfl
theorem F61_calls {n : Int} {w : World} {Q : Value → World → Prop} (hF_ : F61 n w Q) : cl Try.prog 61 #[(.int .i64 n)] w Q :=
  calls_of_ev (fn := Try.f61) Try.func61 h61 (args := [(.int .i64 n)]) (by rw [F61_link]; exact hF_)

/-! (*tiltyard/tiltyardref19.World).Spawn -/
def h62 : Hint := (.s .d (.s .d (.s .d (.s (.s .d (.l [(7, 3)] (.s .d (.s (.j [(32, 4)] .d (.s (.s (.o (ofL [0, 1, 2, 3, 4, 5, 6, 7, 8, 9, 10] .nil)) (.s .d (.s .d (.s (.o (ofL [0, 1, 2, 3, 4, 5, 6] .nil)) .d)))) .d)) .d)))) .d))))
set_option linter.unusedVariables false in
def F62 (w' : Option Addr) (e_0 : Int) (e_1 : Int) (e_2 : Int) (e_3 : Int) (e_4 : Int) (e_5 : Int) (e_6 : Int) (e_7 : Int) (w : World) (Q : Value → World → Prop) : Prop :=
 (nw w (.cells #[(.int .i64 e_0), (.int .i64 e_1), (.int .i64 e_2), (.int .i64 e_3), (.int .i64 e_4), (.int .i64 e_5), (.int .i64 e_6), (.int .i64 e_7)] 27) fun r1 w2 => (lv (0 : Int) fun y3 => (lv (0 : Int) fun y4 => 
(ld w2 (⟨r1, 0, none⟩ : Addr) fun v5 => asI .i64 v5 fun x6 => (ld w2 (Addr.add (⟨r1, 0, none⟩ : Addr) 1) fun v7 => asI .i64 v7 fun x8 => (ld w2 (Addr.add (⟨r1, 0, none⟩ : Addr) 2) fun v9 => asI .i64 v9 fun x10 => (ld w2 (Addr.add (⟨r1, 0, none⟩ : Addr) 3) fun v11 => asI .i64 v11 fun x12 => (ld w2 (Addr.add (⟨r1, 0, none⟩ : Addr) 4) fun v13 => asI .i64 v13 fun x14 => (ld w2 (Addr.add (⟨r1, 0, none⟩ : Addr) 5) fun v15 => asI .i64 v15 fun x16 => (ld w2 (Addr.add (⟨r1, 0, none⟩ : Addr) 6) fun v17 => asI .i64 v17 fun x18 => (ld w2 (Addr.add (⟨r1, 0, none⟩ : Addr) 7) fun v19 => asI .i64 v19 fun x20 => (cl Try.prog 41 #[(.agg #[(.int .i64 x6), (.int .i64 x8), (.int .i64 x10), (.int .i64 x12), (.int .i64 x14), (.int .i64 x16), (.int .i64 x18), (.int .i64 x20)])] w2 fun v21 w22 => asI .i64 v21 fun x23 => (lv x23 fun bad_24 => 

(cond (bad_24 != (0 : Int)) (lv (0 : Int) fun y25 => (lv bad_24 fun y26 => 
(Q (.tuple #[(.int .i64 y25), (.int .i64 y26)]) w22))) 
(lv (0 : Int) fun i_27 => 
(lp [(.int .i64 i_27)] w22 fun J30 s28 w29 => asI .i64 (s28.getD 0 undef) fun x31 => 
(cond (decide (x31 < (64 : Int))) 
(jn (fun s32 w33 => asB (s32.getD 0 undef) fun b41 => (cond b41 (dw w33 fun w42 => (dr w' fun a43 => (bnd x31 64 (ld w42 (Addr.add a43 (Int.toNat x31 * 1)) fun v44 => asI .i64 v44 fun x45 => (dr w' fun a46 => (bnd x31 64 (st w42 (Addr.add a46 (Int.toNat x31 * 1)) (.int .i64 (IntKind.wrap .i64 (x45 + (1 : Int)))) fun w47 => 
(dr w' fun a48 => (bnd x31 64 (ld w47 (Addr.add a48 (Int.toNat x31 * 1)) fun v49 => asI .i64 v49 fun x50 => (st w47 (⟨r1, 0, none⟩ : Addr) (.int .i64 (IntKind.wrap .i64 ((IntKind.wrap .i64 (x50 * (64 : Int))) + x31))) fun w51 => 
(dr w' fun a52 => (bnd x31 64 (st w51 (Addr.add (Addr.add a52 64) (Int.toNat x31 * 1)) (.bool true) fun w53 => 
(dw w53 fun w54 => (ld w54 (⟨r1, 0, none⟩ : Addr) fun v55 => asI .i64 v55 fun x56 => (ld w54 (Addr.add (⟨r1, 0, none⟩ : Addr) 1) fun v57 => asI .i64 v57 fun x58 => (ld w54 (Addr.add (⟨r1, 0, none⟩ : Addr) 2) fun v59 => asI .i64 v59 fun x60 => (ld w54 (Addr.add (⟨r1, 0, none⟩ : Addr) 3) fun v61 => asI .i64 v61 fun x62 => (ld w54 (Addr.add (⟨r1, 0, none⟩ : Addr) 4) fun v63 => asI .i64 v63 fun x64 => (ld w54 (Addr.add (⟨r1, 0, none⟩ : Addr) 5) fun v65 => asI .i64 v65 fun x66 => (ld w54 (Addr.add (⟨r1, 0, none⟩ : Addr) 6) fun v67 => asI .i64 v67 fun x68 => (ld w54 (Addr.add (⟨r1, 0, none⟩ : Addr) 7) fun v69 => asI .i64 v69 fun x70 => (dr w' fun a71 => (bnd x31 64 (st w54 (Addr.add (Addr.add a71 128) (Int.toNat x31 * 8)) (.int .i64 x56) fun w72 => (st w72 (Addr.add (Addr.add (Addr.add a71 128) (Int.toNat x31 * 8)) 1) (.int .i64 x58) fun w73 => (st w73 (Addr.add (Addr.add (Addr.add a71 128) (Int.toNat x31 * 8)) 2) (.int .i64 x60) fun w74 => (st w74 (Addr.add (Addr.add (Addr.add a71 128) (Int.toNat x31 * 8)) 3) (.int .i64 x62) fun w75 => (st w75 (Addr.add (Addr.add (Addr.add a71 128) (Int.toNat x31 * 8)) 4) (.int .i64 x64) fun w76 => (st w76 (Addr.add (Addr.add (Addr.add a71 128) (Int.toNat x31 * 8)) 5) (.int .i64 x66) fun w77 => (st w77 (Addr.add (Addr.add (Addr.add a71 128) (Int.toNat x31 * 8)) 6) (.int .i64 x68) fun w78 => (st w78 (Addr.add (Addr.add (Addr.add a71 128) (Int.toNat x31 * 8)) 7) (.int .i64 x70) fun w79 => 
(ld w79 (⟨r1, 0, none⟩ : Addr) fun v80 => asI .i64 v80 fun x81 => (lv x81 fun y82 => (lv (0 : Int) fun y83 => 
(Q (.tuple #[(.int .i64 y82), (.int .i64 y83)]) w79))))))))))))))))))))))))))))))))))))) 
(lv (IntKind.wrap .i64 (x31 + (1 : Int))) fun i_84 => (J30 [(.int .i64 i_84)] w33))))
 (fun J34 => (dr w' fun a35 => (bnd x31 64 (ld w29 (Addr.add (Addr.add a35 64) (Int.toNat x31 * 1)) fun v36 => asB v36 fun b37 => (cond (!b37) (dr w' fun a38 => (bnd x31 64 (ld w29 (Addr.add a38 (Int.toNat x31 * 1)) fun v39 => asI .i64 v39 fun x40 => (J34 [(.bool (decide (x40 < (1099511627776 : Int))))] w29)))) (J34 [(.bool false)] w29))))))) 
(lv (0 : Int) fun y85 => (lv (2 : Int) fun y86 => 
(Q (.tuple #[(.int .i64 y85), (.int .i64 y86)]) w29))))))))))))))))))))
theorem F62_link (w' : Option Addr) (e_0 : Int) (e_1 : Int) (e_2 : Int) (e_3 : Int) (e_4 : Int) (e_5 : Int) (e_6 : Int) (e_7 : Int) (w : World) (Q : Value → World → Prop) : fnEv Try.prog Try.f62 h62 [(.pointer w'), (.agg #[(.int .i64 e_0), (.int .i64 e_1), (.int .i64 e_2), (.int .i64 e_3), (.int .i64 e_4), (.int .i64 e_5), (.int .i64 e_6), (.int .i64 e_7)])] w Q = F62 w' e_0 e_1 e_2 e_3 e_4 e_5 e_6 e_7 w Q := by kernel_rfl
theorem F62_calls {w' : Option Addr} {e_0 : Int} {e_1 : Int} {e_2 : Int} {e_3 : Int} {e_4 : Int} {e_5 : Int} {e_6 : Int} {e_7 : Int} {w : World} {Q : Value → World → Prop} (hF_ : F62 w' e_0 e_1 e_2 e_3 e_4 e_5 e_6 e_7 w Q) : cl Try.prog 62 #[(.pointer w'), (.agg #[(.int .i64 e_0), (.int .i64 e_1), (.int .i64 e_2), (.int .i64 e_3), (.int .i64 e_4), (.int .i64 e_5), (.int .i64 e_6), (.int .i64 e_7)])] w Q :=
  calls_of_ev (fn := Try.f62) Try.func62 h62 (args := [(.pointer w'), (.agg #[(.int .i64 e_0), (.int .i64 e_1), (.int .i64 e_2), (.int .i64 e_3), (.int .i64 e_4), (.int .i64 e_5), (.int .i64 e_6), (.int .i64 e_7)])]) (by rw [F62_link]; exact hF_)

/-! (*tiltyard/tiltyardref19.World).Kill -/
def h63 : Hint := .d
set_option linter.unusedVariables false in
def F63 (w' : Option Addr) (h : Int) (w : World) (Q : Value → World → Prop) : Prop :=
 (lv (0 : Int) fun y1 => 
(cl Try.prog 80 #[(.pointer w'), (.int .i64 h)] w fun v2 w3 => asI .i64 v2 fun x4 => (lv x4 fun i_5 => 

(cond (decide (i_5 < (0 : Int))) (lv (190 : Int) fun y6 => 
(Q (.int .i64 y6) w3)) 
(dr w' fun a7 => (bnd i_5 64 (st w3 (Addr.add (Addr.add a7 64) (Int.toNat i_5 * 1)) (.bool false) fun w8 => 
(lv (0 : Int) fun y9 => 
(Q (.int .i64 y9) w8)))))))))
theorem F63_link (w' : Option Addr) (h : Int) (w : World) (Q : Value → World → Prop) : fnEv Try.prog Try.f63 h63 [(.pointer w'), (.int .i64 h)] w Q = F63 w' h w Q := by kernel_rfl
theorem F63_calls {w' : Option Addr} {h : Int} {w : World} {Q : Value → World → Prop} (hF_ : F63 w' h w Q) : cl Try.prog 63 #[(.pointer w'), (.int .i64 h)] w Q :=
  calls_of_ev (fn := Try.f63) Try.func63 h63 (args := [(.pointer w'), (.int .i64 h)]) (by rw [F63_link]; exact hF_)

/-! (*tiltyard/tiltyardref19.World).Get -/
def h64 : Hint := .d
set_option linter.unusedVariables false in
def F64 (w' : Option Addr) (h : Int) (w : World) (Q : Value → World → Prop) : Prop :=
 (nw w (.cells #[(.int .i64 (0 : Int)), (.int .i64 (0 : Int)), (.int .i64 (0 : Int)), (.int .i64 (0 : Int)), (.int .i64 (0 : Int)), (.int .i64 (0 : Int)), (.int .i64 (0 : Int)), (.int .i64 (0 : Int))] 27) fun r1 w2 => (lv (0 : Int) fun y3 => 
(cl Try.prog 80 #[(.pointer w'), (.int .i64 h)] w2 fun v4 w5 => asI .i64 v4 fun x6 => (lv x6 fun i_7 => 

(cond (decide (i_7 < (0 : Int))) (st w5 (⟨r1, 0, none⟩ : Addr) (.int .i64 (0 : Int)) fun w8 => (st w8 (Addr.add (⟨r1, 0, none⟩ : Addr) 1) (.int .i64 (0 : Int)) fun w9 => (st w9 (Addr.add (⟨r1, 0, none⟩ : Addr) 2) (.int .i64 (0 : Int)) fun w10 => (st w10 (Addr.add (⟨r1, 0, none⟩ : Addr) 3) (.int .i64 (0 : Int)) fun w11 => (st w11 (Addr.add (⟨r1, 0, none⟩ : Addr) 4) (.int .i64 (0 : Int)) fun w12 => (st w12 (Addr.add (⟨r1, 0, none⟩ : Addr) 5) (.int .i64 (0 : Int)) fun w13 => (st w13 (Addr.add (⟨r1, 0, none⟩ : Addr) 6) (.int .i64 (0 : Int)) fun w14 => (st w14 (Addr.add (⟨r1, 0, none⟩ : Addr) 7) (.int .i64 (0 : Int)) fun w15 => (lv (190 : Int) fun y16 => 
(ld w15 (⟨r1, 0, none⟩ : Addr) fun v17 => asI .i64 v17 fun x18 => (ld w15 (Addr.add (⟨r1, 0, none⟩ : Addr) 1) fun v19 => asI .i64 v19 fun x20 => (ld w15 (Addr.add (⟨r1, 0, none⟩ : Addr) 2) fun v21 => asI .i64 v21 fun x22 => (ld w15 (Addr.add (⟨r1, 0, none⟩ : Addr) 3) fun v23 => asI .i64 v23 fun x24 => (ld w15 (Addr.add (⟨r1, 0, none⟩ : Addr) 4) fun v25 => asI .i64 v25 fun x26 => (ld w15 (Addr.add (⟨r1, 0, none⟩ : Addr) 5) fun v27 => asI .i64 v27 fun x28 => (ld w15 (Addr.add (⟨r1, 0, none⟩ : Addr) 6) fun v29 => asI .i64 v29 fun x30 => (ld w15 (Addr.add (⟨r1, 0, none⟩ : Addr) 7) fun v31 => asI .i64 v31 fun x32 => (Q (.tuple #[(.agg #[(.int .i64 x18), (.int .i64 x20), (.int .i64 x22), (.int .i64 x24), (.int .i64 x26), (.int .i64 x28), (.int .i64 x30), (.int .i64 x32)]), (.int .i64 y16)]) w15)))))))))))))))))) 
(dr w' fun a33 => (bnd i_7 64 (ld w5 (Addr.add (Addr.add a33 128) (Int.toNat i_7 * 8)) fun v34 => asI .i64 v34 fun x35 => (ld w5 (Addr.add (Addr.add (Addr.add a33 128) (Int.toNat i_7 * 8)) 1) fun v36 => asI .i64 v36 fun x37 => (ld w5 (Addr.add (Addr.add (Addr.add a33 128) (Int.toNat i_7 * 8)) 2) fun v38 => asI .i64 v38 fun x39 => (ld w5 (Addr.add (Addr.add (Addr.add a33 128) (Int.toNat i_7 * 8)) 3) fun v40 => asI .i64 v40 fun x41 => (ld w5 (Addr.add (Addr.add (Addr.add a33 128) (Int.toNat i_7 * 8)) 4) fun v42 => asI .i64 v42 fun x43 => (ld w5 (Addr.add (Addr.add (Addr.add a33 128) (Int.toNat i_7 * 8)) 5) fun v44 => asI .i64 v44 fun x45 => (ld w5 (Addr.add (Addr.add (Addr.add a33 128) (Int.toNat i_7 * 8)) 6) fun v46 => asI .i64 v46 fun x47 => (ld w5 (Addr.add (Addr.add (Addr.add a33 128) (Int.toNat i_7 * 8)) 7) fun v48 => asI .i64 v48 fun x49 => (st w5 (⟨r1, 0, none⟩ : Addr) (.int .i64 x35) fun w50 => (st w50 (Addr.add (⟨r1, 0, none⟩ : Addr) 1) (.int .i64 x37) fun w51 => (st w51 (Addr.add (⟨r1, 0, none⟩ : Addr) 2) (.int .i64 x39) fun w52 => (st w52 (Addr.add (⟨r1, 0, none⟩ : Addr) 3) (.int .i64 x41) fun w53 => (st w53 (Addr.add (⟨r1, 0, none⟩ : Addr) 4) (.int .i64 x43) fun w54 => (st w54 (Addr.add (⟨r1, 0, none⟩ : Addr) 5) (.int .i64 x45) fun w55 => (st w55 (Addr.add (⟨r1, 0, none⟩ : Addr) 6) (.int .i64 x47) fun w56 => (st w56 (Addr.add (⟨r1, 0, none⟩ : Addr) 7) (.int .i64 x49) fun w57 => (lv (0 : Int) fun y58 => 
(ld w57 (⟨r1, 0, none⟩ : Addr) fun v59 => asI .i64 v59 fun x60 => (ld w57 (Addr.add (⟨r1, 0, none⟩ : Addr) 1) fun v61 => asI .i64 v61 fun x62 => (ld w57 (Addr.add (⟨r1, 0, none⟩ : Addr) 2) fun v63 => asI .i64 v63 fun x64 => (ld w57 (Addr.add (⟨r1, 0, none⟩ : Addr) 3) fun v65 => asI .i64 v65 fun x66 => (ld w57 (Addr.add (⟨r1, 0, none⟩ : Addr) 4) fun v67 => asI .i64 v67 fun x68 => (ld w57 (Addr.add (⟨r1, 0, none⟩ : Addr) 5) fun v69 => asI .i64 v69 fun x70 => (ld w57 (Addr.add (⟨r1, 0, none⟩ : Addr) 6) fun v71 => asI .i64 v71 fun x72 => (ld w57 (Addr.add (⟨r1, 0, none⟩ : Addr) 7) fun v73 => asI .i64 v73 fun x74 => (Q (.tuple #[(.agg #[(.int .i64 x60), (.int .i64 x62), (.int .i64 x64), (.int .i64 x66), (.int .i64 x68), (.int .i64 x70), (.int .i64 x72), (.int .i64 x74)]), (.int .i64 y58)]) w57)))))))))))))))))))))))))))))))))
theorem F64_link (w' : Option Addr) (h : Int) (w : World) (Q : Value → World → Prop) : fnEv Try.prog Try.f64 h64 [(.pointer w'), (.int .i64 h)] w Q = F64 w' h w Q := by kernel_rfl
theorem F64_calls {w' : Option Addr} {h : Int} {w : World} {Q : Value → World → Prop} (hF_ : F64 w' h w Q) : cl Try.prog 64 #[(.pointer w'), (.int .i64 h)] w Q :=
  calls_of_ev (fn := Try.f64) Try.func64 h64 (args := [(.pointer w'), (.int .i64 h)]) (by rw [F64_link]; exact hF_)

/-! (*tiltyard/tiltyardref19.World).Set -/
def h65 : Hint := (.s .d (.s .d (.s .d (.s .d (.s .d (.s .d (.s (.o (ofL [0, 1, 2, 3, 4, 5, 6] .nil)) .d)))))))
set_option linter.unusedVariables false in
def F65 (w' : Option Addr) (h : Int) (e_0 : Int) (e_1 : Int) (e_2 : Int) (e_3 : Int) (e_4 : Int) (e_5 : Int) (e_6 : Int) (e_7 : Int) (w : World) (Q : Value → World → Prop) : Prop :=
 (nw w (.cells #[(.int .i64 e_0), (.int .i64 e_1), (.int .i64 e_2), (.int .i64 e_3), (.int .i64 e_4), (.int .i64 e_5), (.int .i64 e_6), (.int .i64 e_7)] 27) fun r1 w2 => (lv (0 : Int) fun y3 => 
(cl Try.prog 80 #[(.pointer w'), (.int .i64 h)] w2 fun v4 w5 => asI .i64 v4 fun x6 => (lv x6 fun i_7 => 

(cond (decide (i_7 < (0 : Int))) (lv (190 : Int) fun y8 => 
(Q (.int .i64 y8) w5)) 
(ld w5 (⟨r1, 0, none⟩ : Addr) fun v9 => asI .i64 v9 fun x10 => (ld w5 (Addr.add (⟨r1, 0, none⟩ : Addr) 1) fun v11 => asI .i64 v11 fun x12 => (ld w5 (Addr.add (⟨r1, 0, none⟩ : Addr) 2) fun v13 => asI .i64 v13 fun x14 => (ld w5 (Addr.add (⟨r1, 0, none⟩ : Addr) 3) fun v15 => asI .i64 v15 fun x16 => (ld w5 (Addr.add (⟨r1, 0, none⟩ : Addr) 4) fun v17 => asI .i64 v17 fun x18 => (ld w5 (Addr.add (⟨r1, 0, none⟩ : Addr) 5) fun v19 => asI .i64 v19 fun x20 => (ld w5 (Addr.add (⟨r1, 0, none⟩ : Addr) 6) fun v21 => asI .i64 v21 fun x22 => (ld w5 (Addr.add (⟨r1, 0, none⟩ : Addr) 7) fun v23 => asI .i64 v23 fun x24 => (cl Try.prog 41 #[(.agg #[(.int .i64 x10), (.int .i64 x12), (.int .i64 x14), (.int .i64 x16), (.int .i64 x18), (.int .i64 x20), (.int .i64 x22), (.int .i64 x24)])] w5 fun v25 w26 => asI .i64 v25 fun x27 => (lv x27 fun bad_28 => 

(cond (bad_28 != (0 : Int)) (lv bad_28 fun y29 => 
(Q (.int .i64 y29) w26)) 
(st w26 (⟨r1, 0, none⟩ : Addr) (.int .i64 h) fun w30 => 
(dw w30 fun w31 => (ld w31 (⟨r1, 0, none⟩ : Addr) fun v32 => asI .i64 v32 fun x33 => (ld w31 (Addr.add (⟨r1, 0, none⟩ : Addr) 1) fun v34 => asI .i64 v34 fun x35 => (ld w31 (Addr.add (⟨r1, 0, none⟩ : Addr) 2) fun v36 => asI .i64 v36 fun x37 => (ld w31 (Addr.add (⟨r1, 0, none⟩ : Addr) 3) fun v38 => asI .i64 v38 fun x39 => (ld w31 (Addr.add (⟨r1, 0, none⟩ : Addr) 4) fun v40 => asI .i64 v40 fun x41 => (ld w31 (Addr.add (⟨r1, 0, none⟩ : Addr) 5) fun v42 => asI .i64 v42 fun x43 => (ld w31 (Addr.add (⟨r1, 0, none⟩ : Addr) 6) fun v44 => asI .i64 v44 fun x45 => (ld w31 (Addr.add (⟨r1, 0, none⟩ : Addr) 7) fun v46 => asI .i64 v46 fun x47 => (dr w' fun a48 => (bnd i_7 64 (st w31 (Addr.add (Addr.add a48 128) (Int.toNat i_7 * 8)) (.int .i64 x33) fun w49 => (st w49 (Addr.add (Addr.add (Addr.add a48 128) (Int.toNat i_7 * 8)) 1) (.int .i64 x35) fun w50 => (st w50 (Addr.add (Addr.add (Addr.add a48 128) (Int.toNat i_7 * 8)) 2) (.int .i64 x37) fun w51 => (st w51 (Addr.add (Addr.add (Addr.add a48 128) (Int.toNat i_7 * 8)) 3) (.int .i64 x39) fun w52 => (st w52 (Addr.add (Addr.add (Addr.add a48 128) (Int.toNat i_7 * 8)) 4) (.int .i64 x41) fun w53 => (st w53 (Addr.add (Addr.add (Addr.add a48 128) (Int.toNat i_7 * 8)) 5) (.int .i64 x43) fun w54 => (st w54 (Addr.add (Addr.add (Addr.add a48 128) (Int.toNat i_7 * 8)) 6) (.int .i64 x45) fun w55 => (st w55 (Addr.add (Addr.add (Addr.add a48 128) (Int.toNat i_7 * 8)) 7) (.int .i64 x47) fun w56 => 
(lv (0 : Int) fun y57 => 
(Q (.int .i64 y57) w56))))))))))))))))))))))))))))))))))))))
theorem F65_link (w' : Option Addr) (h : Int) (e_0 : Int) (e_1 : Int) (e_2 : Int) (e_3 : Int) (e_4 : Int) (e_5 : Int) (e_6 : Int) (e_7 : Int) (w : World) (Q : Value → World → Prop) : fnEv Try.prog Try.f65 h65 [(.pointer w'), (.int .i64 h), (.agg #[(.int .i64 e_0), (.int .i64 e_1), (.int .i64 e_2), (.int .i64 e_3), (.int .i64 e_4), (.int .i64 e_5), (.int .i64 e_6), (.int .i64 e_7)])] w Q = F65 w' h e_0 e_1 e_2 e_3 e_4 e_5 e_6 e_7 w Q := by kernel_rfl
theorem F65_calls {w' : Option Addr} {h : Int} {e_0 : Int} {e_1 : Int} {e_2 : Int} {e_3 : Int} {e_4 : Int} {e_5 : Int} {e_6 : Int} {e_7 : Int} {w : World} {Q : Value → World → Prop} (hF_ : F65 w' h e_0 e_1 e_2 e_3 e_4 e_5 e_6 e_7 w Q) : cl Try.prog 65 #[(.pointer w'), (.int .i64 h), (.agg #[(.int .i64 e_0), (.int .i64 e_1), (.int .i64 e_2), (.int .i64 e_3), (.int .i64 e_4), (.int .i64 e_5), (.int .i64 e_6), (.int .i64 e_7)])] w Q :=
  calls_of_ev (fn := Try.f65) Try.func65 h65 (args := [(.pointer w'), (.int .i64 h), (.agg #[(.int .i64 e_0), (.int .i64 e_1), (.int .i64 e_2), (.int .i64 e_3), (.int .i64 e_4), (.int .i64 e_5), (.int .i64 e_6), (.int .i64 e_7)])]) (by rw [F65_link]; exact hF_)

/-! (*tiltyard/tiltyardref19.World).Near -/
def h66 : Hint := (.s .d (.s .d (.s .d (.s .d (.s .d (.s (.s .d (.l [(7, 38), (9, 3)] (.s .d (.j [(7, 38)] (.s (.o (ofL [0, 1, 2, 3, 4, 5, 6, 7, 8, 9, 10, 11] .nil)) .d) .d)))) .d))))))
set_option linter.unusedVariables false in
def F66 (w' : Option Addr) (b_0 : Int) (b_1 : Int) (b_2 : Int) (w : World) (Q : Value → World → Prop) : Prop :=
 (nw w (.cells #[(.int .i64 b_0), (.int .i64 b_1), (.int .i64 b_2)] 25) fun r1 w2 => (lv (0 : Int) fun y3 => 
(ld w2 (⟨r1, 0, none⟩ : Addr) fun v4 => asI .i64 v4 fun x5 => (ld w2 (Addr.add (⟨r1, 0, none⟩ : Addr) 1) fun v6 => asI .i64 v6 fun x7 => (ld w2 (Addr.add (⟨r1, 0, none⟩ : Addr) 2) fun v8 => asI .i64 v8 fun x9 => (cl Try.prog 50 #[(.agg #[(.int .i64 x5), (.int .i64 x7), (.int .i64 x9)])] w2 fun v10 w11 => asB v10 fun b12 => 

(cond (!b12) (lv (60 : Int) fun y13 => 
(Q (.tuple #[(.slice none 0 0), (.int .i64 y13)]) w11)) 

(cl Try.prog 40 #[(.pointer w')] w11 fun v14 w15 => asS v14 fun p16 n17 c18 => 
(lv (0 : Int) fun i_19 => 
(lp [(.slice none 0 0), (.int .i64 i_19)] w15 fun J22 s20 w21 => asS (s20.getD 0 undef) fun p23 n24 c25 => asI .i64 (s20.getD 1 undef) fun x26 => 
(cond (decide (x26 < (n17 : Int))) 
(jn (fun s27 w28 => asS (s27.getD 0 undef) fun p60 n61 c62 => (lv (IntKind.wrap .i64 (x26 + (1 : Int))) fun i_63 => (J22 [(.slice p60 n61 c62), (.int .i64 i_63)] w28)))
 (fun J29 => (dw w21 fun w30 => (dr p16 fun a31 => (bnd x26 n17 (ld w30 (Addr.add (Addr.add a31 (Int.toNat x26 * 8)) 1) fun v32 => asI .i64 v32 fun x33 => (ld w30 (Addr.add (Addr.add (Addr.add a31 (Int.toNat x26 * 8)) 1) 1) fun v34 => asI .i64 v34 fun x35 => (ld w30 (Addr.add (Addr.add (Addr.add a31 (Int.toNat x26 * 8)) 1) 2) fun v36 => asI .i64 v36 fun x37 => (ld w30 (⟨r1, 0, none⟩ : Addr) fun v38 => asI .i64 v38 fun x39 => (ld w30 (Addr.add (⟨r1, 0, none⟩ : Addr) 1) fun v40 => asI .i64 v40 fun x41 => (ld w30 (Addr.add (⟨r1, 0, none⟩ : Addr) 2) fun v42 => asI .i64 v42 fun x43 => (cl Try.prog 77 #[(.agg #[(.int .i64 x33), (.int .i64 x35), (.int .i64 x37)]), (.agg #[(.int .i64 x39), (.int .i64 x41), (.int .i64 x43)])] w30 fun v44 w45 => asT 2 v44 fun t46 => asB (t46 0) fun b47 => asI .i64 (t46 1) fun x48 => (lv x48 fun __49 => 

(cond b47 (dr p16 fun a50 => (bnd x26 n17 (ld w45 (Addr.add a50 (Int.toNat x26 * 8)) fun v51 => asI .i64 v51 fun x52 => (nw w45 (.cells #[(.int .i64 x52)] 3) fun r53 w54 => (rn Try.prog (Builtin.append_ #[38, 38] 38 #[(.slice p23 n24 c25), (.slice (some (⟨r53, 0, none⟩ : Addr)) 1 1)]) w54 fun v55 w56 => asS v55 fun p57 n58 c59 => (J29 [(.slice p57 n58 c59)] w56)))))) (J29 [(.slice p23 n24 c25)] w45))))))))))))))) 
(lv (0 : Int) fun y64 => 
(Q (.tuple #[(.slice p23 n24 c25), (.int .i64 y64)]) w21)))))))))))))
theorem F66_link (w' : Option Addr) (b_0 : Int) (b_1 : Int) (b_2 : Int) (w : World) (Q : Value → World → Prop) : fnEv Try.prog Try.f66 h66 [(.pointer w'), (.agg #[(.int .i64 b_0), (.int .i64 b_1), (.int .i64 b_2)])] w Q = F66 w' b_0 b_1 b_2 w Q := by kernel_rfl
theorem F66_calls {w' : Option Addr} {b_0 : Int} {b_1 : Int} {b_2 : Int} {w : World} {Q : Value → World → Prop} (hF_ : F66 w' b_0 b_1 b_2 w Q) : cl Try.prog 66 #[(.pointer w'), (.agg #[(.int .i64 b_0), (.int .i64 b_1), (.int .i64 b_2)])] w Q :=
  calls_of_ev (fn := Try.f66) Try.func66 h66 (args := [(.pointer w'), (.agg #[(.int .i64 b_0), (.int .i64 b_1), (.int .i64 b_2)])]) (by rw [F66_link]; exact hF_)

/-! (*tiltyard/world.World).Clone -/
def h67 : Hint := (.s .d (.s .d (.s .d (.s (.s .d (.l [(18, 3)] (.s .d (.s .d (.j [] (.s .d (.s .d (.s (.o (ofL [0, 1, 2, 3, 4, 5, 6, 7, 8] .nil)) .d))) .d))))) .d))))
set_option linter.unusedVariables false in
def F67 (w' : Option Addr) (w : World) (Q : Value → World → Prop) : Prop :=
 
(cl Try.prog 14 #[] w fun v1 w2 => asP v1 fun p3 => 
(dr w' fun a4 => (ldG Try.prog w2 (Addr.add a4 1) 640 fun l5 => (dr p3 fun a6 => (cond (Nat.beq (List.length l5) 640) (stCells (Addr.add a6 1) l5 0 w2 fun w7 => 
(dr p3 fun a8 => (ldG Try.prog w7 (Addr.add a8 1) 640 fun l9 => 
(lp [(.int .i64 (0 : Int))] w7 fun J12 s10 w11 => asI .i64 (s10.getD 0 undef) fun x13 => 
(cond (decide (x13 < (64 : Int))) 
(jn (fun s14 w15 => (J12 [(.int .i64 (IntKind.wrap .i64 (x13 + (1 : Int))))] w15))
 (fun J16 => (bnd x13 64 (asA 10 (.agg (Array.extract ((List.toArray l9) : Array Value) (Int.toNat x13 * 10) (Int.toNat x13 * 10 + 10))) fun a17 => asI .i64 (a17 0) fun x18 => asB (a17 1) fun b19 => asI .i64 (a17 2) fun x20 => asI .i64 (a17 3) fun x21 => asI .i64 (a17 4) fun x22 => asI .i64 (a17 5) fun x23 => asI .i64 (a17 6) fun x24 => asI .i64 (a17 7) fun x25 => asI .i64 (a17 8) fun x26 => asI .i64 (a17 9) fun x27 => (nw w11 (.cells #[(.int .i64 (0 : Int)), (.bool false), (.int .i64 (0 : Int)), (.int .i64 (0 : Int)), (.int .i64 (0 : Int)), (.int .i64 (0 : Int)), (.int .i64 (0 : Int)), (.int .i64 (0 : Int)), (.int .i64 (0 : Int)), (.int .i64 (0 : Int))] 100) fun r28 w29 => (lv x13 fun i_30 => (st w29 (⟨r28, 0, none⟩ : Addr) (.int .i64 x18) fun w31 => (st w31 (Addr.add (⟨r28, 0, none⟩ : Addr) 1) (.bool b19) fun w32 => (st w32 (Addr.add (⟨r28, 0, none⟩ : Addr) 2) (.int .i64 x20) fun w33 => (st w33 (Addr.add (⟨r28, 0, none⟩ : Addr) 3) (.int .i64 x21) fun w34 => (st w34 (Addr.add (⟨r28, 0, none⟩ : Addr) 4) (.int .i64 x22) fun w35 => (st w35 (Addr.add (⟨r28, 0, none⟩ : Addr) 5) (.int .i64 x23) fun w36 => (st w36 (Addr.add (⟨r28, 0, none⟩ : Addr) 6) (.int .i64 x24) fun w37 => (st w37 (Addr.add (⟨r28, 0, none⟩ : Addr) 7) (.int .i64 x25) fun w38 => (st w38 (Addr.add (⟨r28, 0, none⟩ : Addr) 8) (.int .i64 x26) fun w39 => (st w39 (Addr.add (⟨r28, 0, none⟩ : Addr) 9) (.int .i64 x27) fun w40 => 
(ld w40 (Addr.add (⟨r28, 0, none⟩ : Addr) 1) fun v41 => asB v41 fun b42 => 
(cond b42 (dw w40 fun w43 => (dr p3 fun a44 => (ld w43 a44 fun v45 => asP v45 fun p46 => (ld w43 (Addr.add (Addr.add (⟨r28, 0, none⟩ : Addr) 2) 1) fun v47 => asI .i64 v47 fun x48 => (ld w43 (Addr.add (Addr.add (Addr.add (⟨r28, 0, none⟩ : Addr) 2) 1) 1) fun v49 => asI .i64 v49 fun x50 => (ld w43 (Addr.add (Addr.add (Addr.add (⟨r28, 0, none⟩ : Addr) 2) 1) 2) fun v51 => asI .i64 v51 fun x52 => (cl Try.prog 30 #[(.pointer p46), (.int .i64 i_30), (.agg #[(.int .i64 x48), (.int .i64 x50), (.int .i64 x52)])] w43 fun v53 w54 => asI .i64 v53 fun x55 => (J16 [] w54)))))))) (J16 [] w40))))))))))))))))))) 

(Q (.pointer p3) w11)))))) False)))))
theorem F67_link (w' : Option Addr) (w : World) (Q : Value → World → Prop) : fnEv Try.prog Try.f67 h67 [(.pointer w')] w Q = F67 w' w Q := by kernel_rfl
theorem F67_calls {w' : Option Addr} {w : World} {Q : Value → World → Prop} (hF_ : F67 w' w Q) : cl Try.prog 67 #[(.pointer w')] w Q :=
  calls_of_ev (fn := Try.f67) Try.func67 h67 (args := [(.pointer w')]) (by rw [F67_link]; exact hF_)

/-! tiltyard/tiltyardref19.within -/
def h68 : Hint := (.s .d (.j [(4, 4)] .d .d))
set_option linter.unusedVariables false in
def F68 (n : Int) (most : Int) (w : World) (Q : Value → World → Prop) : Prop :=
 
(jn (fun s1 w2 => asB (s1.getD 0 undef) fun b4 => (Q (.bool b4) w2))
 (fun J3 => (cond (decide (n ≥ (IntKind.wrap .i64 ((0 : Int) - most)))) (J3 [(.bool (decide (n ≤ most)))] w) (J3 [(.bool false)] w))))
theorem F68_link (n : Int) (most : Int) (w : World) (Q : Value → World → Prop) : fnEv Try.prog Try.f68 h68 [(.int .i64 n), (.int .i64 most)] w Q = F68 n most w Q := by kernel_rfl
theorem F68_calls {n : Int} {most : Int} {w : World} {Q : Value → World → Prop} (hF_ : F68 n most w Q) : cl Try.prog 68 #[(.int .i64 n), (.int .i64 most)] w Q :=
  calls_of_ev (fn := Try.f68) Try.func68 h68 (args := [(.int .i64 n), (.int .i64 most)]) (by rw [F68_link]; exact hF_)

/-! tiltyard/grid.floor -/
def h69 : Hint := (.s .d (.s .d (.j [(5, 3)] .d .d)))
set_option linter.unusedVariables false in
def F69 (n : Int) (s : Int) (w : World) (Q : Value → World → Prop) : Prop :=
 
(nz s (lv (IntKind.wrap .i64 (Int.tdiv n s)) fun q_1 => 
(jn (fun s2 w3 => asI .i64 (s2.getD 0 undef) fun x6 => 
(Q (.float .f64 (FloatKind.nearest .f64 x6)) w3))
 (fun J4 => (nz s 
(cond (decide ((Int.tmod n s) < (0 : Int))) (lv (IntKind.wrap .i64 (q_1 - (1 : Int))) fun q_5 => (J4 [(.int .i64 q_5)] w)) (J4 [(.int .i64 q_1)] w)))))))
theorem F69_link (n : Int) (s : Int) (w : World) (Q : Value → World → Prop) : fnEv Try.prog Try.f69 h69 [(.int .i64 n), (.int .i64 s)] w Q = F69 n s w Q := by kernel_rfl
theorem F69_calls {n : Int} {s : Int} {w : World} {Q : Value → World → Prop} (hF_ : F69 n s w Q) : cl Try.prog 69 #[(.int .i64 n), (.int .i64 s)] w Q :=
  calls_of_ev (fn := Try.f69) Try.func69 h69 (args := [(.int .i64 n), (.int .i64 s)]) (by rw [F69_link]; exact hF_)

/-! tiltyard/lattice.whole -/
def h70 : Hint := (.s .d (.j [(2, 4)] .d .d))
set_option linter.unusedVariables false in
def F70 (x : Nat) (w : World) (Q : Value → World → Prop) : Prop :=
 
(jn (fun s1 w2 => asB (s1.getD 0 undef) fun b10 => (Q (.bool b10) w2))
 (fun J3 => (cl Try.prog 81 #[(.float .f64 x)] w fun v4 w5 => asF .f64 v4 fun f6 => (cond (((FloatKind.format .f64).order f6 4697254411347427328) == some .lt || ((FloatKind.format .f64).order f6 4697254411347427328) == some .eq) (cl Try.prog 82 #[(.float .f64 x)] w5 fun v7 w8 => asF .f64 v7 fun f9 => (J3 [(.bool (((FloatKind.format .f64).order x f9) == some .eq))] w8)) (J3 [(.bool false)] w5)))))
theorem F70_link (x : Nat) (w : World) (Q : Value → World → Prop) : fnEv Try.prog Try.f70 h70 [(.float .f64 x)] w Q = F70 x w Q := by kernel_rfl
theorem F70_calls {x : Nat} {w : World} {Q : Value → World → Prop} (hF_ : F70 x w Q) : cl Try.prog 70 #[(.float .f64 x)] w Q :=
  calls_of_ev (fn := Try.f70) Try.func70 h70 (args := [(.float .f64 x)]) (by rw [F70_link]; exact hF_)

/-! tiltyard/tiltyardref06.within -/
def h71 : Hint := (.s .d (.j [(2, 4)] .d .d))
set_option linter.unusedVariables false in
def F71 (n : Int) (w : World) (Q : Value → World → Prop) : Prop :=
 
(jn (fun s1 w2 => asB (s1.getD 0 undef) fun b4 => (Q (.bool b4) w2))
 (fun J3 => (cond (decide (n ≥ (-1152921504606846976 : Int))) (J3 [(.bool (decide (n ≤ (1152921504606846976 : Int))))] w) (J3 [(.bool false)] w))))
theorem F71_link (n : Int) (w : World) (Q : Value → World → Prop) : fnEv Try.prog Try.f71 h71 [(.int .i64 n)] w Q = F71 n w Q := by kernel_rfl
theorem F71_calls {n : Int} {w : World} {Q : Value → World → Prop} (hF_ : F71 n w Q) : cl Try.prog 71 #[(.int .i64 n)] w Q :=
  calls_of_ev (fn := Try.f71) Try.func71 h71 (args := [(.int .i64 n)]) (by rw [F71_link]; exact hF_)

/-! tiltyard/box.gaps -/
def h72 : Hint := (.s .d (.j [(5, 15), (6, 15)] (.o (ofL [0, 1, 3, 4] (.alt (ofL [2] (.alt (ofL [5] (.alt (ofL [6, 7, 8, 9] .nil) (ofL [7, 6, 8, 9] .nil))) (.alt (ofL [6] (.alt (ofL [5, 7, 8, 9] .nil) (ofL [7, 5, 8, 9] .nil))) (ofL [7] (.alt (ofL [5, 6, 8, 9] .nil) (ofL [6, 5, 8, 9] .nil)))))) (.alt (ofL [6] (.alt (ofL [2] (.alt (ofL [5, 7, 8, 9] .nil) (ofL [7, 5, 8, 9] .nil))) (ofL [7, 2, 5, 8, 9] .nil))) (ofL [7] (.alt (ofL [2] (.alt (ofL [5, 6, 8, 9] .nil) (ofL [6, 5, 8, 9] .nil))) (ofL [6, 2, 5, 8, 9] .nil))))))) .d))
set_option linter.unusedVariables false in
def F72 (a_0 : Int) (a_1 : Int) (a_2 : Int) (b_0 : Int) (b_1 : Int) (b_2 : Int) (w : World) (Q : Value → World → Prop) : Prop :=
 (nw w (.cells #[(.int .i64 a_0), (.int .i64 a_1), (.int .i64 a_2)] 25) fun r1 w2 => (nw w2 (.cells #[(.int .i64 b_0), (.int .i64 b_1), (.int .i64 b_2)] 25) fun r3 w4 => (nw w4 (.cells #[(.int .i64 (0 : Int)), (.int .i64 (0 : Int))] 129) fun r5 w6 => 
(jn (fun s7 w8 => asP (s7.getD 0 undef) fun p183 => asP (s7.getD 1 undef) fun p184 => 
(cl Try.prog 84 #[(.int .i64 (0 : Int)), (.pointer p183), (.pointer p184), (.pointer (some (⟨r1, 0, none⟩ : Addr))), (.pointer (some (⟨r3, 0, none⟩ : Addr)))] w8 fun v185 w186 => asI .i64 v185 fun x187 => (cl Try.prog 84 #[(.int .i64 (1 : Int)), (.pointer p183), (.pointer p184), (.pointer (some (⟨r1, 0, none⟩ : Addr))), (.pointer (some (⟨r3, 0, none⟩ : Addr)))] w186 fun v188 w189 => asI .i64 v188 fun x190 => (st w189 (⟨r5, 0, none⟩ : Addr) (.int .i64 x187) fun w191 => (st w191 (Addr.add (⟨r5, 0, none⟩ : Addr) 1) (.int .i64 x190) fun w192 => 
(ld w192 (⟨r5, 0, none⟩ : Addr) fun v193 => asI .i64 v193 fun x194 => (ld w192 (Addr.add (⟨r5, 0, none⟩ : Addr) 1) fun v195 => asI .i64 v195 fun x196 => (Q (.agg #[(.int .i64 x194), (.int .i64 x196)]) w192))))))))
 (fun J9 => (dw w6 fun w10 => (ld w10 (⟨r1, 0, none⟩ : Addr) fun v11 => asI .i64 v11 fun x12 => (ld w10 (Addr.add (⟨r1, 0, none⟩ : Addr) 1) fun v13 => asI .i64 v13 fun x14 => (ld w10 (⟨r3, 0, none⟩ : Addr) fun v15 => asI .i64 v15 fun x16 => (ld w10 (Addr.add (⟨r3, 0, none⟩ : Addr) 1) fun v17 => asI .i64 v17 fun x18 => 
((cl Try.prog 83 #[(.agg #[(.int .i64 x12), (.int .i64 x14)])] w10 fun v19 w20 => asA 2 v19 fun a21 => asI .i64 (a21 0) fun x22 => asI .i64 (a21 1) fun x23 => (hd w20 (⟨r3, 0, none⟩ : Addr) (.int .i64 x16) (hd w20 (Addr.add (⟨r3, 0, none⟩ : Addr) 1) (.int .i64 x18) 
((cl Try.prog 83 #[(.agg #[(.int .i64 x16), (.int .i64 x18)])] w20 fun v24 w25 => asA 2 v24 fun a26 => asI .i64 (a26 0) fun x27 => asI .i64 (a26 1) fun x28 => 
((nw w25 (.cells #[(.int .i64 (0 : Int)), (.int .i64 (0 : Int))] 129) fun r29 w30 => (nw w30 (.cells #[(.int .i64 (0 : Int)), (.int .i64 (0 : Int))] 129) fun r31 w32 => (st w32 (⟨r29, 0, none⟩ : Addr) (.int .i64 x22) fun w33 => (st w33 (Addr.add (⟨r29, 0, none⟩ : Addr) 1) (.int .i64 x23) fun w34 => (st w34 (⟨r31, 0, none⟩ : Addr) (.int .i64 x27) fun w35 => (st w35 (Addr.add (⟨r31, 0, none⟩ : Addr) 1) (.int .i64 x28) fun w36 => (J9 [(.pointer (some (⟨r29, 0, none⟩ : Addr))), (.pointer (some (⟨r31, 0, none⟩ : Addr)))] w36))))))) ∧ (nw w25 (.cells #[(.int .i64 (0 : Int)), (.int .i64 (0 : Int))] 129) fun r37 w38 => (nw w38 (.cells #[(.int .i64 (0 : Int)), (.int .i64 (0 : Int))] 129) fun r39 w40 => (st w40 (⟨r39, 0, none⟩ : Addr) (.int .i64 x22) fun w41 => (st w41 (Addr.add (⟨r39, 0, none⟩ : Addr) 1) (.int .i64 x23) fun w42 => (st w42 (⟨r37, 0, none⟩ : Addr) (.int .i64 x27) fun w43 => (st w43 (Addr.add (⟨r37, 0, none⟩ : Addr) 1) (.int .i64 x28) fun w44 => (J9 [(.pointer (some (⟨r39, 0, none⟩ : Addr))), (.pointer (some (⟨r37, 0, none⟩ : Addr)))] w44))))))))) ∧ ((nw w20 (.cells #[(.int .i64 (0 : Int)), (.int .i64 (0 : Int))] 129) fun r45 w46 => (hd w46 (⟨r3, 0, none⟩ : Addr) (.int .i64 x16) (hd w46 (Addr.add (⟨r3, 0, none⟩ : Addr) 1) (.int .i64 x18) 
((cl Try.prog 83 #[(.agg #[(.int .i64 x16), (.int .i64 x18)])] w46 fun v47 w48 => asA 2 v47 fun a49 => asI .i64 (a49 0) fun x50 => asI .i64 (a49 1) fun x51 => (nw w48 (.cells #[(.int .i64 (0 : Int)), (.int .i64 (0 : Int))] 129) fun r52 w53 => (st w53 (⟨r45, 0, none⟩ : Addr) (.int .i64 x22) fun w54 => (st w54 (Addr.add (⟨r45, 0, none⟩ : Addr) 1) (.int .i64 x23) fun w55 => (st w55 (⟨r52, 0, none⟩ : Addr) (.int .i64 x50) fun w56 => (st w56 (Addr.add (⟨r52, 0, none⟩ : Addr) 1) (.int .i64 x51) fun w57 => (J9 [(.pointer (some (⟨r45, 0, none⟩ : Addr))), (.pointer (some (⟨r52, 0, none⟩ : Addr)))] w57))))))) ∧ (nw w46 (.cells #[(.int .i64 (0 : Int)), (.int .i64 (0 : Int))] 129) fun r58 w59 => (hd w59 (⟨r3, 0, none⟩ : Addr) (.int .i64 x16) (hd w59 (Addr.add (⟨r3, 0, none⟩ : Addr) 1) (.int .i64 x18) (cl Try.prog 83 #[(.agg #[(.int .i64 x16), (.int .i64 x18)])] w59 fun v60 w61 => asA 2 v60 fun a62 => asI .i64 (a62 0) fun x63 => asI .i64 (a62 1) fun x64 => (st w61 (⟨r45, 0, none⟩ : Addr) (.int .i64 x22) fun w65 => (st w65 (Addr.add (⟨r45, 0, none⟩ : Addr) 1) (.int .i64 x23) fun w66 => (st w66 (⟨r58, 0, none⟩ : Addr) (.int .i64 x63) fun w67 => (st w67 (Addr.add (⟨r58, 0, none⟩ : Addr) 1) (.int .i64 x64) fun w68 => (J9 [(.pointer (some (⟨r45, 0, none⟩ : Addr))), (.pointer (some (⟨r58, 0, none⟩ : Addr)))] w68))))))))))))) ∧ (nw w20 (.cells #[(.int .i64 (0 : Int)), (.int .i64 (0 : Int))] 129) fun r69 w70 => (hd w70 (⟨r3, 0, none⟩ : Addr) (.int .i64 x16) (hd w70 (Addr.add (⟨r3, 0, none⟩ : Addr) 1) (.int .i64 x18) 
((cl Try.prog 83 #[(.agg #[(.int .i64 x16), (.int .i64 x18)])] w70 fun v71 w72 => asA 2 v71 fun a73 => asI .i64 (a73 0) fun x74 => asI .i64 (a73 1) fun x75 => (nw w72 (.cells #[(.int .i64 (0 : Int)), (.int .i64 (0 : Int))] 129) fun r76 w77 => (st w77 (⟨r76, 0, none⟩ : Addr) (.int .i64 x22) fun w78 => (st w78 (Addr.add (⟨r76, 0, none⟩ : Addr) 1) (.int .i64 x23) fun w79 => (st w79 (⟨r69, 0, none⟩ : Addr) (.int .i64 x74) fun w80 => (st w80 (Addr.add (⟨r69, 0, none⟩ : Addr) 1) (.int .i64 x75) fun w81 => (J9 [(.pointer (some (⟨r76, 0, none⟩ : Addr))), (.pointer (some (⟨r69, 0, none⟩ : Addr)))] w81))))))) ∧ (nw w70 (.cells #[(.int .i64 (0 : Int)), (.int .i64 (0 : Int))] 129) fun r82 w83 => (hd w83 (⟨r3, 0, none⟩ : Addr) (.int .i64 x16) (hd w83 (Addr.add (⟨r3, 0, none⟩ : Addr) 1) (.int .i64 x18) (cl Try.prog 83 #[(.agg #[(.int .i64 x16), (.int .i64 x18)])] w83 fun v84 w85 => asA 2 v84 fun a86 => asI .i64 (a86 0) fun x87 => asI .i64 (a86 1) fun x88 => (st w85 (⟨r82, 0, none⟩ : Addr) (.int .i64 x22) fun w89 => (st w89 (Addr.add (⟨r82, 0, none⟩ : Addr) 1) (.int .i64 x23) fun w90 => (st w90 (⟨r69, 0, none⟩ : Addr) (.int .i64 x87) fun w91 => (st w91 (Addr.add (⟨r69, 0, none⟩ : Addr) 1) (.int .i64 x88) fun w92 => (J9 [(.pointer (some (⟨r82, 0, none⟩ : Addr))), (.pointer (some (⟨r69, 0, none⟩ : Addr)))] w92)))))))))))))))))) ∧ ((nw w10 (.cells #[(.int .i64 (0 : Int)), (.int .i64 (0 : Int))] 129) fun r93 w94 => (hd w94 (⟨r3, 0, none⟩ : Addr) (.int .i64 x16) (hd w94 (Addr.add (⟨r3, 0, none⟩ : Addr) 1) (.int .i64 x18) (hd w94 (⟨r1, 0, none⟩ : Addr) (.int .i64 x12) (hd w94 (Addr.add (⟨r1, 0, none⟩ : Addr) 1) (.int .i64 x14) 
((cl Try.prog 83 #[(.agg #[(.int .i64 x12), (.int .i64 x14)])] w94 fun v95 w96 => asA 2 v95 fun a97 => asI .i64 (a97 0) fun x98 => asI .i64 (a97 1) fun x99 => (hd w96 (⟨r3, 0, none⟩ : Addr) (.int .i64 x16) (hd w96 (Addr.add (⟨r3, 0, none⟩ : Addr) 1) (.int .i64 x18) 
((cl Try.prog 83 #[(.agg #[(.int .i64 x16), (.int .i64 x18)])] w96 fun v100 w101 => asA 2 v100 fun a102 => asI .i64 (a102 0) fun x103 => asI .i64 (a102 1) fun x104 => (nw w101 (.cells #[(.int .i64 (0 : Int)), (.int .i64 (0 : Int))] 129) fun r105 w106 => (st w106 (⟨r93, 0, none⟩ : Addr) (.int .i64 x98) fun w107 => (st w107 (Addr.add (⟨r93, 0, none⟩ : Addr) 1) (.int .i64 x99) fun w108 => (st w108 (⟨r105, 0, none⟩ : Addr) (.int .i64 x103) fun w109 => (st w109 (Addr.add (⟨r105, 0, none⟩ : Addr) 1) (.int .i64 x104) fun w110 => (J9 [(.pointer (some (⟨r93, 0, none⟩ : Addr))), (.pointer (some (⟨r105, 0, none⟩ : Addr)))] w110))))))) ∧ (nw w96 (.cells #[(.int .i64 (0 : Int)), (.int .i64 (0 : Int))] 129) fun r111 w112 => (hd w112 (⟨r3, 0, none⟩ : Addr) (.int .i64 x16) (hd w112 (Addr.add (⟨r3, 0, none⟩ : Addr) 1) (.int .i64 x18) (cl Try.prog 83 #[(.agg #[(.int .i64 x16), (.int .i64 x18)])] w112 fun v113 w114 => asA 2 v113 fun a115 => asI .i64 (a115 0) fun x116 => asI .i64 (a115 1) fun x117 => (st w114 (⟨r93, 0, none⟩ : Addr) (.int .i64 x98) fun w118 => (st w118 (Addr.add (⟨r93, 0, none⟩ : Addr) 1) (.int .i64 x99) fun w119 => (st w119 (⟨r111, 0, none⟩ : Addr) (.int .i64 x116) fun w120 => (st w120 (Addr.add (⟨r111, 0, none⟩ : Addr) 1) (.int .i64 x117) fun w121 => (J9 [(.pointer (some (⟨r93, 0, none⟩ : Addr))), (.pointer (some (⟨r111, 0, none⟩ : Addr)))] w121))))))))))))) ∧ (nw w94 (.cells #[(.int .i64 (0 : Int)), (.int .i64 (0 : Int))] 129) fun r122 w123 => (hd w123 (⟨r3, 0, none⟩ : Addr) (.int .i64 x16) (hd w123 (Addr.add (⟨r3, 0, none⟩ : Addr) 1) (.int .i64 x18) (hd w123 (⟨r1, 0, none⟩ : Addr) (.int .i64 x12) (hd w123 (Addr.add (⟨r1, 0, none⟩ : Addr) 1) (.int .i64 x14) (cl Try.prog 83 #[(.agg #[(.int .i64 x12), (.int .i64 x14)])] w123 fun v124 w125 => asA 2 v124 fun a126 => asI .i64 (a126 0) fun x127 => asI .i64 (a126 1) fun x128 => (hd w125 (⟨r3, 0, none⟩ : Addr) (.int .i64 x16) (hd w125 (Addr.add (⟨r3, 0, none⟩ : Addr) 1) (.int .i64 x18) (cl Try.prog 83 #[(.agg #[(.int .i64 x16), (.int .i64 x18)])] w125 fun v129 w130 => asA 2 v129 fun a131 => asI .i64 (a131 0) fun x132 => asI .i64 (a131 1) fun x133 => (st w130 (⟨r93, 0, none⟩ : Addr) (.int .i64 x127) fun w134 => (st w134 (Addr.add (⟨r93, 0, none⟩ : Addr) 1) (.int .i64 x128) fun w135 => (st w135 (⟨r122, 0, none⟩ : Addr) (.int .i64 x132) fun w136 => (st w136 (Addr.add (⟨r122, 0, none⟩ : Addr) 1) (.int .i64 x133) fun w137 => (J9 [(.pointer (some (⟨r93, 0, none⟩ : Addr))), (.pointer (some (⟨r122, 0, none⟩ : Addr)))] w137)))))))))))))))))))) ∧ (nw w10 (.cells #[(.int .i64 (0 : Int)), (.int .i64 (0 : Int))] 129) fun r138 w139 => (hd w139 (⟨r3, 0, none⟩ : Addr) (.int .i64 x16) (hd w139 (Addr.add (⟨r3, 0, none⟩ : Addr) 1) (.int .i64 x18) (hd w139 (⟨r1, 0, none⟩ : Addr) (.int .i64 x12) (hd w139 (Addr.add (⟨r1, 0, none⟩ : Addr) 1) (.int .i64 x14) 
((cl Try.prog 83 #[(.agg #[(.int .i64 x12), (.int .i64 x14)])] w139 fun v140 w141 => asA 2 v140 fun a142 => asI .i64 (a142 0) fun x143 => asI .i64 (a142 1) fun x144 => (hd w141 (⟨r3, 0, none⟩ : Addr) (.int .i64 x16) (hd w141 (Addr.add (⟨r3, 0, none⟩ : Addr) 1) (.int .i64 x18) 
((cl Try.prog 83 #[(.agg #[(.int .i64 x16), (.int .i64 x18)])] w141 fun v145 w146 => asA 2 v145 fun a147 => asI .i64 (a147 0) fun x148 => asI .i64 (a147 1) fun x149 => (nw w146 (.cells #[(.int .i64 (0 : Int)), (.int .i64 (0 : Int))] 129) fun r150 w151 => (st w151 (⟨r150, 0, none⟩ : Addr) (.int .i64 x143) fun w152 => (st w152 (Addr.add (⟨r150, 0, none⟩ : Addr) 1) (.int .i64 x144) fun w153 => (st w153 (⟨r138, 0, none⟩ : Addr) (.int .i64 x148) fun w154 => (st w154 (Addr.add (⟨r138, 0, none⟩ : Addr) 1) (.int .i64 x149) fun w155 => (J9 [(.pointer (some (⟨r150, 0, none⟩ : Addr))), (.pointer (some (⟨r138, 0, none⟩ : Addr)))] w155))))))) ∧ (nw w141 (.cells #[(.int .i64 (0 : Int)), (.int .i64 (0 : Int))] 129) fun r156 w157 => (hd w157 (⟨r3, 0, none⟩ : Addr) (.int .i64 x16) (hd w157 (Addr.add (⟨r3, 0, none⟩ : Addr) 1) (.int .i64 x18) (cl Try.prog 83 #[(.agg #[(.int .i64 x16), (.int .i64 x18)])] w157 fun v158 w159 => asA 2 v158 fun a160 => asI .i64 (a160 0) fun x161 => asI .i64 (a160 1) fun x162 => (st w159 (⟨r156, 0, none⟩ : Addr) (.int .i64 x143) fun w163 => (st w163 (Addr.add (⟨r156, 0, none⟩ : Addr) 1) (.int .i64 x144) fun w164 => (st w164 (⟨r138, 0, none⟩ : Addr) (.int .i64 x161) fun w165 => (st w165 (Addr.add (⟨r138, 0, none⟩ : Addr) 1) (.int .i64 x162) fun w166 => (J9 [(.pointer (some (⟨r156, 0, none⟩ : Addr))), (.pointer (some (⟨r138, 0, none⟩ : Addr)))] w166))))))))))))) ∧ (nw w139 (.cells #[(.int .i64 (0 : Int)), (.int .i64 (0 : Int))] 129) fun r167 w168 => (hd w168 (⟨r3, 0, none⟩ : Addr) (.int .i64 x16) (hd w168 (Addr.add (⟨r3, 0, none⟩ : Addr) 1) (.int .i64 x18) (hd w168 (⟨r1, 0, none⟩ : Addr) (.int .i64 x12) (hd w168 (Addr.add (⟨r1, 0, none⟩ : Addr) 1) (.int .i64 x14) (cl Try.prog 83 #[(.agg #[(.int .i64 x12), (.int .i64 x14)])] w168 fun v169 w170 => asA 2 v169 fun a171 => asI .i64 (a171 0) fun x172 => asI .i64 (a171 1) fun x173 => (hd w170 (⟨r3, 0, none⟩ : Addr) (.int .i64 x16) (hd w170 (Addr.add (⟨r3, 0, none⟩ : Addr) 1) (.int .i64 x18) (cl Try.prog 83 #[(.agg #[(.int .i64 x16), (.int .i64 x18)])] w170 fun v174 w175 => asA 2 v174 fun a176 => asI .i64 (a176 0) fun x177 => asI .i64 (a176 1) fun x178 => (st w175 (⟨r167, 0, none⟩ : Addr) (.int .i64 x172) fun w179 => (st w179 (Addr.add (⟨r167, 0, none⟩ : Addr) 1) (.int .i64 x173) fun w180 => (st w180 (⟨r138, 0, none⟩ : Addr) (.int .i64 x177) fun w181 => (st w181 (Addr.add (⟨r138, 0, none⟩ : Addr) 1) (.int .i64 x178) fun w182 => (J9 [(.pointer (some (⟨r167, 0, none⟩ : Addr))), (.pointer (some (⟨r138, 0, none⟩ : Addr)))] w182))))))))))))))))))))))))))))))))
theorem F72_link (a_0 : Int) (a_1 : Int) (a_2 : Int) (b_0 : Int) (b_1 : Int) (b_2 : Int) (w : World) (Q : Value → World → Prop) : fnEv Try.prog Try.f72 h72 [(.agg #[(.int .i64 a_0), (.int .i64 a_1), (.int .i64 a_2)]), (.agg #[(.int .i64 b_0), (.int .i64 b_1), (.int .i64 b_2)])] w Q = F72 a_0 a_1 a_2 b_0 b_1 b_2 w Q := by kernel_rfl
theorem F72_calls {a_0 : Int} {a_1 : Int} {a_2 : Int} {b_0 : Int} {b_1 : Int} {b_2 : Int} {w : World} {Q : Value → World → Prop} (hF_ : F72 a_0 a_1 a_2 b_0 b_1 b_2 w Q) : cl Try.prog 72 #[(.agg #[(.int .i64 a_0), (.int .i64 a_1), (.int .i64 a_2)]), (.agg #[(.int .i64 b_0), (.int .i64 b_1), (.int .i64 b_2)])] w Q :=
  calls_of_ev (fn := Try.f72) Try.func72 h72 (args := [(.agg #[(.int .i64 a_0), (.int .i64 a_1), (.int .i64 a_2)]), (.agg #[(.int .i64 b_0), (.int .i64 b_1), (.int .i64 b_2)])]) (by rw [F72_link]; exact hF_)

/-! (*tiltyard/tiltyardref18.Grid).place -/
def h76 : Hint := (.s .d (.s .d (.s (.l [(6, 3)] (.s (.j [(24, 4)] .d .d) .d)) (.j [(4, 3), (5, 4)] (.o (ofL [0, 1, 2, 3, 4, 5, 6, 7, 8, 9, 10, 11, 12, 13, 14, 15, 16, 17, 18, 19, 20] .nil)) .d))))
set_option linter.unusedVariables false in
def F76 (g : Option Addr) (id : Int) (w : World) (Q : Value → World → Prop) : Prop :=
 (lv (0 : Int) fun y1 => 
(lv (0 : Int) fun i_2 => 
(lp [(.int .i64 i_2)] w fun J5 s3 w4 => asI .i64 (s3.getD 0 undef) fun x6 => (jn (fun s7 w8 => asB (s7.getD 0 undef) fun b23 => (cond b23 
(lv (IntKind.wrap .i64 (x6 + (1 : Int))) fun i_24 => (J5 [(.int .i64 i_24)] w8)) 
(jn (fun s25 w26 => asI .i64 (s25.getD 0 undef) fun x44 => asB (s25.getD 1 undef) fun b45 => (Q (.tuple #[(.int .i64 x44), (.bool b45)]) w26))
 (fun J27 => (dw w8 fun w28 => (dr g fun a29 => (ld w28 (Addr.add a29 1) fun v30 => asS v30 fun p31 n32 c33 => (cond (decide (x6 < (n32 : Int))) (dr g fun a34 => (ld w28 (Addr.add a34 1) fun v35 => asS v35 fun p36 n37 c38 => (dr p36 fun a39 => (bnd x6 n37 (ld w28 (Addr.add a39 (Int.toNat x6 * 1)) fun v40 => asI .i64 v40 fun x41 => (lv x6 fun y42 => (J27 [(.int .i64 y42), (.bool (x41 == id))] w28))))))) (lv x6 fun y43 => (J27 [(.int .i64 y43), (.bool false)] w28))))))))))
 (fun J9 => (dr g fun a10 => (ld w4 (Addr.add a10 1) fun v11 => asS v11 fun p12 n13 c14 => (cond (decide (x6 < (n13 : Int))) (dr g fun a15 => (ld w4 (Addr.add a15 1) fun v16 => asS v16 fun p17 n18 c19 => (dr p17 fun a20 => (bnd x6 n18 (ld w4 (Addr.add a20 (Int.toNat x6 * 1)) fun v21 => asI .i64 v21 fun x22 => (J9 [(.bool (decide (x22 < id)))] w4)))))) (J9 [(.bool false)] w4)))))))))
theorem F76_link (g : Option Addr) (id : Int) (w : World) (Q : Value → World → Prop) : fnEv Try.prog Try.f76 h76 [(.pointer g), (.int .i64 id)] w Q = F76 g id w Q := by kernel_rfl
theorem F76_calls {g : Option Addr} {id : Int} {w : World} {Q : Value → World → Prop} (hF_ : F76 g id w Q) : cl Try.prog 76 #[(.pointer g), (.int .i64 id)] w Q :=
  calls_of_ev (fn := Try.f76) Try.func76 h76 (args := [(.pointer g), (.int .i64 id)]) (by rw [F76_link]; exact hF_)

/-! tiltyard/tiltyardref06.Meet -/
def h77 : Hint := (.s .d (.s .d (.j [(4, 4), (5, 31)] .d .d)))
set_option linter.unusedVariables false in
def F77 (a_0 : Int) (a_1 : Int) (a_2 : Int) (b_0 : Int) (b_1 : Int) (b_2 : Int) (w : World) (Q : Value → World → Prop) : Prop :=
 (nw w (.cells #[(.int .i64 a_0), (.int .i64 a_1), (.int .i64 a_2)] 25) fun r1 w2 => (nw w2 (.cells #[(.int .i64 b_0), (.int .i64 b_1), (.int .i64 b_2)] 25) fun r3 w4 => (lv (0 : Int) fun y5 => 
(ld w4 (⟨r1, 0, none⟩ : Addr) fun v6 => asI .i64 v6 fun x7 => (ld w4 (Addr.add (⟨r1, 0, none⟩ : Addr) 1) fun v8 => asI .i64 v8 fun x9 => (ld w4 (Addr.add (⟨r1, 0, none⟩ : Addr) 2) fun v10 => asI .i64 v10 fun x11 => (ld w4 (⟨r3, 0, none⟩ : Addr) fun v12 => asI .i64 v12 fun x13 => (ld w4 (Addr.add (⟨r3, 0, none⟩ : Addr) 1) fun v14 => asI .i64 v14 fun x15 => (ld w4 (Addr.add (⟨r3, 0, none⟩ : Addr) 2) fun v16 => asI .i64 v16 fun x17 => (cl Try.prog 88 #[(.agg #[(.int .i64 x7), (.int .i64 x9), (.int .i64 x11)]), (.agg #[(.int .i64 x13), (.int .i64 x15), (.int .i64 x17)])] w4 fun v18 w19 => asT 3 v18 fun t20 => asI .i64 (t20 0) fun x21 => asI .i64 (t20 1) fun x22 => asI .i64 (t20 2) fun x23 => (lv x21 fun x_24 => (lv x22 fun y_25 => (lv x23 fun e_26 => 
(jn (fun s27 w28 => asB (s27.getD 0 undef) fun b33 => asI .i64 (s27.getD 1 undef) fun x34 => (Q (.tuple #[(.bool b33), (.int .i64 x34)]) w28))
 (fun J29 => (cond (e_26 == (0 : Int)) (cond (decide (x_24 < (0 : Int))) (lv e_26 fun y30 => (J29 [(.bool (decide (y_25 < (0 : Int)))), (.int .i64 y30)] w19)) (lv e_26 fun y31 => (J29 [(.bool false), (.int .i64 y31)] w19))) (lv e_26 fun y32 => (J29 [(.bool false), (.int .i64 y32)] w19))))))))))))))))))
theorem F77_link (a_0 : Int) (a_1 : Int) (a_2 : Int) (b_0 : Int) (b_1 : Int) (b_2 : Int) (w : World) (Q : Value → World → Prop) : fnEv Try.prog Try.f77 h77 [(.agg #[(.int .i64 a_0), (.int .i64 a_1), (.int .i64 a_2)]), (.agg #[(.int .i64 b_0), (.int .i64 b_1), (.int .i64 b_2)])] w Q = F77 a_0 a_1 a_2 b_0 b_1 b_2 w Q := by kernel_rfl
theorem F77_calls {a_0 : Int} {a_1 : Int} {a_2 : Int} {b_0 : Int} {b_1 : Int} {b_2 : Int} {w : World} {Q : Value → World → Prop} (hF_ : F77 a_0 a_1 a_2 b_0 b_1 b_2 w Q) : cl Try.prog 77 #[(.agg #[(.int .i64 a_0), (.int .i64 a_1), (.int .i64 a_2)]), (.agg #[(.int .i64 b_0), (.int .i64 b_1), (.int .i64 b_2)])] w Q :=
  calls_of_ev (fn := Try.f77) Try.func77 h77 (args := [(.agg #[(.int .i64 a_0), (.int .i64 a_1), (.int .i64 a_2)]), (.agg #[(.int .i64 b_0), (.int .i64 b_1), (.int .i64 b_2)])]) (by rw [F77_link]; exact hF_)

/-! slices.DeleteFunc[[]int,int] -/
def h78 : Hint := (.s .d (.s .d (.s .d (.s (.s .d (.l [(5, 3), (6, 3)] (.s .d (.j [(5, 3)] .d .d)))) .d))))
set_option linter.unusedVariables false in
def F78 (s : Option Addr) (s_n s_c : Nat) (del : Nat) (del_fs del_cs : Array Value) (w : World) (Q : Value → World → Prop) : Prop :=
 
(cl Try.prog 89 #[(.slice s s_n s_c), (.func (.func del) del_fs del_cs)] w fun v1 w2 => asI .i64 v1 fun x3 => (lv x3 fun i_4 => 

(cond (i_4 == (-1 : Int)) 
(Q (.slice s s_n s_c) w2) 
(lv (IntKind.wrap .i64 (i_4 + (1 : Int))) fun j_5 => 
(lp [(.int .i64 i_4), (.int .i64 j_5)] w2 fun J8 s6 w7 => asI .i64 (s6.getD 0 undef) fun x9 => asI .i64 (s6.getD 1 undef) fun x10 => 
(cond (decide (x10 < (s_n : Int))) 
(jn (fun s11 w12 => asI .i64 (s11.getD 0 undef) fun x24 => (lv (IntKind.wrap .i64 (x10 + (1 : Int))) fun j_25 => (J8 [(.int .i64 x24), (.int .i64 j_25)] w12)))
 (fun J13 => (dr s fun a14 => (bnd x10 s_n (ld w7 (Addr.add a14 (Int.toNat x10 * 1)) fun v15 => asI .i64 v15 fun x16 => (lv x16 fun v_17 => 
(cond (callOk Try.prog del) (cl Try.prog del (del_fs ++ #[(.int .i64 v_17)] ++ del_cs) w7 fun v18 w19 => asB v18 fun b20 => 
(cond (!b20) (dr s fun a21 => (bnd x9 s_n (st w19 (Addr.add a21 (Int.toNat x9 * 1)) (.int .i64 v_17) fun w22 => 
(lv (IntKind.wrap .i64 (x9 + (1 : Int))) fun i_23 => (J13 [(.int .i64 i_23)] w22))))) (J13 [(.int .i64 x9)] w19))) (xt Try.prog del (del_fs ++ #[(.int .i64 v_17)] ++ del_cs) w7 fun v18 w19 => asB v18 fun b20 => 
(cond (!b20) (dr s fun a21 => (bnd x9 s_n (st w19 (Addr.add a21 (Int.toNat x9 * 1)) (.int .i64 v_17) fun w22 => 
(lv (IntKind.wrap .i64 (x9 + (1 : Int))) fun i_23 => (J13 [(.int .i64 i_23)] w22))))) (J13 [(.int .i64 x9)] w19)))))))))) 
(bn2 x9 s_n (rn Try.prog (Builtin.clear_ #[38] 0 #[(.slice (slp s s_c (Int.toNat x9) 1) (s_n - (Int.toNat x9)) (s_c - (Int.toNat x9)))]) w7 fun v26 w27 => 
(bn2 x9 s_c 
(Q (.slice s (Int.toNat x9) s_c) w27))))))))))
theorem F78_link (s : Option Addr) (s_n s_c : Nat) (del : Nat) (del_fs del_cs : Array Value) (w : World) (Q : Value → World → Prop) : fnEv Try.prog Try.f78 h78 [(.slice s s_n s_c), (.func (.func del) del_fs del_cs)] w Q = F78 s s_n s_c del del_fs del_cs w Q := by kernel_rfl
theorem F78_calls {s : Option Addr} {s_n s_c : Nat} {del : Nat} {del_fs del_cs : Array Value} {w : World} {Q : Value → World → Prop} (hF_ : F78 s s_n s_c del del_fs del_cs w Q) : cl Try.prog 78 #[(.slice s s_n s_c), (.func (.func del) del_fs del_cs)] w Q :=
  calls_of_ev (fn := Try.f78) Try.func78 h78 (args := [(.slice s s_n s_c), (.func (.func del) del_fs del_cs)]) (by rw [F78_link]; exact hF_)

/-! (*tiltyard/grid.Grid).drop$1 -/
def h79 : Hint := .d
set_option linter.unusedVariables false in
def F79 (n : Int) (free0_p : Option Addr) (w : World) (Q : Value → World → Prop) : Prop :=
 
(dr free0_p fun a1 => (ld w a1 fun v2 => asI .i64 v2 fun x3 => 
(Q (.bool (n == x3)) w)))
theorem F79_link (n : Int) (free0_p : Option Addr) (w : World) (Q : Value → World → Prop) : fnEv Try.prog Try.f79 h79 [(.int .i64 n), (.pointer free0_p)] w Q = F79 n free0_p w Q := by kernel_rfl
theorem F79_calls {n : Int} {free0_p : Option Addr} {w : World} {Q : Value → World → Prop} (hF_ : F79 n free0_p w Q) : cl Try.prog 79 #[(.int .i64 n), (.pointer free0_p)] w Q :=
  calls_of_ev (fn := Try.f79) Try.func79 h79 (args := [(.int .i64 n), (.pointer free0_p)]) (by rw [F79_link]; exact hF_)

/-! (*tiltyard/tiltyardref19.World).place -/
def h80 : Hint := (.s .d (.s (.s .d (.l [(5, 3)] (.s .d (.s (.j [(26, 4)] .d .d) .d)))) .d))
set_option linter.unusedVariables false in
def F80 (w' : Option Addr) (h : Int) (w : World) (Q : Value → World → Prop) : Prop :=
 (lv (0 : Int) fun y1 => 
(lv (0 : Int) fun i_2 => 
(lp [(.int .i64 i_2)] w fun J5 s3 w4 => asI .i64 (s3.getD 0 undef) fun x6 => 
(cond (decide (x6 < (64 : Int))) 
(jn (fun s7 w8 => asB (s7.getD 0 undef) fun b16 => (cond b16 (lv x6 fun y17 => 
(Q (.int .i64 y17) w8)) 
(lv (IntKind.wrap .i64 (x6 + (1 : Int))) fun i_18 => (J5 [(.int .i64 i_18)] w8))))
 (fun J9 => (dr w' fun a10 => (bnd x6 64 (ld w4 (Addr.add (Addr.add a10 64) (Int.toNat x6 * 1)) fun v11 => asB v11 fun b12 => (cond b12 (dr w' fun a13 => (bnd x6 64 (ld w4 (Addr.add (Addr.add a13 128) (Int.toNat x6 * 8)) fun v14 => asI .i64 v14 fun x15 => (J9 [(.bool (x15 == h))] w4)))) (J9 [(.bool false)] w4))))))) 
(lv (-1 : Int) fun y19 => 
(Q (.int .i64 y19) w4))))))
theorem F80_link (w' : Option Addr) (h : Int) (w : World) (Q : Value → World → Prop) : fnEv Try.prog Try.f80 h80 [(.pointer w'), (.int .i64 h)] w Q = F80 w' h w Q := by kernel_rfl
theorem F80_calls {w' : Option Addr} {h : Int} {w : World} {Q : Value → World → Prop} (hF_ : F80 w' h w Q) : cl Try.prog 80 #[(.pointer w'), (.int .i64 h)] w Q :=
  calls_of_ev (fn := Try.f80) Try.func80 h80 (args := [(.pointer w'), (.int .i64 h)]) (by rw [F80_link]; exact hF_)

/-! math.Abs -/
def h81 : Hint := .d
set_option linter.unusedVariables false in
def F81 (x : Nat) (w : World) (Q : Value → World → Prop) : Prop :=
 
(xt Try.prog 91 #[(.float .f64 x)] w fun v1 w2 => asI .u64 v1 fun x3 => (xt Try.prog 90 #[(.int .u64 (Go.bits .andNot .u64 x3 (9223372036854775808 : Int)))] w2 fun v4 w5 => asF .f64 v4 fun f6 => 
(Q (.float .f64 f6) w5)))
theorem F81_link (x : Nat) (w : World) (Q : Value → World → Prop) : fnEv Try.prog Try.f81 h81 [(.float .f64 x)] w Q = F81 x w Q := by kernel_rfl
theorem F81_calls {x : Nat} {w : World} {Q : Value → World → Prop} (hF_ : F81 x w Q) : cl Try.prog 81 #[(.float .f64 x)] w Q :=
  calls_of_ev (fn := Try.f81) Try.func81 h81 (args := [(.float .f64 x)]) (by rw [F81_link]; exact hF_)

/-! math.Trunc -/
def h82 : Hint := (.s .d (.s (.s .d .d) .d))
set_option linter.unusedVariables false in
def F82 (x : Nat) (w : World) (Q : Value → World → Prop) : Prop :=
 
(xt Try.prog 92 #[(.float .f64 x)] w fun v1 w2 => asF .f64 v1 fun f3 => 
(Q (.float .f64 f3) w2))
theorem F82_link (x : Nat) (w : World) (Q : Value → World → Prop) : fnEv Try.prog Try.f82 h82 [(.float .f64 x)] w Q = F82 x w Q := by kernel_rfl
theorem F82_calls {x : Nat} {w : World} {Q : Value → World → Prop} (hF_ : F82 x w Q) : cl Try.prog 82 #[(.float .f64 x)] w Q :=
  calls_of_ev (fn := Try.f82) Try.func82 h82 (args := [(.float .f64 x)]) (by rw [F82_link]; exact hF_)

/-! tiltyard/box.parts -/
def h83 : Hint := .d
set_option linter.unusedVariables false in
def F83 (p_0 : Int) (p_1 : Int) (w : World) (Q : Value → World → Prop) : Prop :=
 (nw w (.cells #[(.int .i64 p_0), (.int .i64 p_1)] 23) fun r1 w2 => (nw w2 (.cells #[(.int .i64 (0 : Int)), (.int .i64 (0 : Int))] 129) fun r3 w4 => 
(ld w4 (⟨r1, 0, none⟩ : Addr) fun v5 => asI .i64 v5 fun x6 => (ld w4 (Addr.add (⟨r1, 0, none⟩ : Addr) 1) fun v7 => asI .i64 v7 fun x8 => (st w4 (⟨r3, 0, none⟩ : Addr) (.int .i64 x6) fun w9 => (st w9 (Addr.add (⟨r3, 0, none⟩ : Addr) 1) (.int .i64 x8) fun w10 => 
(ld w10 (⟨r3, 0, none⟩ : Addr) fun v11 => asI .i64 v11 fun x12 => (ld w10 (Addr.add (⟨r3, 0, none⟩ : Addr) 1) fun v13 => asI .i64 v13 fun x14 => (Q (.agg #[(.int .i64 x12), (.int .i64 x14)]) w10)))))))))
theorem F83_link (p_0 : Int) (p_1 : Int) (w : World) (Q : Value → World → Prop) : fnEv Try.prog Try.f83 h83 [(.agg #[(.int .i64 p_0), (.int .i64 p_1)])] w Q = F83 p_0 p_1 w Q := by kernel_rfl
theorem F83_calls {p_0 : Int} {p_1 : Int} {w : World} {Q : Value → World → Prop} (hF_ : F83 p_0 p_1 w Q) : cl Try.prog 83 #[(.agg #[(.int .i64 p_0), (.int .i64 p_1)])] w Q :=
  calls_of_ev (fn := Try.f83) Try.func83 h83 (args := [(.agg #[(.int .i64 p_0), (.int .i64 p_1)])]) (by rw [F83_link]; exact hF_)

/-! tiltyard/box.gaps$1 -/
def h84 : Hint := (.s .d (.s (.o (ofL [0, 1, 2, 3, 4, 5, 6, 7, 8, 9, 10, 11, 12, 13, 14, 15, 16, 17, 18, 19, 20, 21] .nil)) .d))
set_option linter.unusedVariables false in
def F84 (i : Int) (free0_p : Option Addr) (free1_p : Option Addr) (free2_p : Option Addr) (free3_p : Option Addr) (w : World) (Q : Value → World → Prop) : Prop :=
 (lv (0 : Int) fun y1 => 
(dw w fun w2 => (dr free0_p fun a3 => (bnd i 2 (ld w2 (Addr.add a3 (Int.toNat i * 1)) fun v4 => asI .i64 v4 fun x5 => (dr free1_p fun a6 => (bnd i 2 (ld w2 (Addr.add a6 (Int.toNat i * 1)) fun v7 => asI .i64 v7 fun x8 => (dr free1_p fun a9 => (bnd i 2 (ld w2 (Addr.add a9 (Int.toNat i * 1)) fun v10 => asI .i64 v10 fun x11 => (dr free0_p fun a12 => (bnd i 2 (ld w2 (Addr.add a12 (Int.toNat i * 1)) fun v13 => asI .i64 v13 fun x14 => (dr free2_p fun a15 => (ld w2 (Addr.add a15 2) fun v16 => asI .i64 v16 fun x17 => (dr free3_p fun a18 => (ld w2 (Addr.add a18 2) fun v19 => asI .i64 v19 fun x20 => (lv (IntKind.wrap .i64 ((IntKind.wrap .i64 ((if (IntKind.wrap .i64 (x11 - x14)) > (IntKind.wrap .i64 (x5 - x8)) then (IntKind.wrap .i64 (x11 - x14)) else (IntKind.wrap .i64 (x5 - x8))) - x17)) - x20)) fun y21 => 
(Q (.int .i64 y21) w2))))))))))))))))))))
theorem F84_link (i : Int) (free0_p : Option Addr) (free1_p : Option Addr) (free2_p : Option Addr) (free3_p : Option Addr) (w : World) (Q : Value → World → Prop) : fnEv Try.prog Try.f84 h84 [(.int .i64 i), (.pointer free0_p), (.pointer free1_p), (.pointer free2_p), (.pointer free3_p)] w Q = F84 i free0_p free1_p free2_p free3_p w Q := by kernel_rfl
theorem F84_calls {i : Int} {free0_p : Option Addr} {free1_p : Option Addr} {free2_p : Option Addr} {free3_p : Option Addr} {w : World} {Q : Value → World → Prop} (hF_ : F84 i free0_p free1_p free2_p free3_p w Q) : cl Try.prog 84 #[(.int .i64 i), (.pointer free0_p), (.pointer free1_p), (.pointer free2_p), (.pointer free3_p)] w Q :=
  calls_of_ev (fn := Try.f84) Try.func84 h84 (args := [(.int .i64 i), (.pointer free0_p), (.pointer free1_p), (.pointer free2_p), (.pointer free3_p)]) (by rw [F84_link]; exact hF_)

/-! tiltyard/tiltyardref06.Gap -/
def h88 : Hint := (.s .d (.s .d (.s .d (.s (.j [(18, 4)] .d .d) (.s (.o (ofL [0, 1, 3, 4, 2, 5, 6, 7, 8] .nil)) .d)))))
set_option linter.unusedVariables false in
def F88 (a_0 : Int) (a_1 : Int) (a_2 : Int) (b_0 : Int) (b_1 : Int) (b_2 : Int) (w : World) (Q : Value → World → Prop) : Prop :=
 (nw w (.cells #[(.int .i64 a_0), (.int .i64 a_1), (.int .i64 a_2)] 25) fun r1 w2 => (nw w2 (.cells #[(.int .i64 b_0), (.int .i64 b_1), (.int .i64 b_2)] 25) fun r3 w4 => (lv (0 : Int) fun y5 => (lv (0 : Int) fun y6 => (lv (0 : Int) fun y7 => 
(ld w4 (⟨r1, 0, none⟩ : Addr) fun v8 => asI .i64 v8 fun x9 => (ld w4 (Addr.add (⟨r1, 0, none⟩ : Addr) 1) fun v10 => asI .i64 v10 fun x11 => (ld w4 (Addr.add (⟨r1, 0, none⟩ : Addr) 2) fun v12 => asI .i64 v12 fun x13 => (cl Try.prog 50 #[(.agg #[(.int .i64 x9), (.int .i64 x11), (.int .i64 x13)])] w4 fun v14 w15 => asB v14 fun b16 => 
(ld w15 (⟨r3, 0, none⟩ : Addr) fun v17 => asI .i64 v17 fun x18 => (ld w15 (Addr.add (⟨r3, 0, none⟩ : Addr) 1) fun v19 => asI .i64 v19 fun x20 => (ld w15 (Addr.add (⟨r3, 0, none⟩ : Addr) 2) fun v21 => asI .i64 v21 fun x22 => (cl Try.prog 50 #[(.agg #[(.int .i64 x18), (.int .i64 x20), (.int .i64 x22)])] w15 fun v23 w24 => asB v23 fun b25 => 
(jn (fun s26 w27 => asB (s26.getD 0 undef) fun b29 => (cond b29 (lv (0 : Int) fun y30 => (lv (0 : Int) fun y31 => (lv (60 : Int) fun y32 => 
(Q (.tuple #[(.int .i64 y30), (.int .i64 y31), (.int .i64 y32)]) w27)))) 
(dw w27 fun w33 => (ld w33 (⟨r1, 0, none⟩ : Addr) fun v34 => asI .i64 v34 fun x35 => (ld w33 (Addr.add (⟨r1, 0, none⟩ : Addr) 1) fun v36 => asI .i64 v36 fun x37 => (ld w33 (Addr.add (⟨r1, 0, none⟩ : Addr) 2) fun v38 => asI .i64 v38 fun x39 => (ld w33 (⟨r3, 0, none⟩ : Addr) fun v40 => asI .i64 v40 fun x41 => (ld w33 (Addr.add (⟨r3, 0, none⟩ : Addr) 1) fun v42 => asI .i64 v42 fun x43 => (ld w33 (Addr.add (⟨r3, 0, none⟩ : Addr) 2) fun v44 => asI .i64 v44 fun x45 => (ld w33 (⟨r1, 0, none⟩ : Addr) fun v46 => asI .i64 v46 fun x47 => (ld w33 (Addr.add (⟨r1, 0, none⟩ : Addr) 1) fun v48 => asI .i64 v48 fun x49 => (ld w33 (Addr.add (⟨r1, 0, none⟩ : Addr) 2) fun v50 => asI .i64 v50 fun x51 => (ld w33 (⟨r3, 0, none⟩ : Addr) fun v52 => asI .i64 v52 fun x53 => (ld w33 (Addr.add (⟨r3, 0, none⟩ : Addr) 1) fun v54 => asI .i64 v54 fun x55 => (ld w33 (Addr.add (⟨r3, 0, none⟩ : Addr) 2) fun v56 => asI .i64 v56 fun x57 => (cl Try.prog 105 #[(.agg #[(.int .i64 x35), (.int .i64 x37), (.int .i64 x39)]), (.agg #[(.int .i64 x41), (.int .i64 x43), (.int .i64 x45)]), (.int .i64 (0 : Int))] w33 fun v58 w59 => asI .i64 v58 fun x60 => (hd w59 (⟨r3, 0, none⟩ : Addr) (.int .i64 x53) (hd w59 (Addr.add (⟨r3, 0, none⟩ : Addr) 1) (.int .i64 x55) (hd w59 (Addr.add (⟨r3, 0, none⟩ : Addr) 2) (.int .i64 x57) (hd w59 (⟨r1, 0, none⟩ : Addr) (.int .i64 x47) (hd w59 (Addr.add (⟨r1, 0, none⟩ : Addr) 1) (.int .i64 x49) (hd w59 (Addr.add (⟨r1, 0, none⟩ : Addr) 2) (.int .i64 x51) (cl Try.prog 105 #[(.agg #[(.int .i64 x47), (.int .i64 x49), (.int .i64 x51)]), (.agg #[(.int .i64 x53), (.int .i64 x55), (.int .i64 x57)]), (.int .i64 (1 : Int))] w59 fun v61 w62 => asI .i64 v61 fun x63 => (lv x60 fun y64 => (lv x63 fun y65 => (lv (0 : Int) fun y66 => 
(Q (.tuple #[(.int .i64 y64), (.int .i64 y65), (.int .i64 y66)]) w62)))))))))))))))))))))))))))
 (fun J28 => (cond (!b16) (J28 [(.bool true)] w24) (J28 [(.bool (!b25))] w24)))))))))))))))))
theorem F88_link (a_0 : Int) (a_1 : Int) (a_2 : Int) (b_0 : Int) (b_1 : Int) (b_2 : Int) (w : World) (Q : Value → World → Prop) : fnEv Try.prog Try.f88 h88 [(.agg #[(.int .i64 a_0), (.int .i64 a_1), (.int .i64 a_2)]), (.agg #[(.int .i64 b_0), (.int .i64 b_1), (.int .i64 b_2)])] w Q = F88 a_0 a_1 a_2 b_0 b_1 b_2 w Q := by kernel_rfl
theorem F88_calls {a_0 : Int} {a_1 : Int} {a_2 : Int} {b_0 : Int} {b_1 : Int} {b_2 : Int} {w : World} {Q : Value → World → Prop} (hF_ : F88 a_0 a_1 a_2 b_0 b_1 b_2 w Q) : cl Try.prog 88 #[(.agg #[(.int .i64 a_0), (.int .i64 a_1), (.int .i64 a_2)]), (.agg #[(.int .i64 b_0), (.int .i64 b_1), (.int .i64 b_2)])] w Q :=
  calls_of_ev (fn := Try.f88) Try.func88 h88 (args := [(.agg #[(.int .i64 a_0), (.int .i64 a_1), (.int .i64 a_2)]), (.agg #[(.int .i64 b_0), (.int .i64 b_1), (.int .i64 b_2)])]) (by rw [F88_link]; exact hF_)

/-! slices.IndexFunc[[]int,int] -/
def h89 : Hint := (.s .d (.s (.s .d (.l [(8, 3)] .d)) .d))
set_option linter.unusedVariables false in
def F89 (s : Option Addr) (s_n s_c : Nat) (f : Nat) (f_fs f_cs : Array Value) (w : World) (Q : Value → World → Prop) : Prop :=
 (lv (0 : Int) fun y1 => 

(lp [(.int .i64 (0 : Int))] w fun J4 s2 w3 => asI .i64 (s2.getD 0 undef) fun x5 => 
(cond (decide (x5 < (s_n : Int))) 
(lv x5 fun i_6 => 
(dr s fun a7 => (bnd i_6 s_n (ld w3 (Addr.add a7 (Int.toNat i_6 * 1)) fun v8 => asI .i64 v8 fun x9 => (cond (callOk Try.prog f) (cl Try.prog f (f_fs ++ #[(.int .i64 x9)] ++ f_cs) w3 fun v10 w11 => asB v10 fun b12 => 
(cond b12 (lv i_6 fun y13 => 
(Q (.int .i64 y13) w11)) 
(J4 [(.int .i64 (IntKind.wrap .i64 (x5 + (1 : Int))))] w11))) (xt Try.prog f (f_fs ++ #[(.int .i64 x9)] ++ f_cs) w3 fun v10 w11 => asB v10 fun b12 => 
(cond b12 (lv i_6 fun y13 => 
(Q (.int .i64 y13) w11)) 
(J4 [(.int .i64 (IntKind.wrap .i64 (x5 + (1 : Int))))] w11)))))))) 
(lv (-1 : Int) fun y14 => 
(Q (.int .i64 y14) w3)))))
theorem F89_link (s : Option Addr) (s_n s_c : Nat) (f : Nat) (f_fs f_cs : Array Value) (w : World) (Q : Value → World → Prop) : fnEv Try.prog Try.f89 h89 [(.slice s s_n s_c), (.func (.func f) f_fs f_cs)] w Q = F89 s s_n s_c f f_fs f_cs w Q := by kernel_rfl
theorem F89_calls {s : Option Addr} {s_n s_c : Nat} {f : Nat} {f_fs f_cs : Array Value} {w : World} {Q : Value → World → Prop} (hF_ : F89 s s_n s_c f f_fs f_cs w Q) : cl Try.prog 89 #[(.slice s s_n s_c), (.func (.func f) f_fs f_cs)] w Q :=
  calls_of_ev (fn := Try.f89) Try.func89 h89 (args := [(.slice s s_n s_c), (.func (.func f) f_fs f_cs)]) (by rw [F89_link]; exact hF_)

/-! tiltyard/tiltyardref06.gap -/
def h105 : Hint := .d
set_option linter.unusedVariables false in
def F105 (a_0 : Int) (a_1 : Int) (a_2 : Int) (b_0 : Int) (b_1 : Int) (b_2 : Int) (axis : Int) (w : World) (Q : Value → World → Prop) : Prop :=
 (nw w (.cells #[(.int .i64 a_0), (.int .i64 a_1), (.int .i64 a_2)] 25) fun r1 w2 => (nw w2 (.cells #[(.int .i64 b_0), (.int .i64 b_1), (.int .i64 b_2)] 25) fun r3 w4 => (lv (0 : Int) fun y5 => 
(ld w4 (⟨r1, 0, none⟩ : Addr) fun v6 => asI .i64 v6 fun x7 => (ld w4 (Addr.add (⟨r1, 0, none⟩ : Addr) 1) fun v8 => asI .i64 v8 fun x9 => (cl Try.prog 113 #[(.agg #[(.int .i64 x7), (.int .i64 x9)]), (.int .i64 axis)] w4 fun v10 w11 => asI .i64 v10 fun x12 => (lv x12 fun x_13 => 
(ld w11 (⟨r3, 0, none⟩ : Addr) fun v14 => asI .i64 v14 fun x15 => (ld w11 (Addr.add (⟨r3, 0, none⟩ : Addr) 1) fun v16 => asI .i64 v16 fun x17 => (cl Try.prog 113 #[(.agg #[(.int .i64 x15), (.int .i64 x17)]), (.int .i64 axis)] w11 fun v18 w19 => asI .i64 v18 fun x20 => (lv x20 fun y_21 => 
(ld w19 (Addr.add (⟨r1, 0, none⟩ : Addr) 2) fun v22 => asI .i64 v22 fun x23 => (ld w19 (Addr.add (⟨r3, 0, none⟩ : Addr) 2) fun v24 => asI .i64 v24 fun x25 => (lv (IntKind.wrap .i64 ((IntKind.wrap .i64 ((IntKind.wrap .i64 ((if y_21 > x_13 then y_21 else x_13) - (if y_21 < x_13 then y_21 else x_13))) - x23)) - x25)) fun y26 => 
(Q (.int .i64 y26) w19)))))))))))))))
theorem F105_link (a_0 : Int) (a_1 : Int) (a_2 : Int) (b_0 : Int) (b_1 : Int) (b_2 : Int) (axis : Int) (w : World) (Q : Value → World → Prop) : fnEv Try.prog Try.f105 h105 [(.agg #[(.int .i64 a_0), (.int .i64 a_1), (.int .i64 a_2)]), (.agg #[(.int .i64 b_0), (.int .i64 b_1), (.int .i64 b_2)]), (.int .i64 axis)] w Q = F105 a_0 a_1 a_2 b_0 b_1 b_2 axis w Q := by kernel_rfl
theorem F105_calls {a_0 : Int} {a_1 : Int} {a_2 : Int} {b_0 : Int} {b_1 : Int} {b_2 : Int} {axis : Int} {w : World} {Q : Value → World → Prop} (hF_ : F105 a_0 a_1 a_2 b_0 b_1 b_2 axis w Q) : cl Try.prog 105 #[(.agg #[(.int .i64 a_0), (.int .i64 a_1), (.int .i64 a_2)]), (.agg #[(.int .i64 b_0), (.int .i64 b_1), (.int .i64 b_2)]), (.int .i64 axis)] w Q :=
  calls_of_ev (fn := Try.f105) Try.func105 h105 (args := [(.agg #[(.int .i64 a_0), (.int .i64 a_1), (.int .i64 a_2)]), (.agg #[(.int .i64 b_0), (.int .i64 b_1), (.int .i64 b_2)]), (.int .i64 axis)]) (by rw [F105_link]; exact hF_)

/-! tiltyard/tiltyardref06.part -/
def h113 : Hint := .d
set_option linter.unusedVariables false in
def F113 (p_0 : Int) (p_1 : Int) (axis : Int) (w : World) (Q : Value → World → Prop) : Prop :=
 (nw w (.cells #[(.int .i64 p_0), (.int .i64 p_1)] 23) fun r1 w2 => (lv (0 : Int) fun y3 => 

(cond (axis == (0 : Int)) (ld w2 (⟨r1, 0, none⟩ : Addr) fun v4 => asI .i64 v4 fun x5 => (lv x5 fun y6 => 
(Q (.int .i64 y6) w2))) 
(ld w2 (Addr.add (⟨r1, 0, none⟩ : Addr) 1) fun v7 => asI .i64 v7 fun x8 => (lv x8 fun y9 => 
(Q (.int .i64 y9) w2))))))
theorem F113_link (p_0 : Int) (p_1 : Int) (axis : Int) (w : World) (Q : Value → World → Prop) : fnEv Try.prog Try.f113 h113 [(.agg #[(.int .i64 p_0), (.int .i64 p_1)]), (.int .i64 axis)] w Q = F113 p_0 p_1 axis w Q := by kernel_rfl
theorem F113_calls {p_0 : Int} {p_1 : Int} {axis : Int} {w : World} {Q : Value → World → Prop} (hF_ : F113 p_0 p_1 axis w Q) : cl Try.prog 113 #[(.agg #[(.int .i64 p_0), (.int .i64 p_1)]), (.int .i64 axis)] w Q :=
  calls_of_ev (fn := Try.f113) Try.func113 h113 (args := [(.agg #[(.int .i64 p_0), (.int .i64 p_1)]), (.int .i64 axis)]) (by rw [F113_link]; exact hF_)

end Go.Proofs.Ytamobmjfdiecbaa
