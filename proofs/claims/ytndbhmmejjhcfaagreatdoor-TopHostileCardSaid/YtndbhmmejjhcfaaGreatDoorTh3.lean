/- Own texts of this claim, joined: walks and plain laws. Conditions: those of each theorem, on its arguments. -/
import Derived.Test.YtndbhmmejjhcfaaGreatDoorTh2
import Derived.Recover
import Derived.Test.YtndbhmmejjhcfaaGreatDoorProg
import Derived.KernelRfl
namespace Go.Cx
open Go Go.Sx Go.RowKit
noncomputable section
def wpJ (P : Program) (c0 c : Code) (Q : Exit → Act → World → Prop) (a : Act) (w : World) : Prop :=
  ∀ (b : Frame) (k : List Item) (cs : List Frame), ∃ e a' w', Q e a' w' ∧ Arrives P (lone (b.at a (.code c :: .inScope c0 :: k)) cs w) b k cs e a' w'
def jumpPost (P : Program) (c0 : Code) (Q : Exit → Act → World → Prop) : Exit → Act → World → Prop
  | .goto l, a, w => ∃ rest, findLabel c0 l = some rest ∧ wpJ P c0 rest Q a w
  | e, a, w => Q e a w
theorem wpJ_of {P : Program} {c0 c : Code} {Q : Exit → Act → World → Prop} {a : Act} {w : World} (h : c.wp P (jumpPost P c0 Q) a w) : wpJ P c0 c Q a w := by
  intro b k cs
  obtain ⟨e, a₁, w₁, hq, harr⟩ := h b (.inScope c0 :: k) cs
  cases e with
  | normal => exact ⟨.normal, a₁, w₁, hq, Steps.trans harr (.one step_inScope)⟩
  | exit id => exact ⟨.exit id, a₁, w₁, hq, fun k' hk => harr k' (by simp [exitTo, hk])⟩
  | goto l =>
    obtain ⟨rest, hf, hJ⟩ := hq
    obtain ⟨e₂, a₂, w₂, hq₂, harr₂⟩ := hJ b k cs
    have hg : gotoIn l (.inScope c0 :: k) = some (.code rest :: .inScope c0 :: k) := by simp [gotoIn, hf]
    exact ⟨e₂, a₂, w₂, hq₂, .of_steps (harr _ hg) harr₂⟩
  | ret => exact ⟨_, a₁, w₁, hq, harr⟩
  | panic ch => exact ⟨_, a₁, w₁, hq, harr⟩
  | outgrown => exact ⟨_, a₁, w₁, hq, harr⟩
theorem wp_scope_of {P : Program} {c : Code} {Q : Exit → Act → World → Prop} {a : Act} {w : World} (h : wpJ P c c Q a w) : (Code.scope c).wp P Q a w := by
  intro b k cs
  obtain ⟨e, a₁, w₁, hq, harr⟩ := h b k cs
  exact ⟨e, a₁, w₁, hq, .of_steps (.one step_scope) harr⟩
inductive AX where
  | normal
  | exit (i : Nat)
  | goto (l : Nat)
  | ret
def AX.x : AX → Exit
  | .normal => .normal
  | .exit i => .exit i
  | .goto l => .goto l
  | .ret => .ret
abbrev Fr := Tr AV × List DefA
def addD (D : List DefA) (r : Option (Tr AV × AS)) : Option (AX × Fr × AS) := match r with | some (e, S) => some (.normal, (e, D), S) | none => none
def norm3 (r : Option (Tr AV × AS × List DefA)) : Option (AX × Fr × AS) := match r with | some (e, S, D) => some (.normal, (e, D), S) | none => none
abbrev CodeR := Option (AX × Fr × AS)
abbrev CodeF := Code → Option Code → Fr → AS → CodeR
def rcIn (run : CodeF) (c c0 : Code) (e : Fr) (S : AS) : CodeR := match run c none e S with
  | some (.goto l, e1, S1) => match findLabel c0 l with
    | some rest => run rest (some c0) e1 S1
    | none => none
  | r => r
def rcReg (P : Program) (T : Tab) (G m : Nat) (call : CallF) (ops : Array Oper) (dr : Bool) (e : Fr) (S : AS) : CodeR := cond dr
  (cond (Region.noSelect ops) (addD e.2 (drawOps P T G m call ops ops.size (Array.replicate ops.size false) [] [] e.1 S)) none)
  (norm3 (runOps P T G m call ops.toList (List.range ops.size) e.1 S e.2))
def rcSeq (run : CodeF) (x z : Code) (e : Fr) (S : AS) : CodeR := match run x none e S with
  | some (.normal, e1, S1) => run z none e1 S1
  | r => r
def rcIf (G : Nat) (run : CodeF) (q : Operand) (x z : Code) (e : Fr) (S : AS) : CodeR := match rdA e.1 q with
  | some (.lit (.bool b)) => cond (glOk G q) (cond b (run x none e S) (run z none e S)) none
  | _ => none
def rcBlk (run : CodeF) (id : Nat) (c : Code) (e : Fr) (S : AS) : CodeR := match run c none e S with
  | some (.exit i, e1, S1) => some (cond (Nat.beq i id) .normal (.exit i), e1, S1)
  | r => r
def rcLoop (run : CodeF) (c : Code) (e : Fr) (S : AS) : CodeR := match run c none e S with
  | some (.normal, e1, S1) => run (.loop c) none e1 S1
  | r => r
def rcDo (P : Program) (T : Tab) (G m : Nat) (call : CallF) (run : CodeF) (c : Code) (e : Fr) (S : AS) : CodeR := match c with
  | .skip => some (.normal, e, S)
  | .label _ => some (.normal, e, S)
  | .region _ ops dr => rcReg P T G m call ops dr e S
  | .seq x z => rcSeq run x z e S
  | .cond q x z => rcIf G run q x z e S
  | .block id c => rcBlk run id c e S
  | .loop c => rcLoop run c e S
  | .scope c => run c (some c) e S
  | .exit id => some (.exit id, e, S)
  | .goto l => some (.goto l, e, S)
  | .ret => some (.ret, e, S)
  | _ => none
def runCode (P : Program) (T : Tab) (G m : Nat) (call : CallF) (f : Nat) : CodeF :=
  Nat.rec (motive := fun _ => CodeF) (fun _ _ _ _ => none) (fun _ run c sc e S => match sc with
    | some c0 => rcIn run c c0 e S
    | none => rcDo P T G m call run c e S) f
theorem runCode_in {P : Program} {T : Tab} {G m : Nat} {call : CallF} {f : Nat} {c c0 : Code} {e : Fr} {S : AS} : runCode P T G m call (f + 1) c (some c0) e S = rcIn (runCode P T G m call f) c c0 e S := rfl
theorem runCode_do {P : Program} {T : Tab} {G m : Nat} {call : CallF} {f : Nat} {c : Code} {e : Fr} {S : AS} : runCode P T G m call (f + 1) c none e S = rcDo P T G m call (runCode P T G m call f) c e S := rfl
section
variable {P : Program} {T : Tab} {m G : Nat} {w0 : Frm} {call : CallF}
structure At (w0 : Frm) (G m : Nat) (y0 : Lay) (n0 : Nat) (e : Fr) (S : AS) (a : Act) (w : World) : Prop where
  ex : ∃ env y, Agr m env (nod a) ∧ EnvR y S.next e.1 env ∧ Rel w0 G y S w ∧ Lay.same n0 y0 y ∧ n0 ≤ S.next ∧ DefR y S.next e.2 a.defers
theorem At.then {y0 : Lay} {n0 : Nat} {S : AS} {y : Lay} {e' : Tr AV} {S' : AS} {D' : List DefA} {a' : Act} {w' : World} (h1 : Lay.same n0 y0 y) (h2 : n0 ≤ S.next) (h : After w0 G m y S e' S' D' a' w') : At w0 G m y0 n0 (e', D') S' a' w' := by
  obtain ⟨env', y', q1, q2, q3, q4, q5, q6⟩ := h.ex
  exact ⟨env', y', q1, q2, q3, Lay.same_trans h1 q4 h2, Nat.le_trans h2 q5, q6⟩
def wpS (P : Program) (c : Code) : Option Code → (Exit → Act → World → Prop) → Act → World → Prop
  | none, Q, a, w => c.wp P Q a w
  | some c0, Q, a, w => wpJ P c0 c Q a w
theorem runCode_of (hT : TabOk P T) (hC : ∀ F, CallsOk P F G call) : ∀ (f : Nat) {c : Code} {sc : Option Code} {e : Fr} {S : AS} {a : Act} {w : World} {y0 : Lay} {n0 : Nat} {x : AX} {e' : Fr} {S' : AS} {Q : Exit → Act → World → Prop},
    At w0 G m y0 n0 e S a w → runCode P T G m call f c sc e S = some (x, e', S') → (∀ a' w', At w0 G m y0 n0 e' S' a' w' → Q x.x a' w') → wpS P c sc Q a w := by
  intro f0
  induction f0 using Nat.strongRecOn with
  | _ f0 ih =>
    intro c sc e S a w y0 n0 x e' S' Q hA hr hQ
    cases f0 with
    | zero => cases hr
    | succ f =>
    cases sc with
    | some c0 =>
      rw [runCode_in] at hr
      unfold rcIn at hr
      refine wpJ_of ?_
      split at hr
      · rename_i l e1 S1 h1
        refine ih f (Nat.lt_succ_self _) (sc := none) hA h1 fun a' w' h => ?_
        split at hr
        · rename_i rest hf
          exact ⟨rest, hf, ih f (Nat.lt_succ_self _) (sc := some c0) h hr hQ⟩
        · cases hr
      · rename_i hno
        refine ih f (Nat.lt_succ_self _) (sc := none) hA hr fun a' w' h => ?_
        have := hQ a' w' h
        cases x with
        | goto l => exact absurd hr (hno _ _ _)
        | normal => exact this
        | exit i => exact this
        | ret => exact this
    | none =>
    show c.wp P Q a w
    rw [runCode_do] at hr
    unfold rcDo at hr
    split at hr
    · cases (Option.some.inj hr); exact wp_skip (hQ a w hA)
    · cases (Option.some.inj hr); exact wp_label (hQ a w hA)
    · rename_i id ops dr
      unfold rcReg at hr
      cases dr
      · simp only [cond_false] at hr
        unfold norm3 at hr
        split at hr
        · rename_i e1 S1 D1 hops
          cases (Option.some.inj hr)
          obtain ⟨env, y, q1, q2, q3, q4, q5, q6⟩ := hA.ex
          exact wp_region (runOps_of hT (hC _) _ q3 q1 q2 q6 hops fun a' w' h => hQ a' w' (At.then q4 q5 h))
        · cases hr
      · simp only [cond_true] at hr
        cases hsel : Region.noSelect ops <;> rw [hsel] at hr
        · cases hr
        simp only [cond_true] at hr
        unfold addD at hr
        split at hr
        · rename_i e1 S1 hops
          cases (Option.some.inj hr)
          obtain ⟨env, y, q1, q2, q3, q4, q5, q6⟩ := hA.ex
          refine wp_mono (Q := fun e a' w' => e = .normal ∧ Q .normal a' w') (wp_region_any hT.mixed (wpAny_of_L _ [] _ _ _ ?_)) (by rintro e a w ⟨rfl, h⟩; exact h)
          exact drawOps_of hT hC hsel (fun c a w h => by cases h.1) (S0 := S) rfl (fun a' w' h => ⟨rfl, hQ a' w' (At.then q4 q5 h)⟩) _ hops (DS.begin (q3.keep (Ext.drew w)) q1 q2 q6)
        · cases hr
    · rename_i z1 z2
      refine wp_seq ?_
      unfold rcSeq at hr
      split at hr
      · rename_i e1 S1 h1
        exact ih f (Nat.lt_succ_self _) (sc := none) hA h1 fun a' w' h => ih f (Nat.lt_succ_self _) (sc := none) h hr hQ
      · rename_i hno
        refine ih f (Nat.lt_succ_self _) (sc := none) hA hr fun a' w' h => ?_
        have := hQ a' w' h
        cases x with
        | normal => exact absurd hr (hno _ _)
        | exit i => exact this
        | goto l => exact this
        | ret => exact this
    · rename_i q z1 z2
      unfold rcIf at hr
      split at hr
      · rename_i b hb
        cases hg : glOk G q <;> rw [hg] at hr
        · cases hr
        obtain ⟨env, y, q1, q2, q3, q4, q5, q6⟩ := hA.ex
        have he : a.eval q = .bool b := (q2.eval q1 q3.gl q3.gn hb hg).1
        cases b
        · exact wp_cond_false he (ih f (Nat.lt_succ_self _) (sc := none) hA hr hQ)
        · exact wp_cond_true he (ih f (Nat.lt_succ_self _) (sc := none) hA hr hQ)
      · cases hr
    · rename_i id c
      refine wp_block ?_
      unfold rcBlk at hr
      split at hr
      · rename_i i e1 S1 h1
        cases (Option.some.inj hr)
        refine ih f (Nat.lt_succ_self _) (sc := none) hA h1 fun a' w' h => ?_
        have := hQ a' w' h
        show Exit.inBlock id Q (.exit i) a' w'
        unfold Exit.inBlock
        simp only
        cases hi : Nat.beq i id <;> rw [hi] at this
        · rw [if_neg (fun h0 => by rw [h0] at hi; simp at hi)]; exact this
        · rw [if_pos (Nat.eq_of_beq_eq_true hi)]; exact this
      · rename_i hno
        refine ih f (Nat.lt_succ_self _) (sc := none) hA hr fun a' w' h => ?_
        have := hQ a' w' h
        cases x with
        | normal => exact this
        | exit i => exact absurd hr (hno _ _ _)
        | goto l => exact this
        | ret => exact this
    · rename_i c
      refine wp_loop_ghost (fun n a w => ∃ e S, At w0 G m y0 n0 e S a w ∧ n ≤ f + 1 ∧ runCode P T G m call n (.loop c) none e S = some (x, e', S')) (f + 1) ⟨e, S, hA, Nat.le_refl _, hr⟩ ?_
      rintro n a w ⟨e, S, hA, hn, hr⟩
      cases n with
      | zero => cases hr
      | succ k =>
        rw [runCode_do] at hr
        unfold rcDo at hr
        simp only at hr
        unfold rcLoop at hr
        have lift : ∀ {e1 S1 x1 Q1}, runCode P T G m call k c none e S = some (x1, e1, S1) → (∀ a' w', At w0 G m y0 n0 e1 S1 a' w' → Q1 x1.x a' w') → c.wp P Q1 a w := fun h1 h2 => ih k (by omega) (sc := none) hA h1 h2
        split at hr
        · rename_i e1 S1 h1
          exact lift h1 fun a' w' h => ⟨k, Nat.lt_succ_self _, e1, S1, h, by omega, hr⟩
        · rename_i hno
          refine lift hr fun a' w' h => ?_
          have := hQ a' w' h
          cases x with
          | normal => exact absurd hr (hno _ _)
          | exit i => exact this
          | goto l => exact this
          | ret => exact this
    · rename_i c
      exact wp_scope_of (ih f (Nat.lt_succ_self _) (sc := some c) hA hr hQ)
    · cases (Option.some.inj hr); exact wp_exit (hQ a w hA)
    · cases (Option.some.inj hr); exact wp_goto (hQ a w hA)
    · cases (Option.some.inj hr); exact wp_ret (hQ a w hA)
    · cases hr
end
end
end Go.Cx
namespace Go.Cx
open Go Go.Sx Go.RowKit
noncomputable section
def argsE : List AV → Nat → Tr AV → Tr AV
  | [], _, e => e
  | v :: l, i, e => argsE l (i + 1) (Tr.put (dp i) e i (some v))
theorem argsE_get : ∀ (l : List AV) (i : Nat) (e : Tr AV) (t : Nat) (v : AV), (argsE l i e).get t = some v → (i ≤ t ∧ l[t - i]? = some v) ∨ e.get t = some v
  | [], _, _, _, _, h => .inr h
  | u :: l, i, e, t, v, h => by
    rcases argsE_get l (i + 1) _ t v h with ⟨h1, h2⟩ | h
    · refine .inl ⟨by omega, ?_⟩
      rw [show t - i = (t - (i + 1)) + 1 by omega]
      simpa using h2
    · rw [Tr.put_get] at h
      by_cases e : t = i
      · rw [if_pos e] at h
        cases h
        exact .inl ⟨by omega, by rw [e, Nat.sub_self]; rfl⟩
      · rw [if_neg e] at h
        exact .inr h
def tupA : List AV → AV
  | [v] => v
  | vs => .tup vs
theorem tupA_g (y : Lay) : ∀ vs : List AV, (tupA vs).g y = tup (AV.gs y vs)
  | [] => by rw [tupA, AV.g]; rfl; simp
  | [v] => rfl
  | u :: v :: vs => by rw [tupA, AV.g]; rfl; simp
def ldO (t : TypeId) (x : Nat) : Oper := { dst := none, op := .load t (.tmp x), type := 0, pos := "", after := #[], guard := none }
def resA (T : Tab) (S : AS) (e : Tr AV) : List ResultVar → Option (List AV)
  | [] => some []
  | .tmp t :: rs => match e.get t, resA T S e rs with
    | some v, some vs => some (v :: vs)
    | _, _ => none
  | .cell x t :: rs => match exLd T S e (ldO t x), resA T S e rs with
    | some v, some vs => some (v :: vs)
    | _, _ => none
def fnOk (fn : Func) : Bool := fn.body.isSome && !(fn.name == "runtime.NumGoroutine")
def runBody (P : Program) (T : Tab) (G fuel : Nat) (call : CallF) (k : FuncId) (args : List AV) (S : AS) : Option (Func × Fr × AS) := match T.fns.get k with
  | some fn => cond (fnOk fn && Nat.ble args.length fn.ntmps) (match fn.body with
    | some c => match runCode P T G fn.ntmps call fuel c none (argsE args 0 .lf, []) S with
      | some (.normal, e', S') => some (fn, e', S')
      | some (.ret, e', S') => some (fn, e', S')
      | _ => none
    | none => none) none
  | none => none
def runDefs (T : Tab) (callD : CallF) : List DefA → AS → Option AS
  | [], S => some S
  | (k, us, cs) :: D, S => match T.rcv.get k with
    | some m => cond (Nat.ble (us ++ cs).length m) (runDefs T callD D S) none
    | none => match callD k (us ++ cs) S with
      | some (_, S') => runDefs T callD D S'
      | none => none
def retA (T : Tab) (fn : Func) (e : Tr AV) (S : AS) : Option (AV × AS) := withS S (match resA T S e fn.results.toList with | some vs => some (tupA vs) | none => none)
def endD (T : Tab) (r : Option (Func × Fr × AS)) : Option (AV × AS) := match r with
  | some (fn, (e, []), S) => retA T fn e S
  | _ => none
def runTop (P : Program) (T : Tab) (G fuel : Nat) (call : CallF) : CallF := fun k args S => match runBody P T G fuel call k args S with
  | some (fn, e', S1) => match runDefs T (fun k args S => endD T (runBody P T G fuel call k args S)) e'.2 S1 with
    | some S2 => retA T fn e'.1 S2
    | none => none
  | none => none
def runFn (P : Program) (T : Tab) (G fuel f : Nat) : CallF := Nat.rec (motive := fun _ => CallF) (fun _ _ _ => none) (fun _ call => runTop P T G fuel call) f
section
variable {P : Program} {T : Tab} {m n G : Nat} {w0 : Frm} {w : World} {y : Lay} {e : Tr AV} {env : Env} {S : AS} {a : Act} {call : CallF}
theorem ldO_of (hT : TabOk P T) (hR : Rel w0 G y S w) (ha : Agr m env (nod a)) (h : EnvR y S.next e env) {t x : Nat} {v : AV} (hv : exLd T S e (ldO t x) = some v) :
    (resF a.tmps (.cell x t)).run P w = .ok (v.g y) w ∧ v.lt S.next = true := by
  obtain ⟨⟨fs, h1, h2⟩, h3⟩ := exLd_of hT hR ha h (o := ldO t x) rfl hv
  refine ⟨?_, h3⟩
  have hr := h1 w h2
  obtain ⟨r, k, hx⟩ : ∃ r k, e.get x = some (.ptr r k) := by
    unfold exLd at hv
    simp only [ldO, rdA] at hv
    split at hv
    · rename_i r k hx; exact ⟨r, k, hx⟩
    · cases hv
  have he : (nod a).eval (.tmp x) = .pointer (some ⟨y.b r, k, none⟩) := (h.eval ha hR.gl hR.gn (x := .tmp x) hx rfl).1
  have he2 : a.tmps.getD x undef = .pointer (some ⟨y.b r, k, none⟩) := he
  have hl : (execOp (nod a).eval (ldO t x)).run P w = ((loadVar t ⟨y.b r, k, none⟩).run P w).andThen fun v w => .ok (.value v) w := by
    simp [execOp, ldO, Instr.loadAt, Instr.sureAddr, he]
  rw [hl] at hr
  have hl2 : (loadVar t ⟨y.b r, k, none⟩).run P w = .ok (v.g y) w := by
    cases hq : (loadVar t ⟨y.b r, k, none⟩).run P w with
    | halt z w' => rw [hq] at hr; cases hr
    | ok u w' => rw [hq, Result.andThen_ok] at hr; cases hr; rfl
  simp only [resF, he2, asAddr, Sem.run_bind, Sem.run_pure, Result.andThen_ok, hl2]
theorem resA_of (hT : TabOk P T) (hR : Rel w0 G y S w) (ha : Agr m env (nod a)) (h : EnvR y S.next e env) : ∀ {rs : List ResultVar} {vs : List AV}, resA T S e rs = some vs →
    (rs.mapM (resF a.tmps)).run P w = .ok (AV.gs y vs) w ∧ AV.lts S.next vs = true
  | [], vs, hr => by cases (Option.some.inj hr); exact ⟨by simp [AV.gs], rfl⟩
  | .tmp t :: rs, vs, hr => by
    rw [resA] at hr
    split at hr
    · rename_i v vs' hv hvs
      cases hr
      obtain ⟨h1, h2⟩ := resA_of hT hR ha h hvs
      have he : a.tmps.getD t undef = v.g y := (h.eval ha hR.gl hR.gn (x := .tmp t) hv rfl).1
      refine ⟨?_, by rw [AV.lts, h.lt t v hv, h2]; rfl⟩
      rw [List.mapM_cons]
      simp only [Sem.run_bind, resF, Sem.run_pure, Result.andThen_ok, h1, he, AV.gs]
    · cases hr
  | .cell x t :: rs, vs, hr => by
    rw [resA] at hr
    split at hr
    · rename_i v vs' hv hvs
      cases hr
      obtain ⟨h1, h2⟩ := resA_of hT hR ha h hvs
      obtain ⟨h3, h4⟩ := ldO_of hT hR ha h hv
      refine ⟨?_, by rw [AV.lts, h4, h2]; rfl⟩
      rw [List.mapM_cons]
      simp only [Sem.run_bind, h3, Sem.run_pure, Result.andThen_ok, h1, AV.gs]
    · cases hr
theorem tupA_lt {vs : List AV} (h : AV.lts n vs = true) : (tupA vs).lt n = true := by
  match vs with
  | [] => rfl
  | [v] => rw [AV.lts, Bool.and_eq_true] at h; exact h.1
  | u :: v :: vs => exact h
theorem retA_of (hT : TabOk P T) (hR : Rel w0 G y S w) (ha : Agr m env (nod a)) (h : EnvR y S.next e env) {fn : Func} {v : AV} {S' : AS} (hv : retA T fn e S = some (v, S')) :
    (results fn a.tmps).run P w = .ok (v.g y) w ∧ v.lt S.next = true ∧ S' = S := by
  unfold retA at hv
  obtain ⟨hr, rfl⟩ := withS_eq hv
  split at hr
  · rename_i vs hvs
    cases hr
    obtain ⟨h1, h2⟩ := resA_of hT hR ha h hvs
    refine ⟨?_, tupA_lt h2, rfl⟩
    rw [results_eq, ← Array.toArray_toList (xs := fn.results), List.mapM_toArray]
    simp only [Sem.run_bind, Sem.run_map, h1, Result.andThen_ok, Sem.run_pure, tup_eq, tupA_g]
  · cases hr
theorem runBody_of (hT : TabOk P T) (hC : ∀ F, CallsOk P F G call) {fuel : Nat} {k : FuncId} {args : List AV} {fn : Func} {fr : Fr} {S' : AS} (h : runBody P T G fuel call k args S = some (fn, fr, S')) (hR : Rel w0 G y S w) (hl : AV.lts S.next args = true) :
    P.funcs[k]? = some fn ∧ callOk P k = true ∧ ∃ c, fn.body = some c ∧ ∀ Q : Exit → Act → World → Prop, (∀ a' w', At w0 G fn.ntmps y S.next fr S' a' w' → Q .normal a' w' ∧ Q .ret a' w') →
      c.wp P Q { tmps := (AV.gs y args).toArray ++ Array.replicate (fn.ntmps - (AV.gs y args).toArray.size) undef, defers := [] } w := by
  unfold runBody at h
  split at h
  · rename_i fn' hfn
    have hf := hT.fns k fn' hfn
    cases hok : (fnOk fn' && Nat.ble args.length fn'.ntmps) <;> rw [hok] at h
    · cases h
    simp only [cond_true] at h
    rw [Bool.and_eq_true, Nat.ble_eq] at hok
    split at h
    · rename_i c hc
      have hA : At w0 G fn'.ntmps y S.next (argsE args 0 .lf, []) S { tmps := (AV.gs y args).toArray ++ Array.replicate (fn'.ntmps - (AV.gs y args).toArray.size) undef, defers := [] } w := by
        have hsz : (AV.gs y args).length = args.length := gs_length y args
        have hg : ∀ t v, (argsE args 0 .lf).get t = some v → args[t]? = some v := fun t v hv => by
          rcases argsE_get args 0 .lf t v hv with ⟨_, h2⟩ | h2
          · simpa using h2
          · cases h2
        refine ⟨fun t => ((argsE args 0 .lf).get t).map (AV.g y), y, ⟨rfl, by simp [nod]; omega, fun t v ht => ?_⟩, ⟨fun t => rfl, fun t v hv => AV.lts_all _ hl v (List.mem_of_getElem? (hg t v hv))⟩, hR, Lay.same_refl _ _, Nat.le_refl _, .nil⟩
        cases hq : (argsE args 0 .lf).get t with
        | none => rw [hq] at ht; cases ht
        | some u =>
          rw [hq] at ht
          cases ht
          have h1 := gs_get y (hg t u hq)
          have hlt : t < (AV.gs y args).length := (List.getElem?_eq_some_iff.1 h1).1
          show ((AV.gs y args).toArray ++ Array.replicate (fn'.ntmps - (AV.gs y args).toArray.size) undef)[t]? = _
          rw [Array.getElem?_append_left (by simpa using hlt)]
          simpa using h1
      split at h
      · rename_i e' S1 hrun
        cases h
        exact ⟨hf, by unfold callOk; rw [hf]; exact hok.1, c, hc, fun Q hQ => runCode_of hT hC fuel (sc := none) hA hrun fun a' w' hA' => (hQ a' w' hA').1⟩
      · rename_i e' S1 hrun
        cases h
        exact ⟨hf, by unfold callOk; rw [hf]; exact hok.1, c, hc, fun Q hQ => runCode_of hT hC fuel (sc := none) hA hrun fun a' w' hA' => (hQ a' w' hA').2⟩
      · cases h
    · cases h
  · cases h
def CallsDOk (P : Program) (w0 : Frm) (G : Nat) (call : CallF) : Prop :=
  ∀ k args S v S', call k args S = some (v, S') → ∀ y w, Rel w0 G y S w → AV.lts S.next args = true → callOk P k = true ∧ CallsD P k (AV.gs y args).toArray .returning w fun e u' w' => u' = .returning ∧ ∃ u, e = .returned u ∧ Out w0 G y S S' v u w'
theorem endD_of (hT : TabOk P T) (hC : ∀ F, CallsOk P F G call) (fuel : Nat) : CallsDOk P w0 G fun k args S => endD T (runBody P T G fuel call k args S) := by
  intro k args S v S' h y w hR hl
  simp only [endD] at h
  split at h
  · rename_i fn e S1 hb
    obtain ⟨hf, hok, c, hc, hw⟩ := runBody_of hT hC hb hR hl
    refine ⟨hok, CallsD.mono (callsD_of_wp (R := fun e w' => ∃ u, e = .returned u ∧ Out w0 G y S S' v u w') hf hc (hw _ fun a' w' hA => ?_)) fun e u' w' h => h⟩
    obtain ⟨env', y', q1, q2, q3, q4, q5, q6⟩ := hA.ex
    have hds : a'.defers = [] := by
      generalize a'.defers = ds at q6
      cases q6
      rfl
    obtain ⟨h1, h2, rfl⟩ := retA_of hT q3 q1 q2 h
    have : a'.defers = [] ∧ ∃ v', (results fn a'.tmps).run P w' = .ok v' w' ∧ ∃ u, Ending.returned v' = .returned u ∧ Out w0 G y S S' v u w' := ⟨hds, _, h1, _, rfl, y', q3, q4, q5, h2, rfl⟩
    exact ⟨this, this⟩
  · cases h
theorem runDefs_of (hT : TabOk P T) {callD : CallF} (hD : CallsDOk P w0 G callD) {fn : Func} {tmps : Array Value} {R : Ending → World → Prop} {S2 : AS} : ∀ {D : List DefA} {ds : List Deferred} {S1 : AS} {y1 : Lay} {w1 : World},
    Rel w0 G y1 S1 w1 → DefR y1 S1.next D ds → runDefs T callD D S1 = some S2 →
    (∀ y2 w2, Rel w0 G y2 S2 w2 → Lay.same S1.next y1 y2 → S1.next ≤ S2.next → ∃ v, (results fn tmps).run P w2 = .ok v w2 ∧ R (.returned v) w2) → Leaves P fn tmps R ds .returning w1
  | [], ds, S1, y1, w1, hR, h, hr, hK => by
    cases h
    cases (Option.some.inj hr)
    exact hK y1 w1 hR (Lay.same_refl _ _) (Nat.le_refl _)
  | (k, us, cs) :: D, ds, S1, y1, w1, hR, h, hr, hK => by
    cases h with
    | cons h1 h2 h =>
    rename_i ds
    have hinv : callOk P k = true → (invoke (.fn (.func k) (AV.gs y1 cs).toArray) (AV.gs y1 us).toArray).run P w1 = .ok (.enter k (AV.gs y1 (us ++ cs)).toArray) w1 := fun hok => by
      simp [invoke, callOk_run hok, gs_append]
    rw [runDefs] at hr
    split at hr
    · rename_i m hk
      obtain ⟨hok, hcd⟩ := hT.rcv k m hk
      cases hm : Nat.ble (us ++ cs).length m <;> rw [hm] at hr
      · cases hr
      refine leaves_cons (fun h => by cases h) (hinv hok) (CallsD.mono (hcd _ w1 (by rw [AV.gs_map]; simpa using Nat.le_of_ble_eq_true hm)) ?_)
      rintro e u' w' ⟨rfl, ⟨v, rfl⟩, hx⟩
      exact runDefs_of hT hD (hR.keep hx) h hr hK
    · split at hr
      · rename_i v S' hcall
        obtain ⟨hok, hcd⟩ := hD k _ S1 v S' hcall y1 w1 hR (lts_append' h1 h2)
        refine leaves_cons (fun h => by cases h) (hinv hok) (CallsD.mono hcd ?_)
        rintro e u' w' ⟨rfl, u, rfl, y2, k1, k2, k3, _, _⟩
        exact runDefs_of hT hD k1 (h.mono k2 k3) hr fun y3 w3 q1 q2 q3 => hK y3 w3 q1 (Lay.same_trans k2 q2 k3) (Nat.le_trans k3 q3)
      · cases hr
theorem runTop_of (hT : TabOk P T) (fuel : Nat) (hC : ∀ F, CallsOk P F G call) (w0 : Frm) : CallsOk P w0 G (runTop P T G fuel call) := fun k args S v S' h y w hR hl => by
    unfold runTop at h
    split at h
    · rename_i fn fr S1 hb
      split at h
      · rename_i S2 hd
        obtain ⟨hf, hok, c, hc, hw⟩ := runBody_of hT hC hb hR hl
        refine ⟨hok, ?_⟩
        unfold cl
        refine calls_of_wp_defers hf hc (hw _ fun a' w' hA => ?_)
        obtain ⟨env', y', q1, q2, q3, q4, q5, q6⟩ := hA.ex
        have : Leaves P fn a'.tmps (fun e w' => ∃ u, e = .returned u ∧ Out w0 G y S S' v u w') a'.defers .returning w' := by
          refine runDefs_of hT (endD_of hT hC fuel) q3 q6 hd fun y2 w2 k1 k2 k3 => ?_
          obtain ⟨h1, h2, rfl⟩ := retA_of hT k1 q1 (q2.mono k2 k3) h
          exact ⟨_, h1, _, rfl, y2, k1, Lay.same_trans q4 k2 q5, Nat.le_trans q5 k3, h2, rfl⟩
        exact ⟨this, this⟩
      · cases h
    · cases h
theorem runFn_of (hT : TabOk P T) (fuel : Nat) : ∀ f w0, CallsOk P w0 G (runFn P T G fuel f)
  | 0 => fun w0 k args S v S' h => by cases h
  | f + 1 => runTop_of hT fuel (runFn_of hT fuel f)
end
end
end Go.Cx
namespace Go.Cx
open Go Go.Sx Go.RowKit
noncomputable section
abbrev RowL := List (Nat × ARow)
def mkR : RowL → Tr ARow
  | [] => .lf
  | (r, R) :: l => Tr.put (dp r) (mkR l) r (some R)
def mkS (n : Nat) (l : RowL) : AS := ⟨mkR l, n⟩
theorem mkR_get : ∀ {l : RowL} {r : Nat} {R : ARow}, (mkR l).get r = some R → (r, R) ∈ l
  | [], r, R, h => by cases h
  | (q, Q) :: l, r, R, h => by
    rw [mkR, Tr.put_get] at h
    by_cases e : r = q
    · rw [if_pos e] at h
      cases h
      rw [e]
      exact List.mem_cons_self
    · rw [if_neg e] at h
      exact List.mem_cons_of_mem _ (mkR_get h)
def litsEq : List Value → List Value → Bool
  | [], [] => true
  | a :: l, b :: m => litEq a b && litsEq l m
  | _, _ => false
theorem litsEq_eq : ∀ {l m : List Value}, litsEq l m = true → l = m
  | [], m, h => by cases m <;> first | rfl | cases h
  | a :: l, m, h => by
    cases m with
    | nil => cases h
    | cons b m => rw [litsEq, Bool.and_eq_true] at h; rw [litEq_eq h.1, litsEq_eq h.2]
def keysEq : Option (List Value) → Option (List Value) → Bool
  | none, none => true
  | some l, some m => litsEq l m
  | _, _ => false
def ARow.eqb (R Q : ARow) : Bool := Nat.beq R.t Q.t && Nat.beq R.s Q.s && AV.eqbs R.cells Q.cells && keysEq R.m Q.m
theorem ARow.eqb_eq {R Q : ARow} (h : R.eqb Q = true) : R = Q := by
  simp only [ARow.eqb, Bool.and_eq_true] at h
  obtain ⟨⟨⟨h1, h2⟩, h3⟩, h4⟩ := h
  cases R
  cases Q
  simp only at h1 h2 h3 h4
  rw [Nat.eq_of_beq_eq_true h1, Nat.eq_of_beq_eq_true h2, AV.eqbs_eq h3]
  congr 1
  unfold keysEq at h4
  split at h4
  · rfl
  · rw [litsEq_eq h4]
  · cases h4
def subB (l : RowL) (S : AS) : Bool := l.all fun x => match S.rows.get x.1 with | some Q => x.2.eqb Q | none => false
theorem subB_of {l : RowL} {S : AS} (h : subB l S = true) {r : Nat} {R : ARow} (hm : (r, R) ∈ l) : S.rows.get r = some R := by
  have := List.all_eq_true.1 h _ hm
  simp only at this
  split at this
  · rename_i Q hQ
    rw [hQ, ARow.eqb_eq this]
  · cases this
structure Ent where
  k : FuncId
  args : List AV
  pn : Nat
  pre : RowL
  v : AV
  qn : Nat
  post : RowL
def callE : List Ent → CallF
  | [], _, _, _ => none
  | x :: es, k, args, S => cond (Nat.beq k x.k && AV.eqbs args x.args && Nat.beq S.next x.pn && subB x.pre S) (some (x.v, mkS x.qn x.post)) (callE es k args S)
def entB (call : CallF) (x : Ent) : Bool := match call x.k x.args (mkS x.pn x.pre) with
  | some (v, S') => v.eqb x.v && Nat.beq S'.next x.qn && subB x.post S'
  | none => false
section
variable {P : Program} {T : Tab} {y : Lay} {G : Nat} {w0 : Frm} {w : World} {S : AS} {call : CallF}
theorem Rel.sub (h : Rel w0 G y S w) {l : RowL} (hs : subB l S = true) : Rel w0 G y (mkS S.next l) w :=
  have hr : ∀ r R, (mkS S.next l).rows.get r = some R → S.rows.get r = some R := fun r R hr => subB_of hs (mkR_get hr)
  ⟨h.ext, h.gl, fun r R hq => h.lies r R (hr r R hq), fun r R hq => h.own r R (hr r R hq), fun r r' R R' h1 h2 => h.inj r r' R R' (hr r R h1) (hr r' R' h2), h.gn, h.gz⟩
theorem callE_of : ∀ {es : List Ent}, (∀ x ∈ es, ∃ call, (∀ F, CallsOk P F G call) ∧ entB call x = true) → ∀ F, CallsOk P F G (callE es)
  | [], _, F, k, args, S, v, S', h, _, _, _, _ => by cases h
  | x :: es, hx, F, k, args, S, v, S', h, y, w, hR, hl => by
    rw [callE] at h
    cases hb : (Nat.beq k x.k && AV.eqbs args x.args && Nat.beq S.next x.pn && subB x.pre S) <;> rw [hb] at h
    · exact callE_of (fun z hz => hx z (List.mem_cons_of_mem _ hz)) F k args S v S' h y w hR hl
    · cases (Option.some.inj h)
      simp only [Bool.and_eq_true] at hb
      obtain ⟨⟨⟨h1, h2⟩, h3⟩, h4⟩ := hb
      have h1 := Nat.eq_of_beq_eq_true h1
      have h2 := AV.eqbs_eq h2
      have h3 := Nat.eq_of_beq_eq_true h3
      subst h1
      subst h2
      obtain ⟨call, hc, he⟩ := hx x List.mem_cons_self
      unfold entB at he
      split at he
      · rename_i v' S1 hcall
        simp only [Bool.and_eq_true] at he
        obtain ⟨⟨e1, e2⟩, e3⟩ := he
        have e1 := AV.eqb_eq e1
        have e2 := Nat.eq_of_beq_eq_true e2
        have hR2 := hR.sub h4
        rw [h3] at hR2
        obtain ⟨k1, k2⟩ := hc F _ _ _ _ _ hcall y w hR2 (by show AV.lts x.pn _ = true; rw [← h3]; exact hl)
        refine ⟨k1, Calls.mono k2 ?_⟩
        rintro e w' ⟨u, rfl, y', q1, q2, q3, q4, rfl⟩
        have q1' := q1.sub e3
        rw [e2] at q1' q4 q3
        exact ⟨_, rfl, y', q1', by rw [h3]; exact q2, by rw [h3]; exact q3, by rw [← e1]; exact q4, by rw [e1]⟩
      · cases he
def Frm.all (w : World) : Frm := ⟨w, fun i => i < w.heap.size, fun _ h => h⟩
theorem Frm.all_ext {w w' : World} (h : Ext (fun i => ¬ (Frm.all w).pr i) w w') : Ext no w w' := h.mono fun k hk hn => hn hk
def isN (r : Option (AX × Fr × AS)) : Bool := match r with | some (.normal, (_, []), _) => true | _ => false
theorem rcv_of (hT : TabOk P T) {k : FuncId} {fn : Func} {i0 : Nat} {o : Oper} {c2 : Code} {d : Nat} (hf : P.funcs[k]? = some fn) (hb : fn.body = some (.seq (.region i0 #[o] false) c2)) (ho : o.op = .call { callee := .builtin .recover, args := #[], argTypes := #[] })
    (hgd : o.guard = none) (hd : o.dst = some d) (hdm : d < fn.ntmps) (hres : fn.results = #[]) (hpar : fn.params.size = 0) {f : Nat} (hrun : isN (runCode P T 0 fn.ntmps (fun _ _ _ => none) f c2 none (Tr.put (dp d) .lf d (some (.lit .nilIface)), []) ⟨.lf, 0⟩) = true)
    (args : Array Value) (hargs : args.size ≤ fn.ntmps) (w : World) : CallsD P k args .returning w fun e u' w' => u' = .returning ∧ (∃ v, e = .returned v) ∧ Ext no w w' := by
  refine callsD_of_wpS hf hb fun c₀ cs hm => ?_
  refine wpS_seq ?_
  refine wpS_region ?_
  have hrec : recoverD (c₀ :: cs) = none := by
    unfold recoverD
    simp only [hm]
  have hop : ∀ a : Act, (execOp a.eval o).run P w = .ok .recover w := fun a => by simp [execOp, ho, resolve, invoke, builtin]
  have h0 : (List.range (#[o] : Array Oper).size) = [0] := rfl
  rw [h0]
  have h1 : (#[o] : Array Oper)[0]? = some o := rfl
  simp only [wpOpsS, h1, if_pos (wanted_none hgd _), hop, hrec, hd]
  refine wpS_of_wp ?_
  unfold isN at hrun
  split at hrun
  · rename_i e' S' hr
    have hsz : (args ++ Array.replicate (fn.ntmps - args.size) undef).size = fn.ntmps := by simp; omega
    have hA : At (Frm.all w) 0 fn.ntmps ⟨id, id⟩ 0 (Tr.put (dp d) .lf d (some (.lit .nilIface)), []) ⟨.lf, 0⟩ ((⟨args ++ Array.replicate (fn.ntmps - args.size) undef, []⟩ : Act).put (some d) .nilIface) w := by
      refine ⟨fun t => ((Tr.put (dp d) .lf d (some (.lit .nilIface)) : Tr AV).get t).map (AV.g ⟨id, id⟩), ⟨id, id⟩, ⟨rfl, by rw [put_nod]; simp only [nod, Act.put, Array.size_setIfInBounds]; exact hsz, fun t v hv => ?_⟩, ⟨fun t => rfl, fun t v hv => ?_⟩, ⟨⟨rfl, rfl, rfl, Nat.le_refl _, fun _ _ _ => rfl⟩, fun r hr => rfl, (fun r R hr => by cases hr), (fun r R hr => by cases hr), (fun r r' R R' hr => by cases hr), Nat.le_refl _, Nat.zero_le _⟩, Lay.same_refl _ _, Nat.le_refl _, .nil⟩
      · rw [Tr.put_get] at hv
        by_cases e1 : t = d
        · rw [if_pos e1] at hv
          cases hv
          subst e1
          rw [put_nod]
          simp only [nod, Act.put]
          rw [Array.getElem?_setIfInBounds_self_of_lt (by rw [hsz]; exact hdm)]
          rfl
        · rw [if_neg e1] at hv
          cases hv
      · rw [Tr.put_get] at hv
        by_cases e1 : t = d
        · rw [if_pos e1] at hv
          cases hv
          rfl
        · rw [if_neg e1] at hv
          cases hv
    refine runCode_of hT (fun F k args S v S' h => by cases h) f (sc := none) hA hr fun a' w' hA' => ?_
    obtain ⟨env', y', q1, q2, q3, q4, q5, q6⟩ := hA'.ex
    have hds : a'.defers = [] := by
      generalize a'.defers = ds at q6
      cases q6
      rfl
    have hr0 : (results fn a'.tmps).run P w' = .ok (.tuple #[]) w' := by
      rw [results_eq, hres]
      simp
    exact ⟨hds, .returning, by cases c₀; simp only at hm; subst hm; rfl, _, hr0, rfl, ⟨_, rfl⟩, Frm.all_ext q3.ext⟩
  · cases hrun
end
end
end Go.Cx
namespace Go.Proofs.YtndbhmmejjhcfaaGreatDoor
open Go Go.Sx Go.Cx Go.Proofs
noncomputable section
set_option maxRecDepth 100000
def trL {α : Type} : List α → Nat → Tr α → Tr α
  | [], _, t => t
  | x :: l, i, t => trL l (i + 1) (Tr.put (dp i) t i (some x))
theorem trL_get {α : Type} : ∀ (l : List α) (i : Nat) (e : Tr α) (t : Nat) (v : α), (trL l i e).get t = some v → (i ≤ t ∧ l[t - i]? = some v) ∨ e.get t = some v
  | [], _, _, _, _, h => .inr h
  | u :: l, i, e, t, v, h => by
    rcases trL_get l (i + 1) _ t v h with ⟨h1, h2⟩ | h
    · refine .inl ⟨by omega, ?_⟩
      rw [show t - i = (t - (i + 1)) + 1 by omega]
      simpa using h2
    · rw [Tr.put_get] at h
      by_cases e : t = i
      · rw [if_pos e] at h
        cases h
        exact .inl ⟨by omega, by rw [e, Nat.sub_self]; rfl⟩
      · rw [if_neg e] at h
        exact .inr h
theorem trL_arr {α : Type} {l : Array α} {t : Nat} {v : α} (h : (trL l.toList 0 .lf).get t = some v) : l[t]? = some v := by
  rcases trL_get _ _ _ _ _ h with ⟨_, h2⟩ | h2
  · simpa using h2
  · cases h2
def extP (P : Program) (k : FuncId) (vs : List AV) : Option AV := match AV.vals vs with
  | some us => match pr P (callFunc k us.toArray) with
    | some (.value v) => some (.lit v)
    | _ => none
  | none => none
def extI : List AV → Option AV
  | [x] => some x
  | _ => none
def tab0 : Tab := ⟨trL Tryz.prog.types.toList 0 .lf, trL Tryz.prog.funcs.toList 0 .lf, .lf, .lf⟩
def tab : Tab := ⟨trL Tryz.prog.types.toList 0 .lf, trL Tryz.prog.funcs.toList 0 .lf, Tr.put (dp 297) (Tr.put (dp 218) .lf 218 (some (extP Tryz.prog 218))) 297 (some extI), Tr.put (dp 79) (Tr.put (dp 30) .lf 30 (some 4)) 79 (some 4)⟩
theorem mixed : Tryz.prog.follows .mixedOrders = true := by kernel_rfl
theorem inf_of {t : Nat} {i : TypeInfo} (h : (trL Tryz.prog.types.toList 0 .lf).get t = some i) : Tryz.prog.info? t = some i := by
  have h := trL_arr h
  obtain ⟨hl, _⟩ := Array.getElem?_eq_some_iff.1 h
  show Tables.info? _ t = _
  unfold Tables.info?
  rw [if_pos hl, h]
theorem tab0Ok : TabOk Tryz.prog tab0 := ⟨fun t i h => inf_of h, fun k f h => trL_arr h, mixed, (fun k m h => by cases h), (fun k f h => by cases h)⟩
theorem ok30 : callOk Tryz.prog 30 = true := by kernel_rfl
theorem ok79 : callOk Tryz.prog 79 = true := by kernel_rfl
theorem extI_run (v : Value) : pr Tryz.prog (callFunc 297 #[v]) = some (.value v) :=
  have h : (fun v => pr Tryz.prog (callFunc 297 #[v])) = fun v => some (.value v) := by kernel_rfl
  congrFun h v
theorem rcv30 (args : Array Value) (hs : args.size ≤ Tryz.f30.ntmps) (w : World) : CallsD Tryz.prog 30 args .returning w fun e u' w' => u' = .returning ∧ (∃ v, e = .returned v) ∧ Ext no w w' :=
  rcv_of tab0Ok Tryz.func30 rfl rfl rfl rfl (by decide) rfl rfl (f := 100) (by kernel_rfl) args hs w
theorem rcv79 (args : Array Value) (hs : args.size ≤ Tryz.f79.ntmps) (w : World) : CallsD Tryz.prog 79 args .returning w fun e u' w' => u' = .returning ∧ (∃ v, e = .returned v) ∧ Ext no w w' :=
  rcv_of tab0Ok Tryz.func79 rfl rfl rfl rfl (by decide) rfl rfl (f := 100) (by kernel_rfl) args hs w
theorem rcv_tab (k m : Nat) (h : tab.rcv.get k = some m) : callOk Tryz.prog k = true ∧ ∀ args w, args.size ≤ m → CallsD Tryz.prog k args .returning w fun e u' w' => u' = .returning ∧ (∃ v, e = .returned v) ∧ Ext no w w' := by
  unfold tab at h
  simp only [Tr.put_get] at h
  by_cases e1 : k = 79
  · subst e1
    cases h
    exact ⟨ok79, fun args w hs => rcv79 args (Nat.le_trans hs (by decide)) w⟩
  rw [if_neg e1] at h
  by_cases e2 : k = 30
  · subst e2
    cases h
    exact ⟨ok30, fun args w hs => rcv30 args (Nat.le_trans hs (by decide)) w⟩
  rw [if_neg e2] at h
  cases h
theorem ext_tab (k : Nat) (f : List AV → Option AV) (h : tab.ext.get k = some f) (args : List AV) (v : AV) (hv : f args = some v) (y : Lay) (n : Nat) (hl : AV.lts n args = true) : v.lt n = true ∧ ∀ w, (callFunc k (AV.gs y args).toArray).run Tryz.prog w = .ok (.value (v.g y)) w := by
  unfold tab at h
  simp only [Tr.put_get] at h
  by_cases e1 : k = 297
  · subst e1
    cases h
    unfold extI at hv
    split at hv
    · rename_i x
      cases hv
      refine ⟨by simpa [AV.lts] using hl, fun w => ?_⟩
      exact pr_run (extI_run _) w
    · cases hv
  rw [if_neg e1] at h
  by_cases e2 : k = 218
  · subst e2
    cases h
    unfold extP at hv
    split at hv
    · rename_i us hus
      split at hv
      · rename_i u hp
        cases hv
        refine ⟨rfl, fun w => ?_⟩
        rw [AV.vals_g y hus]
        exact pr_run hp w
      · cases hv
    · cases hv
  rw [if_neg e2] at h
  cases h
theorem tabOk : TabOk Tryz.prog tab := ⟨fun t i h => inf_of h, fun k f h => trL_arr h, mixed, rcv_tab, ext_tab⟩
def nibs : List Int := [0, 498536548, 997073096, 651767980, 1994146192, 1802195444, 1303535960, 1342533948, 3988292384, 4027552580, 3604390888, 3412177804, 2607071920, 2262029012, 2685067896, 3183342108]
def plains : List (List UInt8) := [[], [], [], [], [], [], [], [], [], [], [], [], [], [], [], [], [105, 105], [105], [105, 105], [105], [105, 105], [105], [105, 105], [105], [105, 105], [105], [105], [105], [102, 102], [102], [102, 102], [102], [102, 102], [102], [102, 102], [102], [102], [102], [84, 84], [98], [84, 84], [98], [78, 78], [98], [78, 78], [98], [78, 78], [98], [78, 78], [98], [98], [98], [105], [102], [102], [105], [], [], [], [], [], [], [], [], [], [], [84], []]
def typs : List (List UInt8) := [[], [105, 110, 116], [102, 105, 120], [98, 111, 111, 108], [101, 110, 116]]
def sgns : List (List UInt8) := [[], [43], [45], [42], [47], [37], [61, 61], [33, 61], [60], [60, 61], [62], [62, 61], [38, 38], [124, 124], [45], [33]]
def strL (l : List (List UInt8)) : List AV := l.map fun b => .lit (.string ⟨b.toArray⟩)
def gr0 : Nat × ARow := (0, ⟨0, 0, nibs.map fun x => .lit (.int .u32 x), none⟩)
def gr1 : Nat × ARow := (1, ⟨0, 0, strL plains, none⟩)
def gr2 : Nat × ARow := (2, ⟨0, 0, strL typs, none⟩)
def gr10 : Nat × ARow := (10, ⟨0, 0, strL sgns, none⟩)
def S0 : AS := mkS 14 [gr0, gr1, gr2, gr10]
def avI (n : Int) : AV := .lit (.int .i64 n)
def avY (l : List UInt8) : AV := .lit (.string ⟨l.toArray⟩)
def r103 : Nat × ARow := (103, ⟨122, 2, [(avY [120]), (avI 1)], none⟩)
def r176 : Nat × ARow := (176, ⟨246, 8, [(avI 5), (avI 0), (avI 0), (avY [120]), (.lit (.slice none 0 0)), (avI 23), (avI 0), (avI 0), (avI 1), (avI 0), (avI 2), (avY []), (.lit (.slice none 0 0)), (avI 25), (avI 0), (avI 0)], none⟩)
def r196 : Nat × ARow := (196, ⟨246, 8, [(avI 9), (avI 3), (avI 0), (avY []), (.sl 176 0 8 2 (some 2)), (avI 24), (avI 0), (avI 0), (avI 1), (avI 0), (avI 1), (avY []), (.lit (.slice none 0 0)), (avI 27), (avI 0), (avI 0)], none⟩)
def r198 : Nat × ARow := (198, ⟨246, 8, [(avI 9), (avI 1), (avI 0), (avY []), (.sl 196 0 8 2 (some 2)), (avI 26), (avI 0), (avI 0)], none⟩)
def r203 : Nat × ARow := (203, ⟨185, 8, [(avI 6), (avY []), (avI 0), (.sl 198 0 8 1 (some 1)), (.lit (.slice none 0 0)), (.lit (.slice none 0 0)), (avI 16), (avI 0)], none⟩)
def r212 : Nat × ARow := (212, ⟨110, 6, [(avY [102]), (.sl 103 0 2 1 none), (avI 1), (.sl 203 0 8 1 none), (avI 3), (.lit (.slice none 0 0))], none⟩)
def r214 : Nat × ARow := (214, ⟨52, 0, [(.lit (.slice none 0 0)), (.sl 212 0 6 1 none)], none⟩)
def r215 : Nat × ARow := (215, ⟨54, 0, [(avI 0), (avI 0)], none⟩)
def r644 : Nat × ARow := (644, ⟨3, 1, [(avI 1)], none⟩)
def r649 : Nat × ARow := (649, ⟨3, 1, [(avI 1)], none⟩)
def r677 : Nat × ARow := (677, ⟨81, 3, [(avI 2), (avI 0), (avI 0), (avI 1), (avI 2), (avI 1), (avI 10), (avI 0), (avI 0), (avI 1), (avI 1), (avI 1), (avI 8), (avI 0), (avI 0), (avI 32), (avI 0), (avI 0), (avI 1), (avI 0), (avI 1), (avI 32), (avI 0), (avI 0)], none⟩)
def r679 : Nat × ARow := (679, ⟨42, 5, [(avY [102]), (.sl 649 0 1 1 none), (avI 1), (.sl 644 0 1 1 none), (.sl 677 0 3 8 none)], none⟩)
def r680 : Nat × ARow := (680, ⟨31, 0, [(.lit (.slice none 0 0)), (.sl 679 0 5 1 none)], none⟩)
def r681 : Nat × ARow := (681, ⟨3, 1, [(avI 20)], none⟩)
def e9 : Ent := ⟨9, [(avY [102, 110, 32, 102, 40, 120, 58, 105, 110, 116, 41, 58, 105, 110, 116, 123, 114, 101, 116, 117, 114, 110, 32, 120, 42, 50, 43, 49, 59, 125])], 14, [gr0, gr1, gr2, gr10], (.tup [(.agg [(.lit (.slice none 0 0)), (.sl 212 0 6 1 none)]), (.agg [(avI 0), (avI 0)])]), 214, [gr0, gr1, gr2, gr10, r103, r176, r196, r198, r203, r212]⟩
def e10 : Ent := ⟨10, [(.agg [(.lit (.slice none 0 0)), (.sl 212 0 6 1 none)])], 216, [gr0, gr1, gr2, gr10, r103, r176, r196, r198, r203, r212, r214, r215], (.tup [(.agg [(.lit (.slice none 0 0)), (.sl 679 0 5 1 none)]), (avI 0)]), 680, [gr0, gr1, gr2, gr10, r103, r176, r196, r198, r203, r212, r214, r215, r644, r649, r677, r679]⟩
def e8 : Ent := ⟨8, [(.agg [(.lit (.slice none 0 0)), (.sl 679 0 5 1 none)]), (.lit (.slice none 0 0)), (avI 0), (.sl 681 0 1 1 (some 1)), (avI 100), (.lit (.slice none 0 0))], 682, [gr0, gr1, gr2, gr10, r644, r649, r677, r679, r680, r681, r215], (.tup [(.agg [(avI 0), (avI 41), (avI 94), (.lit (.slice none 0 0)), (.lit (.slice none 0 0))]), (avI 0)]), 1028, [gr0, gr1, gr2, gr10, r644, r649, r677, r679, r680, r681, r215]⟩
end
end Go.Proofs.YtndbhmmejjhcfaaGreatDoor
